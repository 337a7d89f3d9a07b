/-
  Lemmas and walks that the claim rests on, part 5 (packed by a program).
-/
import Derived.Test.YtifhejahbbnkiaaGreatC2
import Derived.Shelf.GgSortFunc.Whole
import Derived.Shelf.GgSortFunc.Tiny
import Derived.Lib.SortBridge
import Derived.Lib.RowBridge
import Derived.Test.YtifhejahbbnkiaaGreatC1
import Derived.Test.YtifhejahbbnkiaaGreatC4
import Derived.Laws.ResultCell
import Derived.Laws.Rows
import Derived.Test.YtifhejahbbnkiaaGreatC3
namespace Go.Proofs.YtifhejahbbnkiaaGreat
open Go.RowKit Go.Shelf Go.Sort
def lays6_ren:Go.Shelf.Ren:=⟨fun | 6=>76 | 10=>138 | 11=>139 | 12=>140 | 13=>141 | 14=>142 | 24=>196 | 25=>197 | 26=>198 | 27=>199 | 28=>200 | 29=>201 | 30=>202 | 31=>203 | 32=>204 | 33=>205 | 34=>229 | 35=>230 | 36=>231 | 37=>232 | 38=>233 | 39=>244 | n=>n,fun | 20=>20 | 26=>137 | 35=>198 | 0=>0 | 37=>200 | 3=>3 | 41=>132 | 44=>205 | 49=>238 | 51=>193 | 4=>4 | 54=>242 | 53=>241 | 58=>108 | 5=>5 | 9=>9 | 60=>262 | 64=>266 | 66=>277 | 67=>278 | 17=>17 | 32=>195 | 33=>196 | 82=>306 | 12=>12 | 75=>300 | 76=>301 | 77=>302 | 78=>188 | 79=>303 | 80=>304 | n=>n,fun | n=>n⟩
theorem lays6:Go.Proofs.LaysGg.n6 Tryz.prog lays6_ren:={
 mixed:=by kernel_rfl
 f6:=Tryz.func76.trans (congrArg some (by kernel_rfl))
 f10:=Tryz.func138.trans (congrArg some (by kernel_rfl))
 f11:=Tryz.func139.trans (congrArg some (by kernel_rfl))
 f12:=Tryz.func140.trans (congrArg some (by kernel_rfl))
 f13:=Tryz.func141.trans (congrArg some (by kernel_rfl))
 f14:=Tryz.func142.trans (congrArg some (by kernel_rfl))
 f24:=Tryz.func196.trans (congrArg some (by kernel_rfl))
 f25:=Tryz.func197.trans (congrArg some (by kernel_rfl))
 f26:=Tryz.func198.trans (congrArg some (by kernel_rfl))
 f27:=Tryz.func199.trans (congrArg some (by kernel_rfl))
 f28:=Tryz.func200.trans (congrArg some (by kernel_rfl))
 f29:=Tryz.func201.trans (congrArg some (by kernel_rfl))
 f30:=Tryz.func202.trans (congrArg some (by kernel_rfl))
 f31:=Tryz.func203.trans (congrArg some (by kernel_rfl))
 f32:=Tryz.func204.trans (congrArg some (by kernel_rfl))
 f33:=Tryz.func205.trans (congrArg some (by kernel_rfl))
 f34:=Tryz.func229.trans (congrArg some (by kernel_rfl))
 f35:=Tryz.func230.trans (congrArg some (by kernel_rfl))
 f36:=Tryz.func231.trans (congrArg some (by kernel_rfl))
 f37:=Tryz.func232.trans (congrArg some (by kernel_rfl))
 f38:=Tryz.func233.trans (congrArg some (by kernel_rfl))
 f39:=Tryz.func244.trans (congrArg some (by kernel_rfl))
 t0:=Tryz.underlying0
 a0:=Tryz.isAgg0
 z0:=Tryz.sizeOf0
 v0:=Tryz.zeroValue0
 i0:=by kernel_rfl
 t3:=Tryz.underlying3
 a3:=Tryz.isAgg3
 z3:=Tryz.sizeOf3
 v3:=Tryz.zeroValue3
 i3:=by kernel_rfl
 t4:=Tryz.underlying4
 a4:=Tryz.isAgg4
 z4:=Tryz.sizeOf4
 v4:=Tryz.zeroValue4
 i4:=by kernel_rfl
 t5:=Tryz.underlying5
 a5:=Tryz.isAgg5
 z5:=Tryz.sizeOf5
 v5:=Tryz.zeroValue5
 i5:=by kernel_rfl
 t9:=Tryz.underlying9
 a9:=Tryz.isAgg9
 z9:=Tryz.sizeOf9
 v9:=Tryz.zeroValue9
 i9:=by kernel_rfl
 t12:=Tryz.underlying12
 a12:=Tryz.isAgg12
 z12:=Tryz.sizeOf12
 v12:=Tryz.zeroValue12
 i12:=by kernel_rfl
 t17:=Tryz.underlying17
 a17:=Tryz.isAgg17
 z17:=Tryz.sizeOf17
 v17:=Tryz.zeroValue17
 i17:=by kernel_rfl
 t20:=Tryz.underlying20
 a20:=Tryz.isAgg20
 z20:=Tryz.sizeOf20
 v20:=Tryz.zeroValue20
 i20:=by kernel_rfl
 t26:=Tryz.underlying137
 a26:=Tryz.isAgg137
 z26:=Tryz.sizeOf137
 v26:=Tryz.zeroValue137
 i26:=by kernel_rfl
 t32:=Tryz.underlying195
 a32:=Tryz.isAgg195
 z32:=Tryz.sizeOf195
 v32:=Tryz.zeroValue195
 i32:=by kernel_rfl
 t33:=Tryz.underlying196
 a33:=Tryz.isAgg196
 z33:=Tryz.sizeOf196
 v33:=Tryz.zeroValue196
 i33:=by kernel_rfl
 t35:=Tryz.underlying198
 a35:=Tryz.isAgg198
 z35:=Tryz.sizeOf198
 v35:=Tryz.zeroValue198
 i35:=by kernel_rfl
 t37:=Tryz.underlying200
 a37:=Tryz.isAgg200
 z37:=Tryz.sizeOf200
 v37:=Tryz.zeroValue200
 i37:=by kernel_rfl
 t41:=Tryz.underlying132
 a41:=Tryz.isAgg132
 z41:=Tryz.sizeOf132
 v41:=Tryz.zeroValue132
 i41:=by kernel_rfl
 t44:=Tryz.underlying205
 a44:=Tryz.isAgg205
 z44:=Tryz.sizeOf205
 v44:=Tryz.zeroValue205
 i44:=by kernel_rfl
 t49:=Tryz.underlying238
 a49:=Tryz.isAgg238
 z49:=Tryz.sizeOf238
 v49:=Tryz.zeroValue238
 i49:=by kernel_rfl
 t51:=Tryz.underlying193
 a51:=Tryz.isAgg193
 z51:=Tryz.sizeOf193
 v51:=Tryz.zeroValue193
 i51:=by kernel_rfl
 t53:=Tryz.underlying241
 a53:=Tryz.isAgg241
 z53:=Tryz.sizeOf241
 v53:=Tryz.zeroValue241
 i53:=by kernel_rfl
 t54:=Tryz.underlying242
 a54:=Tryz.isAgg242
 z54:=Tryz.sizeOf242
 v54:=Tryz.zeroValue242
 i54:=by kernel_rfl
 t58:=Tryz.underlying108
 a58:=Tryz.isAgg108
 z58:=Tryz.sizeOf108
 v58:=Tryz.zeroValue108
 i58:=by kernel_rfl
 t60:=Tryz.underlying262
 a60:=Tryz.isAgg262
 z60:=Tryz.sizeOf262
 v60:=Tryz.zeroValue262
 i60:=by kernel_rfl
 t64:=Tryz.underlying266
 a64:=Tryz.isAgg266
 z64:=Tryz.sizeOf266
 v64:=Tryz.zeroValue266
 i64:=by kernel_rfl
 t66:=Tryz.underlying277
 a66:=Tryz.isAgg277
 z66:=Tryz.sizeOf277
 v66:=Tryz.zeroValue277
 i66:=by kernel_rfl
 t67:=Tryz.underlying278
 a67:=Tryz.isAgg278
 z67:=Tryz.sizeOf278
 v67:=Tryz.zeroValue278
 i67:=by kernel_rfl
 t75:=Tryz.underlying300
 a75:=Tryz.isAgg300
 z75:=Tryz.sizeOf300
 v75:=Tryz.zeroValue300
 i75:=by kernel_rfl
 t76:=Tryz.underlying301
 a76:=Tryz.isAgg301
 z76:=Tryz.sizeOf301
 v76:=Tryz.zeroValue301
 i76:=by kernel_rfl
 t77:=Tryz.underlying302
 a77:=Tryz.isAgg302
 z77:=Tryz.sizeOf302
 v77:=Tryz.zeroValue302
 i77:=by kernel_rfl
 t78:=Tryz.underlying188
 a78:=Tryz.isAgg188
 z78:=Tryz.sizeOf188
 v78:=Tryz.zeroValue188
 i78:=by kernel_rfl
 t79:=Tryz.underlying303
 a79:=Tryz.isAgg303
 z79:=Tryz.sizeOf303
 v79:=Tryz.zeroValue303
 i79:=by kernel_rfl
 t80:=Tryz.underlying304
 a80:=Tryz.isAgg304
 z80:=Tryz.sizeOf304
 v80:=Tryz.zeroValue304
 i80:=by kernel_rfl
 t82:=Tryz.underlying306
 a82:=Tryz.isAgg306
 z82:=Tryz.sizeOf306
 v82:=Tryz.zeroValue306
 i82:=by kernel_rfl }
noncomputable def siT:TypeInfo:=(Tryz.prog.info? 118).get (by kernel_rfl)
noncomputable def siE:TypeInfo:=(Tryz.prog.info? 84).get (by kernel_rfl)
theorem siK (n:Nat):Go.Lib.swapperK n siE 23=if n=0 then 1 else if n=1 then 2 else 9:=by
 have a:siE.hasPointers=true:=by kernel_rfl
 have b:siE.bytes=24:=by kernel_rfl
 unfold Go.Lib.swapperK;rw [a,b];by_cases h0:n=0
 ·subst h0;rfl
 ·by_cases h1:n=1
  ·subst h1;rfl
  ·rw [if_neg h0,if_neg h1];have c:(n==0)=false:=by simpa using h0
   have d:(n==1)=false:=by simpa using h1
   rw [c,d];rfl
theorem bytesLess_bbs:∀a b:List Bool,Op.bytesLess (bbs a) (bbs b)=ltB a b
 | [],[]=>rfl
 | [],_::_=>rfl
 | _::_,[]=>rfl
 | a::x,b::y=>by
  have ih:=bytesLess_bbs x y;show (decide (bbit a<bbit b) || (bbit a==bbit b&&Op.bytesLess (bbs x) (bbs y)))=if a=b then ltB x y else !a
  rw [ih];cases a <;> cases b <;> rfl
theorem swo_ltB {α:Type} [Inhabited α] (f:α→List Bool):SWO (fun a b=>ltB (f a) (f b)) where
 irrefl:=fun x=>ltB_irrefl _
 trans:=fun x y z h1 h2=>ltB_trans h1 h2
 ntrans:=fun x y z h1 h2=>by
  rw [Bool.eq_false_iff];intro h;rcases ltB_total (f x) (f y) with q | q | q
  ·rw [h1] at q;cases q
  ·rw [q] at h;rw [h2] at h;cases h
  ·rcases ltB_total (f y) (f z) with p | p | p
   ·rw [h2] at p;cases p
   ·rw [←p] at h;rw [h1] at h;cases h
   ·have:=ltB_trans (ltB_trans h p) q;rw [ltB_irrefl] at this;cases this
theorem run_rowstr {w:World} {F:Nat→Prop} {A:Option Addr} {l:List UInt8} {n c:Nat} (h:Sl w F A (u8s l)) (hn:n=l.length):(convert 84 9 (.slice A n c)).run Tryz.prog w=.ok (.string (kstr l)) w:=by
 have hs:Sl w F A ((l.map fun x=>(x.toNat:Int)).map fun x=>Value.int .u8 x):=by
  rw [List.map_map];exact h
 rw [run_str Tryz.underlying84 Tryz.underlying5 Tryz.underlying9 hs (by simpa using hn),bstr_u8]
theorem kstr_toList (l:List UInt8):(kstr l).toList=l:=by rw [ByteArray.toList_eq];simp [kstr]
set_option maxRecDepth 100000 in
set_option maxHeartbeats 4000000 in
theorem aLess_c {W:World} {RB g off n c i j:Nat} (hs:W.cell? ⟨RB,0,none⟩=some (.slice (some ⟨g,off,none⟩) n c)) (hi:i<n) (hj:j<n) {A1 A2:Option Addr} {F1 F2:Nat→Prop} {c1 c2:Nat} {x y:List Bool}
  (h1:W.cell? ⟨g,off+i,none⟩=some (.slice A1 x.length c1)) (h2:W.cell? ⟨g,off+j,none⟩=some (.slice A2 y.length c2)) (s1:Sl W F1 A1 (u8s (bbs x))) (s2:Sl W F2 A2 (u8s (bbs y))) :
  Calls Tryz.prog 77 #[.int .i64 i,.int .i64 j,.pointer (some ⟨RB,0,none⟩)] W fun e w'=>e=.returned (.bool (ltB x y))∧∃q,w'=W.drewN q:=by
 have l1:x.length=(bbs x).length:=by unfold bbs;rw [List.length_map]
 have l2:y.length=(bbs y).length:=by unfold bbs;rw [List.length_map]
 obtain ⟨wD,HwD⟩:=nm W.drew;have uD:Upd Non W wD:=by rw [←HwD.out];exact Upd.refl.drew
 have r1:=run_rowstr (c:=c1) (s1.upd uD (fun _ _ _ f=>f)) l1;have r2:=run_rowstr (c:=c2) (s2.upd uD (fun _ _ _ f=>f)) l2;have d0:=u_ hs uD (fun f=>f);have d1:=u_ h1 uD (fun f=>f);have d2:=u_ h2 uD (fun f=>f);have HR:Hid (Op.bytesLess (kstr (bbs x)).toList (kstr (bbs y)).toList=ltB x y):=by show _=_;rw [kstr_toList,kstr_toList,bytesLess_bbs]
 have i0:(0:Int)≤(i:Int):=by omega
 have i1:(i:Int)<(n:Int):=by omega
 have j0:(0:Int)≤(j:Int):=by omega
 have j1:(j:Int)<(n:Int):=by omega
 generalize x.length=xl at *;generalize y.length=yl at *;generalize kstr (bbs x)=sx at *;generalize kstr (bbs y)=sy at *;clear s1 s2 l1 l2 uD hs h1 h2;go_enter Tryz.func77,Tryz.ntmps77;go_wp2_with fail
 refine wp_region_held_drew (S:=fun w'=>w'.cell? ⟨RB,0,none⟩=some (.slice (some ⟨g,off,none⟩) n c)∧w'.cell? ⟨g,off+i,none⟩=some (.slice A1 xl c1)∧w'.cell? ⟨g,off+j,none⟩=some (.slice A2 yl c2)∧(convert 84 9 (.slice A1 xl c1)).run Tryz.prog w'=.ok (.string sx) w'∧(convert 84 9 (.slice A2 yl c2)).run Tryz.prog w'=.ok (.string sy) w') (by kernel_rfl) (by rw [HwD.out];exact ⟨d0,d1,d2,r1,r2⟩) (fun hHeld=>?_)
 refine wpT 0 ?_;(try simp only [y_,z_]);refine wpT 1 ?_;(try simp only [y_,z_]);refine wpT 2 ?_;(try simp only [y_,z_]);refine wpT 3 ?_;(try simp only [y_,z_]);refine wpT 4 ?_;(try simp only [y_,z_]);refine wpT 5 ?_;(try simp only [y_,z_]);refine wpT 6 ?_;(try simp only [y_,z_]);refine wpT 7 ?_;(try simp only [y_,z_]);refine wpT 8 ?_;(try simp only [y_,z_]);refine wpT 9 ?_;(try simp only [y_,z_]);refine wpT 10 ?_;(try simp only [y_,z_]);refine wpT 11 ?_;(try simp only [y_,z_]);refine aD_ (by kernel_rfl) ?_ _;go_wp2_with fail
 go_ret;exact ⟨by rw [←HR.out];rfl,1,rfl⟩
theorem upd_grow (w:World) (os:Array Obj):Upd Non w (grow w os):=⟨rfl,rfl,rfl,by show w.heap.size≤(w.heap++os).size;rw [Array.size_append];omega,fun k hk _=>by show (w.heap++os)[k]?=_;rw [Array.getElem?_append_left hk]⟩
theorem upd_putRow {α:Type} [Inhabited α] (enc:α→Value) (w:World) (g off:Nat) (d:Array α):Upd (·=g) w (putRow enc w g off d):=⟨rfl,rfl,rfl,by show w.heap.size≤(w.heap.modify g _).size;rw [Array.size_modify];exact Nat.le_refl _,fun k _ hk=>by show (w.heap.modify g _)[k]?=_;rw [Array.getElem?_modify,if_neg (fun e=>hk e.symm)]⟩
theorem upd_sortW {α:Type} [Inhabited α] (enc:α→Value) (w:World) (g off m:Nat) (d:Array α) (os:Array Obj):Upd (·=g) w (sortWorld enc w g off m d os) :=
 ((show Upd (·=g) w (Sort.ahead w m) from ⟨rfl,rfl,rfl,Nat.le_refl _,fun _ _ _=>rfl⟩).trans (upd_putRow enc _ g off d) (fun _ _ q=>q)).trans (upd_grow _ os) (fun _ _ f=>f.elim)
def setL:List Value→Nat→List Value→List Value
 | cs,_,[]=>cs
 | cs,o,v::r=>setL (cs.set o v) (o+1) r
theorem setL_eq:∀(vs cs:List Value) (o:Nat),o+vs.length≤cs.length→setL cs o vs=cs.take o++(vs++cs.drop (o+vs.length))
 | [],cs,o,_=>by simp [setL]
 | v::r,cs,o,h=>by
  rw [List.length_cons] at h;rw [setL,setL_eq r _ _ (by rw [List.length_set];omega)]
  have e1:(cs.set o v).take (o+1)=cs.take o++[v]:=by
   rw [List.take_succ_eq_append_getElem (by rw [List.length_set];omega),List.getElem_set_self,List.take_set_of_le (Nat.le_refl _)]
  rw [e1,List.drop_set_of_lt (by omega),List.length_cons,List.append_assoc,show o+1+r.length=o+(r.length+1) by omega];rfl
theorem Own.sets {e:TypeId} {g n c:Nat}:∀(vs:List Value) (o:Nat) (w:World) (cs:List Value),Own w e 1 (some ⟨g,0,none⟩) n c cs→Own (w.setCells g o vs) e 1 (some ⟨g,0,none⟩) n c (setL cs o vs)
 | [],_,_,_,h=>h
 | v::r,o,_,_,h=>Own.sets r (o+1) _ _ (h.set_ o v)
set_option maxRecDepth 100000 in
set_option maxHeartbeats 4000000 in
theorem aSort_c {w:World} {RB:Nat} {A:Option Addr} {n c:Nat} {G:Nat→Prop} {L:List (List Bool)} (hE:ElO ElRow 1 84 w G A n c (L.map bbs)) (hRB:w.cell? ⟨RB,0,none⟩=some (.slice A n c)) (hRA:¬At A RB) (hn:n≤1000000000) :
  Calls Tryz.prog 76 #[.iface 118 (.slice A n c),.func (.func 77) #[] #[.pointer (some ⟨RB,0,none⟩)]] w fun e w'=>e=.returned (.tuple #[])∧∃L':List (List Bool),L'.Perm L∧L'.Pairwise (fun a b=>ltB b a=false)∧ElO ElRow 1 84 w' G A n c (L'.map bbs)∧Upd (At A) w w':=by
 have hnL:n=L.length:=by have:=hE.1;rw [List.length_map] at this;exact this
 by_cases h2:2≤n
 ·obtain ⟨_,cs,hO,hC⟩:=hE;obtain ⟨g,rfl⟩:=hO.some_ (by omega);have hcl:cs.length=n:=by rw [hO.len,Nat.mul_one]
  have hgR:RB≠g:=fun e=>hRA (At.some_.2 e)
  have hrow:∀k:Nat,∃RA rc,cs.getD k (.slice none 0 0)=.slice RA (L.getD k []).length rc∧(L.getD k []).length≤rc∧Sl w (fun i=>G i∧¬At (some ⟨g,0,none⟩) i) RA (u8s (bbs (L.getD k []))):=fun k=>by
   by_cases hk:k<n
   ·have h1:=hC.2 k (by rw [List.length_map];omega);obtain ⟨RA,rc,e1,e2,e3⟩:=h1;rw [List.getElem_map] at e1 e2 e3
    have hg:cs[k]?=some (.slice RA (bbs L[k]).length rc):=by
     have : ((cs.drop (1 * k)).take 1)[0]?=some (.slice RA (bbs L[k]).length rc):=by rw [e1];rfl
     rw [List.getElem?_take,if_pos (by decide),List.getElem?_drop] at this;simpa using this
    have hL:L.getD k []=L[k]:=getD_of (by omega);have hbl:(bbs L[k]).length=L[k].length:=by unfold bbs;rw [List.length_map]
    rw [hbl] at hg e2;refine ⟨RA,rc,?_,?_,?_⟩
    ·rw [List.getD_eq_getElem?_getD,hg,hL];rfl
    ·rw [hL];exact e2
    ·rw [hL];exact e3
   ·have hL:L.getD k []=[]:=by rw [List.getD_eq_getElem?_getD,List.getElem?_eq_none (by omega)];rfl
    refine ⟨none,0,?_,?_,?_⟩
    ·rw [List.getD_eq_getElem?_getD,List.getElem?_eq_none (by omega),hL];rfl
    ·rw [hL];exact Nat.le_refl _
    ·rw [hL];exact .inl rfl
  obtain ⟨enc,henc⟩:∃f:Nat→Value,f=fun k=>cs.getD k (.slice none 0 0):=⟨_,rfl⟩
  have hencv:∀k,enc k=cs.getD k (.slice none 0 0):=fun k=>by rw [henc]
  have hone:∀x,(enc x).oneCell'=true:=fun x=>by
   obtain ⟨RA,rc,e1,_⟩:=hrow x;rw [hencv,e1];rfl
  have hd:∀j,j<n→(Array.range n)[j]! = j:=fun j hj=>by simp [hj]
  have hH:Holds enc w g 0 (Array.range n):=fun j hj=>by
   rw [Array.size_range] at hj;refine ⟨?_,hO.frozen_ _⟩;rw [Nat.zero_add,hO.cell_ (i:=j) (by omega),hd j hj,hencv,getD_of (by omega)]
  have hgw:g<w.heap.size:=hO.lt (At.some_.2 rfl)
  have hless:LessReads Tryz.prog 77 #[.pointer (some ⟨RB,0,none⟩)] enc (fun a b=>ltB (L.getD a []) (L.getD b [])) g 0 n w:=by
   intro m os dk hs i j hi hj;have u:=upd_sortW enc w g 0 m dk os
   have hcell:∀t,t<n→(sortWorld enc w g 0 m dk os).cell? ⟨g,0+t,none⟩=some (enc dk[t]!):=fun t ht=>by
    unfold sortWorld;rw [cell?_grow _ _ _ (by show g<(w.heap.modify g _).size;rw [Array.size_modify];exact hgw)];exact cell?_putRow enc _ g 0 (Array.range n) dk (holds_ahead _ _ _ _ _ _ hH) (by rw [hs,Array.size_range]) t (by omega)
   obtain ⟨R1,c1,a1,a2,a3⟩:=hrow dk[i]!;obtain ⟨R2,c2,b1,b2,b3⟩:=hrow dk[j]!;have h1:=hcell i hi;have h2:=hcell j hj;rw [hencv,a1] at h1;rw [hencv,b1] at h2;exact aLess_c (u_ (S:=(·=g)) hRB u hgR) hi hj h1 h2 (a3.upd u (fun k _ q e=>q.2 (At.some_.2 e))) (b3.upd u (fun k _ q e=>q.2 (At.some_.2 e)))
  have hS:=Any.sort_Slice_sorted lays6 118 84 siT siE (by kernel_rfl) (by kernel_rfl) (by kernel_rfl) (by kernel_rfl) 23 (fun _=>by kernel_rfl) (by kernel_rfl) (fun _=>by kernel_rfl) enc hone (fun a b=>ltB (L.getD a []) (L.getD b [])) (swo_ltB _) 77 _
   (enters_of Tryz.func77 (by kernel_rfl) rfl) g 0 c (Array.range n) (by rw [Array.size_range];exact h2) (by rw [Array.size_range];omega) 195 (by rw [siK,Array.size_range,if_neg (by omega),if_neg (by omega)];kernel_rfl) false
   (fun args W=>run_callFunc_extern Tryz.func195 (by kernel_rfl) (by kernel_rfl) (by kernel_rfl) (e:=Extern.ReflectliteSwapper.swap false) (by kernel_rfl) args W) w (by rw [Array.size_range];exact hless) hH hgw
  rw [Array.size_range] at hS
  change Calls Tryz.prog 76 _ _ _ at hS
  refine hS.mono ?_;rintro e w' ⟨rfl,d',q,os,hp,hso,rfl⟩;obtain ⟨hp1,hp2,hp3⟩:=hp;rw [Array.size_range] at hp1;have hx1:d'.extract 0 n=d':=by rw [←hp1];simp
  have hx2:(Array.range n).extract 0 n=Array.range n:=by
   have : (Array.range n).size=n:=Array.size_range
   conv=>lhs;arg 3;rw [←this]
   simp
  rw [hx1,hx2,Array.toList_range] at hp3;have hys:d'.toList.length=(Array.range n).size:=by rw [Array.length_toList,hp1,Array.size_range]
  have hw':=Go.Lib.sorted_world enc w g 0 q (Array.range n) d'.toList os hH hys;rw [Array.toArray_toList] at hw';refine ⟨rfl,d'.toList.map (fun k=>L.getD k []),?_,?_,?_,?_⟩
  ·have h1:=hp3.map (fun k=>L.getD k []);refine h1.trans ?_
   have h3:(List.range n).map (fun k=>L.getD k [])=L:=by
    refine List.ext_getElem (by rw [List.length_map,List.length_range,hnL]) fun i h1 h2=>?_
    rw [List.getElem_map,List.getElem_range,getD_of h2]
   rw [h3]
  ·rw [List.pairwise_map];refine List.pairwise_iff_getElem.2 fun i j hi hj hij=>?_
   rw [Array.length_toList] at hi hj;have:=hso i j (Nat.zero_le _) hij (by omega);rw [getElem!_pos d' i hi,getElem!_pos d' j hj] at this;rw [Array.getElem_toList,Array.getElem_toList];exact this
  ·rw [hw'];refine ⟨by rw [List.length_map,List.length_map,Array.length_toList,hp1],setL cs 0 (d'.toList.map enc),?_,?_⟩
   ·exact (Own.sets _ 0 _ _ ((hO.drewN q))).upd (upd_grow _ os) (fun _ _ f=>f)
   ·have hl:(d'.toList.map enc).length=cs.length:=by rw [List.length_map,Array.length_toList,hp1,hcl]
    rw [setL_eq _ _ _ (by omega),List.take_zero,List.nil_append,Nat.zero_add,hl,List.drop_length,List.append_nil];refine ⟨by rw [List.length_map,List.length_map,List.length_map,Nat.one_mul],fun i hi=>?_⟩;rw [List.length_map,List.length_map] at hi;obtain ⟨RA,rc,e1,e2,e3⟩:=hrow (d'.toList[i]);have hbl:(bbs (L.getD d'.toList[i] [])).length=(L.getD d'.toList[i] []).length:=by unfold bbs;rw [List.length_map]
    have u:Upd (·=g) w (grow ((w.drewN q).setCells g 0 (d'.toList.map enc)) os):=((Upd.refl.drewN q (S:=(·=g))).trans (upd_setCells g _ 0 _) (fun _ _ q=>q)).trans (upd_grow _ os) (fun _ _ f=>f.elim)
    refine ⟨RA,rc,?_,?_,?_⟩
    ·rw [List.getElem_map,List.getElem_map,hbl,←e1,←hencv,Nat.one_mul];rw [List.drop_eq_getElem_cons (by rw [List.length_map];exact hi),List.take_succ_cons,List.take_zero,List.getElem_map]
    ·rw [List.getElem_map,List.getElem_map,hbl];exact e2
    ·rw [List.getElem_map,List.getElem_map];exact e3.upd u (fun k _ q e=>q.2 (At.some_.2 e))
  ·rw [hw'];exact (((Upd.refl.drewN q (S:=(·=g))).trans (upd_setCells g _ 0 _) (fun _ _ q=>q)).trans (upd_grow _ os) (fun _ _ f=>f.elim)).mono (fun i _ q=>At.some_.2 q)
 ·have hK:Go.Lib.swapperK n siE 23=n+1:=by
   rw [siK];rcases Nat.eq_zero_or_pos n with h | h
   ·rw [if_pos h,h]
   ·rw [if_neg (by omega),if_pos (by omega)];omega
  have hS:=Any.sort_Slice_tiny lays6 118 84 siT siE (by kernel_rfl) (by kernel_rfl) (by kernel_rfl) (by kernel_rfl) 23 (fun _=>by kernel_rfl) A n c (by omega) (if n=0 then 187 else 188) (by
   rw [hK];rcases Nat.eq_zero_or_pos n with h | h
   ·subst h;kernel_rfl
   ·obtain rfl:n=1:=by omega
    kernel_rfl) (.func 77) #[] #[.pointer (some ⟨RB,0,none⟩)] w
  change Calls Tryz.prog 76 _ _ _ at hS
  refine hS.mono ?_;rintro e w' ⟨rfl,os,rfl⟩;have u:=upd_grow w os;refine ⟨rfl,L,List.Perm.refl _,?_,hE.upd elRow u (fun _ _ f=>f) (fun _ _ _ f=>f),u.mono (fun _ _ f=>f.elim)⟩
  match L,hnL with
  | [],_=>exact List.Pairwise.nil
  | [x],_=>exact List.pairwise_singleton _ _
  | x::y::r,h=>simp at h;omega
theorem srt_of {L M:List (List Bool)} (hs:L.Pairwise (fun a b=>ltB b a=false)) (hn:L.Nodup) (hM:SrtB M) (h:∀x,x∈L↔x∈M):L=M:=by
 refine srt_ext ?_ hM h;unfold SrtB;refine (List.Pairwise.and hs hn).imp fun {a b} q=>?_
 rcases ltB_total a b with z | z | z
 ·exact z
 ·exact (q.2 z).elim
 ·rw [q.1] at z;cases z
theorem inO_inj {op:Int} (n:Nat) (h:isG op=true) {a b:Bool} (e:inO op n a=inO op n b):a=b:=by
 unfold isG at h;have h:=of_decide_eq_true h;have : op=15∨op=16∨op=17∨op=18∨op=19∨op=22:=by omega
 rcases this with rfl | rfl | rfl | rfl | rfl | rfl <;> (cases a <;> cases b <;> first | rfl | (exfalso;simp [inO,isG] at e))
theorem inP_inj {f g:Nat→Bool} (p:Pt):∀i,inP f p i=inP g p i→∀j,j<gN p→f (i+j)=g (i+j):=by
 induction p using Pt.ind with
 | h p ih =>
  intro i h j hj;rw [inP_iff,inP_iff] at h;rw [gN_iff] at hj;by_cases hv:0<p.v
  ·rw [if_pos hv] at hj;omega
  ·rw [if_neg hv,if_neg hv] at h;rw [if_neg hv] at hj;obtain ⟨h1,h2⟩:=List.append_inj h (by rw [inO_len,inO_len])
   have hl:∀(l:List Pt),(∀q∈l,q∈p.kids)→∀i,inL f l i=inL g l i→∀j,j<gL l→f (i+j)=g (i+j):=by
    intro l
    induction l with
    | nil=>intro _ i _ j hj;simp [gL] at hj
    | cons q qs ihl =>
     intro hq i h j hj;rw [inL,inL] at h;rw [gL] at hj;obtain ⟨h1,h2⟩:=List.append_inj h (by rw [inP_len,inP_len]);by_cases hlt:j<gN q
     ·exact ih q (hq q (by simp)) i h1 j hlt
     ·have:=ihl (fun x hx=>hq x (by simp [hx])) (i+gN q) h2 (j - gN q) (by omega)
      rwa [show i+gN q+(j - gN q)=i+j by omega] at this
   cases hg:isG p.op with
   | false =>
    rw [hg] at hj h2;have:=hl p.kids (fun q h=>h) _ h2 j (by simpa using hj);simpa using this
   | true =>
    rw [hg] at hj h2;by_cases h0:j=0
    ·subst h0;rw [Nat.add_zero];exact inO_inj _ hg h1
    ·have:=hl p.kids (fun q h=>h) _ h2 (j - 1) (by simp at hj;omega)
     rwa [show i+true.toNat+(j - 1)=i+j by simp;omega] at this
theorem initF_inj {f g:Nat→Bool} {r:Rl} (h:initF f r=initF g r):∀j,j<gR r→f j=g j:=by
 intro j hj;unfold initF at h;rw [List.append_assoc,List.append_assoc,List.append_assoc,List.append_assoc] at h;obtain ⟨h1,h2⟩:=List.append_inj h (by rw [inP_len,inP_len]);obtain ⟨h3,_⟩:=List.append_inj h2 (by rw [inP_len,inP_len]);unfold gR at hj;by_cases hlt:j<gN r.l
 ·have:=inP_inj _ 0 h1 j hlt
  rwa [Nat.zero_add] at this
 ·have:=inP_inj _ _ h3 (j - gN r.l) (by omega)
  rwa [show gN r.l+(j - gN r.l)=j by omega] at this
theorem initsF_nodup (r:Rl):(initsF r).Nodup:=by
 unfold initsF;rw [List.Nodup,List.pairwise_map];refine (List.pairwise_lt_range (n:=2 ^ gR r)).imp_of_mem fun {a b} ha hb hab e=>?_
 rw [List.mem_range] at ha hb;have h:=initF_inj e
 have : a=b:=by
  refine Nat.eq_of_testBit_eq fun i=>?_
  by_cases hi:i<gR r
  ·exact h i hi
  ·rw [Nat.testBit_lt_two_pow (Nat.lt_of_lt_of_le ha (Nat.pow_le_pow_right (by decide) (by omega))),Nat.testBit_lt_two_pow (Nat.lt_of_lt_of_le hb (Nat.pow_le_pow_right (by decide) (by omega)))]
 omega
theorem initsF_len (r:Rl):(initsF r).length=2 ^ gR r:=by unfold initsF;rw [List.length_map,List.length_range]
theorem succsF_len (r:Rl) (k:Nat) (b:List Bool):(succsF r k b).length=2 ^ r.vars.toNat:=by unfold succsF;rw [List.length_map,List.length_range]
theorem autF_not {r:Rl} (h:applF r=false):autF r=none:=by unfold autF;rw [if_neg (by rw [h];simp)]
theorem autF_long {r:Rl} {k:Nat} (hk:k≤64) {P:List (Nat×List Bool)} (hP:P.Sublist (lvls r (k+1))) (h:4096<P.length):autF r=none:=by
 have h1:=hP.length_le;have h2:=lvls_mono r (show k+1≤65 by omega);unfold autF;rw [if_neg (by omega)]
theorem autF_bad {r:Rl} {b:List Bool} (hb:b∈lvl r 64) (h:safeF r b=false):autF r=none:=by
 unfold autF;rw [if_neg];rintro ⟨_,_,q⟩;have:=List.all_eq_true.1 q b hb;rw [h] at this;cases this
theorem ba_beq (s q:ByteArray):(s==q)=decide (s=q):=by
 rcases s with ⟨s⟩;rcases q with ⟨q⟩
 show (s==q)=_;rw [Bool.eq_iff_iff];simp
def lookS:List MapEntry→ByteArray→Option Value
 | [],_=>none
 | e::es,s=>match e.key with
  | .string k=>if s=k then some e.val else lookS es s
  | _=>lookS es s
def SMap (w:World) (b:Nat) (m:ByteArray→Option Value):Prop :=
 ∃es clock,w.heap[b]?=some (.map es clock)∧(∀e∈es.toList,∃s,e.key=.string s)∧∀s,lookS es.toList s=m s
section
variable {P:Program} {w w':World} {b:Nat} {m:ByteArray→Option Value}
theorem SMap.new (w:World):SMap (w.alloc (.map #[] 0)) w.heap.size (fun _=>none):=⟨#[],0,heap_alloc_new w _,by simp,fun _=>rfl⟩
theorem SMap.upd {S:Nat→Prop} (h:SMap w b m) (u:Upd S w w') (hS:¬S b):SMap w' b m:=by
 obtain ⟨es,clock,hb,h1,h2⟩:=h;exact ⟨es,clock,(u.block b (lt_of_heap hb) hS).trans hb,h1,h2⟩
theorem findNow_str (s:ByteArray):∀(es:List MapEntry) (i:Nat),(∀e∈es,∃s,e.key=.string s)→∃r,Instr.findNow .string (.string s) es i=some r∧r.map (·.2)=lookS es s ∧
  (∀j v,r=some (j,v)→∃k,j=i+k∧k<es.length∧(es[k]?).map (·.key)=some (.string s)∧∀s' x,lookS (es.modify k fun e=>{ e with key:=.string s,val:=x }) s'=if s'=s then some x else lookS es s') ∧
  (r=none→∀s' x c,lookS (es++[{ key:=.string s,val:=x,born:=c }]) s'=if s'=s then some x else lookS es s'):=by
 intro es
 induction es with
 | nil =>
  intro i _;refine ⟨none,rfl,rfl,by simp,fun _ s' x c=>?_⟩;simp only [List.nil_append,lookS]
 | cons e es ih =>
  intro i hk;obtain ⟨q,hq⟩:=hk e (by simp);obtain ⟨r,h1,h2,h3,h4⟩:=ih (i+1) (fun x hx=>hk x (by simp [hx]));by_cases he:s=q
  ·subst he;refine ⟨some (i,e.val),by simp [Instr.findNow,Instr.sameNow,hq,ba_beq],by simp [lookS,hq],?_,by simp⟩;rintro j v ⟨⟩;refine ⟨0,rfl,by simp,by simp [hq],fun s' x=>?_⟩;simp only [List.modify_zero_cons,lookS,hq]
   split <;> simp_all
  ·have hb:(s==q)=false:=by simpa [ba_beq] using he
   refine ⟨r,by simp [Instr.findNow,Instr.sameNow,hq,hb,h1],by simp [lookS,hq,he,h2],?_,?_⟩
   ·rintro j v rfl;obtain ⟨k,rfl,hkl,hkk,hm⟩:=h3 j v rfl;refine ⟨k+1,by omega,by simpa using hkl,by simpa using hkk,fun s' x=>?_⟩;simp only [List.modify_succ_cons,lookS,hq,hm]
    split
    ·rename_i e2;subst e2;rw [if_neg (fun h=>he h.symm)]
    ·rfl
   ·intro hr s' x c;simp only [List.cons_append,lookS,hq,h4 hr]
    split
    ·rename_i e2;subst e2;rw [if_neg (fun h=>he h.symm)]
    ·rfl
theorem checkKey_string {k:TypeId} (hk:P.underlying k=some .string) (b:Bool) (n:Nat) (s:ByteArray):(Instr.checkKey b (n+1) k (.string s)).run P w=.ok () w:=by
 simp [Instr.checkKey,run_underlying hk]
theorem SMap.look1 {t k e:TypeId} (ht:P.underlying t=some (.map k e)) (hk:P.underlying k=some .string) {z:Value} (hz:(zeroValue e).run P w=.ok z w) (h:SMap w b m) (s:ByteArray) :
  (Instr.lookup t (.map (some b)) (.string s) false).run P w=.ok ((m s).getD z) w:=by
 obtain ⟨es,clock,hb,h1,h2⟩:=h;obtain ⟨r,hr,hm,_⟩:=findNow_str s es.toList 0 h1;have hg:(getObj b).run P w=.ok (.map es clock) w:=by simp [getObj,Sem.run,hb]
 rw [←h2 s,←hm]
 cases r with
 | none=>simp [Instr.lookup,run_underlying ht,run_underlying hk,hg,checkKey_string hk,Instr.findKey,hr,hz]
 | some p=>simp [Instr.lookup,run_underlying ht,run_underlying hk,hg,checkKey_string hk,Instr.findKey,hr]
theorem SMap.store {t k e:TypeId} (ht:P.underlying t=some (.map k e)) (hk:P.underlying k=some .string) (h:SMap w b m) (s:ByteArray) (v:Value) :
  ∃w',(Instr.mapUpdate t (.map (some b)) (.string s) v).run P w=.ok () w'∧SMap w' b (fun x=>if x=s then some v else m x)∧Upd (·=b) w w':=by
 obtain ⟨es,clock,hb,h1,h2⟩:=h;obtain ⟨r,hr,hm,h3,h4⟩:=findNow_str s es.toList 0 h1;have hg:(getObj b).run P w=.ok (.map es clock) w:=by simp [getObj,Sem.run,hb]
 have hset:∀o,(setObj b o).run P w=.ok () { w with heap:=w.heap.setIfInBounds b o }:=fun o=>by simp [setObj,Sem.run,hb]
 have hU:∀o,Upd (·=b) w { w with heap:=w.heap.setIfInBounds b o }:=fun o=>⟨rfl,rfl,rfl,by simp,fun j hj hne=>by simp [Ne.symm hne]⟩
 have hlt:=lt_of_heap hb
 cases r with
 | none =>
  refine ⟨{ w with heap:=w.heap.setIfInBounds b (.map (es.push { key:=.string s,val:=v,born:=clock }) (clock+1)) },by simp [Instr.mapUpdate,run_underlying ht,hg,checkKey_string hk,Instr.findKey,run_underlying hk,hr,hset],?_,hU _⟩
  refine ⟨es.push { key:=.string s,val:=v,born:=clock },clock+1,by simp [hlt],?_,fun s'=>?_⟩
  ·intro e he;rw [Array.toList_push] at he;rcases List.mem_append.1 he with he | he
   ·exact h1 e he
   ·simp at he;subst he;exact ⟨s,rfl⟩
  ·rw [Array.toList_push,h4 rfl];simp only [h2]
 | some p =>
  obtain ⟨j,v0⟩:=p;obtain ⟨kk,hj,hkl,hkk,hmod⟩:=h3 j v0 rfl;have hj':j=kk:=by omega
  subst hj'
  have hkey:((es[j]?).map (·.key)).getD (.string s)=.string s:=by
   have : es.toList[j]?=es[j]?:=by simp
   rw [←this,hkk];rfl
  have hst:(Instr.keyThatStays (.string s) (.string s)).run P w=.ok (.string s) w:=by simp [Instr.keyThatStays,Instr.sameBits,ba_beq]
  refine ⟨{ w with heap:=w.heap.setIfInBounds b (.map (es.modify j fun e=>{ e with key:=.string s,val:=v }) clock) },by simp [Instr.mapUpdate,run_underlying ht,hg,checkKey_string hk,Instr.findKey,run_underlying hk,hr,hkey,hst,hset],?_,hU _⟩
  refine ⟨es.modify j fun e=>{ e with key:=.string s,val:=v },clock,by simp [hlt],?_,fun s'=>?_⟩
  ·intro e he;rw [Array.toList_modify] at he;obtain ⟨i,hi,rfl⟩:=List.mem_iff_getElem.1 he;rw [List.getElem_modify]
   split
   ·exact ⟨s,rfl⟩
   ·exact h1 _ (List.getElem_mem _)
  ·rw [Array.toList_modify,hmod];simp only [h2]
end
def ElAS (w:World) (K:Nat→Prop) (cs:List Value) (x:AS):Prop:=∃RA rc,cs=[.int .i64 x.at_,.slice RA x.bits.length rc]∧x.bits.length≤rc∧Sl w K RA (u8s x.bits)
theorem elAS:ElOk ElAS 2 where
 len:=fun ⟨_,_,h,_⟩=>by rw [h];rfl
 upd:=fun ⟨RA,rc,h1,h2,h3⟩ u d hK=>⟨RA,rc,h1,h2,(h3.mono (G:=fun i=>_∧_) (fun i hi h=>⟨hK i hi h,d i hi h⟩)).upd u (fun _ _ h=>h.2) |>.mono (fun _ _ h=>h.1)⟩
theorem T_AStates:SlT Tryz.prog 49 122 2 32:=by
 obtain ⟨i,h1,h2,h3,h4⟩:=info_parts (show (Tryz.prog.info? 122).map (fun i=>(i.zero,i.size,i.bytes))=some (some (.agg #[.int .i64 0,.slice none 0 0]),2,32) from by kernel_rfl)
 exact ⟨Tryz.underlying49,⟨i,_,h1,h2,h3,h4,rfl⟩,by omega⟩
theorem rows_at {w:World} {G:Nat→Prop} {A:Option Addr} {n c:Nat} {L:List (List UInt8)} (h:ElO ElRow 1 84 w G A n c L) {i:Nat} (hi:i<L.length):∃g RA rc,A=some ⟨g,0,none⟩∧w.cell? ⟨g,i,none⟩=some (.slice RA L[i].length rc)∧L[i].length≤rc∧Sl w (fun i=>G i∧¬At A i) RA (u8s L[i]):=by
 obtain ⟨hn,cs,hO,hC⟩:=h;obtain ⟨g,rfl⟩:=hO.some_ (by omega);have hcl:cs.length=n:=by rw [hO.len,Nat.mul_one]
 obtain ⟨el,he,RA,rc,e1,e2,e3⟩:=hC.get hi;refine ⟨g,RA,rc,rfl,?_,e2,e3⟩;have h0:=he 0 (by decide);rw [e1,Nat.one_mul,Nat.add_zero] at h0;rw [hO.cell_ (i:=i) (by omega),←List.getElem?_eq_getElem,h0];rfl
theorem SMap.ne_blk {w:World} {b i:Nat} {m:ByteArray→Option Value} {t:TypeId} {cs:Array Value} (h:SMap w b m) (hb:Blk w i t cs):i≠b:=by
 rintro rfl;obtain ⟨es,clock,h1,_⟩:=h;unfold Blk at hb;rw [hb] at h1;cases h1
theorem SMap.ne_own {w:World} {b:Nat} {m:ByteArray→Option Value} {e:TypeId} {size:Nat} {A:Option Addr} {n c:Nat} {cs:List Value} (h:SMap w b m) (ho:Own w e size A n c cs):¬At A b:=by
 rcases ho.cases with ⟨rfl,_⟩ | ⟨g,cur,rfl,hb,_⟩
 ·exact At.none_
 ·rw [At.some_];exact (h.ne_blk hb).symm
def seenV (T:List (List Bool)) (s:ByteArray):Option Value:=if (T.any fun x=>decide (s=kstr (bbs x)))=true then some (.bool true) else none
theorem seenV_nil:seenV []=fun _=>none:=by funext s;rfl
theorem seenV_snoc (T:List (List Bool)) (x:List Bool):(fun s=>if s=kstr (bbs x) then some (.bool true) else seenV T s)=seenV (T++[x]):=by
 funext s
 unfold seenV;rw [List.any_append];by_cases h:s=kstr (bbs x)
 ·rw [if_pos h,if_pos (by simp [h])]
 ·rw [if_neg h];simp [h]
theorem seenV_get (T:List (List Bool)) (x:List Bool):(seenV T (kstr (bbs x))).getD (.bool false)=.bool (decide (x∈T)):=by
 unfold seenV
 have e:(T.any fun y=>decide (kstr (bbs x)=kstr (bbs y)))=decide (x∈T):=by
  rw [Bool.eq_iff_iff,List.any_eq_true,decide_eq_true_eq];constructor
  ·rintro ⟨y,hy,q⟩;have q:=of_decide_eq_true q;rw [kstr_inj] at q
   rwa [bbs_inj q]
  ·intro h;exact ⟨x,h,dT_ rfl⟩
 rw [e];cases decide (x∈T) <;> rfl
structure PvR (w2 wr:World) (B RB tb mb k:Nat) (r:Rl) (A:Option Addr) (n c:Nat) (OA:Option Addr) (on oc:Nat) (TA:Option Addr) (tn tc:Nat) (O:List (Nat×List Bool)) (T:List (List Bool)):Prop where
 row:Blk wr RB 118 #[.slice A n c]
 el:ElO ElRow 1 84 wr (U8B wr) A n c ((lvl r k).map bbs)
 out:ElO ElAS 2 122 wr (U8B wr) OA on oc (O.map asE)
 thn:ElO ElRow 1 84 wr (U8B wr) TA tn tc (T.map bbs)
 seen:SMap wr mb (seenV T)
 upd:Upd (B≤·) w2 wr
 b1:B≤RB
 b2:∀i,At A i→B≤i∧i<tb
 b3:∀i,At OA i→B≤i
 b4:∀i,At TA i→tb≤i
 b5:B≤mb
 b6:B≤tb∧tb≤wr.heap.size
section
variable {w2 wr:World} {B RB tb mb k:Nat} {r:Rl} {A:Option Addr} {n c:Nat} {OA:Option Addr} {on oc:Nat} {TA:Option Addr} {tn tc:Nat} {O:List (Nat×List Bool)} {T:List (List Bool)}
theorem PvR.non (h:PvR w2 wr B RB tb mb k r A n c OA on oc TA tn tc O T) {w':World} (u:Upd Non wr w'):PvR w2 w' B RB tb mb k r A n c OA on oc TA tn tc O T :=
 ⟨h.row.upd u (fun f=>f),h.el.u8 elRow u (fun _ _ f=>f) (fun _ _ _ f=>f),h.out.u8 elAS u (fun _ _ f=>f) (fun _ _ _ f=>f),h.thn.u8 elRow u (fun _ _ f=>f) (fun _ _ _ f=>f),h.seen.upd u (fun f=>f),h.upd.then_non u,h.b1,h.b2,h.b3,h.b4,h.b5,h.b6.1,Nat.le_trans h.b6.2 u.size⟩
theorem PvR.addO (h:PvR w2 wr B RB tb mb k r A n c OA on oc TA tn tc O T) {w3 w4:World} (u3:Upd Non wr w3) {cs:List Value} (hO:Own wr 122 2 OA on oc cs) (hC:ElCells ElAS 2 wr (fun i=>U8B wr i∧¬At OA i) cs (O.map asE)) {x:Nat×List Bool} {RA:Option Addr} {rc:Nat} (hrc:x.2.length≤rc) (hR:Sl wr (fun i=>U8B wr i∧¬At A i) RA (u8s (bbs x.2)))
  {OA':Option Addr} {oc':Nat} (ho:Own w4 122 2 OA' (on+1) oc' (cs++[.int .i64 (x.1:Int),.slice RA x.2.length rc])) (u4:Upd (At OA) w3 w4) (hat:∀i,At OA' i→At OA i∨i=w3.heap.size) :
  PvR w2 w4 B RB tb mb k r A n c OA' (on+1) oc' TA tn tc (O++[x]) T:=by
 have h3:=h.non u3;have hO3:=hO.upd u3 (fun _ _ f=>f);have d8:∀i q,Blk w3 i 5 q→¬At OA i:=fun i q hb=>hO3.ne_blk hb (by decide)
 obtain ⟨_,_,hAo,_⟩:=h3.el;obtain ⟨_,ts,hTo,_⟩:=h3.thn;have hbl:(bbs x.2).length=x.2.length:=by unfold bbs;rw [List.length_map]
 refine ⟨h3.row.upd u4 (hO3.ne_blk h3.row (by decide)),h3.el.u8 elRow u4 (fun i hi=>hAo.ne_type hO3 (by decide) hi) d8,?_,h3.thn.u8 elRow u4 (fun i hi=>hTo.ne_type hO3 (by decide) hi) d8,h3.seen.upd u4 (h3.seen.ne_own hO3),h3.upd.trans u4 (fun i _ q=>h.b3 i q),h.b1,h.b2,fun i hi=>?_,h.b4,h.b5,h.b6.1,Nat.le_trans h3.b6.2 u4.size⟩
 ·rw [List.map_append];refine ElO.snoc8 elAS (by decide) h.out.1 hC u3 hO3 ?_ ho u4 hat;refine ⟨RA,rc,?_,?_,?_⟩
  ·show _=[Value.int .i64 ((x.1:Nat):Int),.slice RA (bbs x.2).length rc];rw [hbl]
  ·show (bbs x.2).length≤rc;rw [hbl];exact hrc
  ·refine (hR.mono (G:=fun i=>U8B wr i∧¬At OA i) (fun i _ q=>⟨q.1,?_⟩)).upd u3 (fun _ _ _ f=>f) |>.mono (fun i hi q=>⟨?_,q.2⟩)
   ·obtain ⟨z,hb⟩:=q.1;exact hO.ne_blk hb (by decide)
   ·exact q.1.upd u3 (fun f=>f)
 ·rcases hat i hi with q | q
  ·exact h.b3 i q
  ·have:=h3.b6;omega
theorem PvR.addT (h:PvR w2 wr B RB tb mb k r A n c OA on oc TA tn tc O T) {w3 w4 w5:World} {x:List Bool} (u3:Upd (·=mb) wr w3) (hs:SMap w3 mb (fun s=>if s=kstr (bbs x) then some (.bool true) else seenV T s)) (u4:Upd Non w3 w4) {cs:List Value} (hO:Own wr 84 1 TA tn tc cs) (hC:ElCells ElRow 1 wr (fun i=>U8B wr i∧¬At TA i) cs (T.map bbs))
  {q sn sc:Nat} (hx:Own wr 5 1 (some ⟨q,0,none⟩) sn sc (b8s x)) (hxl:x.length=sn) (hq:¬At TA q) {TA':Option Addr} {tc':Nat} (ho:Own w5 84 1 TA' (tn+1) tc' (cs++[.slice (some ⟨q,0,none⟩) sn sc])) (u5:Upd (At TA) w4 w5) (hat:∀i,At TA' i→At TA i∨i=w4.heap.size) :
  PvR w2 w5 B RB tb mb k r A n c OA on oc TA' (tn+1) tc' O (T++[x]):=by
 obtain ⟨_,_,hAo,_⟩:=h.el;obtain ⟨_,os,hOo,_⟩:=h.out;have m8:∀i z,Blk wr i 5 z→¬i=mb:=fun i z hb=>h.seen.ne_blk hb
 have mA:∀i,At A i→¬i=mb:=fun i hi e=>h.seen.ne_own hAo (e ▸ hi)
 have mO:∀i,At OA i→¬i=mb:=fun i hi e=>h.seen.ne_own hOo (e ▸ hi)
 have mT:∀i,At TA i→¬i=mb:=fun i hi e=>h.seen.ne_own hO (e ▸ hi)
 have u34:Upd (·=mb) wr w4:=u3.trans u4 (fun _ _ f=>f.elim);have hA4:=h.el.u8 elRow u34 mA m8;have hO4:=h.out.u8 elAS u34 mO m8;have hT4:=hO.upd u34 mT;have hC4:ElCells ElRow 1 w4 (fun i=>U8B w4 i∧¬At TA i) cs (T.map bbs):=hC.mono elRow u34 (fun i _ z=>by obtain ⟨y,hb⟩:=z.1;exact m8 i y hb) (fun i _ z=>⟨z.1.upd u34 (by obtain ⟨y,hb⟩:=z.1;exact m8 i y hb),z.2⟩)
 have hx4:=hx.upd u34 (fun i hi e=>h.seen.ne_own hx (e ▸ hi));have d8:∀i y,Blk w4 i 5 y→¬At TA i:=fun i y hb=>hT4.ne_blk hb (by decide)
 obtain ⟨_,os4,hOo4,_⟩:=hO4;have hw:=u34.size;refine ⟨(h.row.upd u34 (fun e=>h.seen.ne_blk h.row e)).upd u5 (hT4.ne_blk (h.row.upd u34 (fun e=>h.seen.ne_blk h.row e)) (by decide)),hA4.u8 elRow u5 (fun i hi z=>by have h1:=(h.b2 i hi).2;have h2:=h.b4 i z;omega) d8,(h.out.u8 elAS u34 mO m8).u8 elAS u5 (fun i hi=>hOo4.ne_type hT4 (by decide) hi) d8,?_,?_,(h.upd.trans u34 (fun i _ e=>by have:=h.b5;omega)).trans u5 (fun i _ z=>by have h1:=h.b4 i z;have h2:=h.b6;show B≤i;omega),h.b1,h.b2,h.b3,fun i hi=>?_,h.b5,h.b6.1,Nat.le_trans h.b6.2 (Nat.le_trans hw u5.size)⟩
 ·rw [List.map_append];exact ElO.snoc8 elRow (by decide) h.thn.1 hC4 Upd.refl hT4 (elRow_of hx4 hxl ⟨own_u8 hx4,hq⟩) ho u5 hat
 ·rw [←seenV_snoc];exact (hs.upd u4 (fun f=>f)).upd u5 ((hs.upd u4 (fun f=>f)).ne_own hT4)
 ·rcases hat i hi with z | z
  ·exact h.b4 i z
  ·have:=h.b6;omega
end
structure PvS (w2 wr:World) (B RB k:Nat) (r:Rl) (A:Option Addr) (n c:Nat) (OA:Option Addr) (on oc:Nat) (T:List (List Bool)):Prop where
 row:Blk wr RB 118 #[.slice A n c]
 el:ElO ElRow 1 84 wr (U8B wr) A n c (T.map bbs)
 out:ElO ElAS 2 122 wr (U8B wr) OA on oc ((lvls r k).map asE)
 upd:Upd (B≤·) w2 wr
 b1:B≤RB
 b2:∀i,At A i→B≤i
 b3:∀i,At OA i→B≤i
 bw:B≤wr.heap.size
 nd:k≤64→T.Nodup∧∀x,x∈T↔x∈lvl r k
 tn:n≤300000
 le:(lvls r k).length≤4096
 sf:k=65→∀b∈lvl r 64,safeF r b=true
section
variable {w2 wr:World} {B RB k:Nat} {r:Rl} {A:Option Addr} {n c:Nat} {OA:Option Addr} {on oc:Nat} {T:List (List Bool)}
theorem PvS.sorted (h:PvS w2 wr B RB k r A n c OA on oc T) (hk:k≤64) {w4 w5:World} (u4:Upd Non wr w4) {w6:World} {L':List (List Bool)} (hp:L'.Perm T) (hs:L'.Pairwise (fun a b=>ltB b a=false)) (he:ElO ElRow 1 84 w5 (U8B w4) A n c (L'.map bbs)) (u5:Upd (At A) w4 w5) (h6:w5.alloc (.map #[] 0)=w6) :
  PvR w2 w6 B RB w6.heap.size w5.heap.size k r A n c OA on oc none 0 0 (lvls r k) []:=by
 obtain ⟨hnd,hmem⟩:=h.nd hk;have hL:L'=lvl r k:=srt_of hs (hp.nodup_iff.2 hnd) (lvl_srt r k) (fun x=>by rw [hp.mem_iff];exact hmem x);subst hL;have u6:Upd Non w5 w6:=by rw [←h6];exact Upd.refl.alloc _
 obtain ⟨_,as_,hAo,_⟩:=h.el.u8 elRow u4 (fun _ _ f=>f) (fun _ _ _ f=>f);obtain ⟨_,os_,hOo,_⟩:=h.out.u8 elAS u4 (fun _ _ f=>f) (fun _ _ _ f=>f);have d8:∀i z,Blk w4 i 5 z→¬At A i:=fun i z hb=>hAo.ne_blk hb (by decide)
 have he5:ElO ElRow 1 84 w5 (U8B w5) A n c ((lvl r k).map bbs):=he.mono elRow (fun i _ q=>q.upd u5 (by obtain ⟨z,hb⟩:=q;exact d8 i z hb));refine ⟨((h.row.upd u4 (fun f=>f)).upd u5 (hAo.ne_blk (h.row.upd u4 (fun f=>f)) (by decide))).upd u6 (fun f=>f),he5.u8 elRow u6 (fun _ _ f=>f) (fun _ _ _ f=>f),((h.out.u8 elAS u4 (fun _ _ f=>f) (fun _ _ _ f=>f)).u8 elAS u5 (fun i hi=>hOo.ne_type hAo (by decide) hi) d8).u8 elAS u6 (fun _ _ f=>f) (fun _ _ _ f=>f),ElO.none_,?_,((h.upd.then_non u4).trans u5 (fun i _ q=>h.b2 i q)).then_non u6,h.b1,fun i hi=>⟨h.b2 i hi,?_⟩,h.b3,fun i hi=>(At.none_ hi).elim,?_,?_,Nat.le_refl _⟩
 ·rw [seenV_nil,←h6];exact SMap.new w5
 ·have h1:=hAo.lt hi;have h2:=u5.size;have h3:=u6.size;omega
 ·have h1:=h.bw;have h2:=u4.size;have h3:=u5.size;omega
 ·have h1:=h.bw;have h2:=u4.size;have h3:=u5.size;have h4:=u6.size;omega
end
theorem PvR.next {w2 wr:World} {B RB tb mb k:Nat} {r:Rl} {A:Option Addr} {n c:Nat} {OA:Option Addr} {on oc:Nat} {TA:Option Addr} {tn tc:Nat} {T:List (List Bool)} (h:PvR w2 wr B RB tb mb k r A n c OA on oc TA tn tc (lvls r k++(lvl r k).map fun b=>(k,b)) T) (hnd:T.Nodup) (hmem:∀x,x∈T↔k<64∧∃a∈lvl r k,x∈succsF r k a)
  (htn:tn≤300000) (hon:on≤4096) (hsf:k=64→∀b∈lvl r k,safeF r b=true):PvS w2 (wr.setCell ⟨RB,0,none⟩ (.slice TA tn tc)) B RB (k+1) r TA tn tc OA on oc T:=by
 have u:=updCell wr RB 0 (.slice TA tn tc);obtain ⟨_,ts_,hTo,_⟩:=h.thn;obtain ⟨hol,os_,hOo,_⟩:=h.out;have hl:lvls r (k+1)=lvls r k++(lvl r k).map fun b=>(k,b):=lvls_succ r k
 have d8:∀i z,Blk wr i 5 z→¬i=RB:=fun i z hb e=>by subst e;exact hb.ne_ h.row (by decide) rfl
 refine ⟨by simpa using h.row.set_ 0 (.slice TA tn tc),h.thn.u8 elRow u (fun i hi e=>by subst e;exact hTo.ne_blk h.row (by decide) hi) d8,?_,h.upd.trans u (fun i _ e=>by have:=h.b1;show B≤i;omega),h.b1,fun i hi=>by have h1:=h.b4 i hi;have h2:=h.b6;omega,h.b3,?_,fun hk=>⟨hnd,fun x=>?_⟩,htn,?_,fun e=>by
  have : k=64:=by omega
  subst this
  exact hsf rfl⟩
 ·rw [hl];exact h.out.u8 elAS u (fun i hi e=>by subst e;exact hOo.ne_blk h.row (by decide) hi) d8
 ·have h1:=h.b6;have h2:=u.size;omega
 ·rw [hmem,lvl_succ];constructor
  ·exact fun q=>q.2
  ·exact fun q=>⟨by omega,q⟩
 ·rw [hl];rw [List.length_map] at hol;omega
def PvP (r:Rl) (w:World) (e:Ending) (w':World):Prop :=
 Upd Non w w'∧((∃l OA on oc,autF r=some l∧e=.returned (.tuple #[.slice OA on oc,.bool true])∧ElO ElAS 2 122 w' (U8B w') OA on oc (l.map asE)∧∀i,At OA i→w.heap.size≤i)∨(autF r=none∧e=.returned (.tuple #[.slice none 0 0,.bool false])))
theorem as_at {w:World} {G:Nat→Prop} {A:Option Addr} {L:List AS} {j:Nat} (h:ElV ElAS 2 w G A L) (hj:j<L.length):∃b off RA rc,A=some ⟨b,off,none⟩∧w.cell? ⟨b,off+j * 2,none⟩=some (.int .i64 L[j].at_)∧w.cell? ⟨b,off+j * 2+1,none⟩=some (.slice RA L[j].bits.length rc)∧L[j].bits.length≤rc∧Sl w G RA (u8s L[j].bits):=by
 obtain ⟨b,off,el,rfl,_,_,hce,RA,rc,e1,e2,e3⟩:=h.at_ (by decide) hj;have k0:=hce 0 (by decide);have k1:=hce 1 (by decide);rw [e1] at k0 k1;exact ⟨b,off,RA,rc,rfl,k0,k1,e2,e3⟩
theorem as_eq {x y:AS}:x=y↔x.at_=y.at_∧x.bits=y.bits:=by
 obtain ⟨a,b⟩:=x;obtain ⟨c,d⟩:=y;simp
theorem kstr_ne {x y:Bs}:((kstr x).toList==(kstr y).toList)=decide (x=y):=by
 rw [kstr_toList,kstr_toList,Bool.eq_iff_iff,beq_iff_eq,decide_eq_true_eq]
set_option maxRecDepth 100000 in
set_option maxHeartbeats 16000000 in
theorem sameStates_c {w:World} {G1 G2:Nat→Prop} {A B:Option Addr} {n m ac bc:Nat} {La Lb:List AS} (ha:ElV ElAS 2 w G1 A La) (hb:ElV ElAS 2 w G2 B Lb) (hn:n=La.length) (hm:m=Lb.length) (hn4:n≤10000000000000) :
  Calls Tryz.prog 84 #[.slice A n ac,.slice B m bc] w fun e w'=>e=.returned (.bool (decide (La=Lb)))∧Upd Non w w':=by
 have HA:=h_ ha;have HB:=h_ hb;have HN:=h_ hn;have HM:=h_ hm;have HNE:Hid (n≠m→decide (La=Lb)=false):=fun h=>dF_ (fun q=>h (by rw [hn,hm,q]))
 clear ha hb hn hm;by_cases hne:n=m
 ·subst hne;have tne:((n:Int) != (n:Int))=false:=by simp
  go_enter Tryz.func84,Tryz.ntmps84;go_wp2_with fail
  go_loopg [5] n (fun gg s5 wr=>∃i:Nat,Hid (gg=n - i)∧i≤n∧s5=.int .i64 i∧Hid (La.take i=Lb.take i)∧Hid (Upd Non w wr))
  case atStart=>exact ⟨0,rfl,by omega,rfl,rfl,Upd.refl⟩
  case round =>
   obtain ⟨i,Hg,hi,rfl,HE,HU⟩:=hrel;obtain ⟨wr,rfl⟩:∃z:World,z=wr:=⟨_,rfl⟩;by_cases hlt:i<n
   ·have hla:i<La.length:=by rw [←HN.out];exact hlt
    have hlb:i<Lb.length:=by rw [←HM.out];exact hlt
    obtain ⟨W1,HW1⟩:=nm wr.drew;have u1:Upd Non w W1:=by rw [←HW1.out];exact HU.out.then_non Upd.refl.drew
    have HU1:=h_ u1;obtain ⟨ab,ao,RA,ra,rfl,y0,y1,_,hsa⟩:=as_at (HA.out.upd elAS u1 (fun _ _ _ f=>f)) hla;obtain ⟨bb,bo,RB,rb,rfl,z0,z1,_,hsb⟩:=as_at (HB.out.upd elAS u1 (fun _ _ _ f=>f)) hlb;have r1:=run_rowstr (c:=ra) hsa rfl;have r2:=run_rowstr (c:=rb) hsb rfl;have HEQ:=h_ (kstr_ne (x:=La[i].bits) (y:=Lb[i].bits));have HAS:=h_ (as_eq (x:=La[i]) (y:=Lb[i]));have HNO:Hid (La[i]≠Lb[i]→decide (La=Lb)=false):=fun h=>dF_ (fun q=>h (by subst q;rfl))
    have HYES:Hid (La[i]=Lb[i]→La.take (i+1)=Lb.take (i+1)):=fun h=>by rw [List.take_succ_eq_append_getElem hla,List.take_succ_eq_append_getElem hlb,HE.out,h]
    have ti0:(0:Int)≤(i:Int):=by omega
    have tin:(i:Int)<(n:Int):=by omega
    obtain ⟨ta,Hta⟩:=nm La[i].at_;obtain ⟨tb,Htb⟩:=nm Lb[i].at_;obtain ⟨la,Hla⟩:=nm La[i].bits.length;obtain ⟨lb,Hlb⟩:=nm Lb[i].bits.length;rw [Hta.out] at y0;rw [Htb.out] at z0;rw [Hla.out] at y1 r1;rw [Hlb.out] at z1 r2;rw [Hta.out,Htb.out] at HAS;obtain ⟨qa,Hqa⟩:=nm La[i].bits;obtain ⟨qb,Hqb⟩:=nm Lb[i].bits;rw [Hqa.out] at r1;rw [Hqb.out] at r2;rw [Hqa.out,Hqb.out] at HEQ HAS;obtain ⟨sa,Hsa⟩:=nm (kstr qa);obtain ⟨sb,Hsb⟩:=nm (kstr qb);rw [Hsa.out] at r1;rw [Hsb.out] at r2;rw [Hsa.out,Hsb.out] at HEQ;clear hsa hsb u1;by_cases hab:ta=tb
    ·have q1:(ta != tb)=false:=by simpa using hab
     have q1n:(ta==tb)=true:=by simpa using hab
     have HAB:=h_ hab;clear hab;by_cases hq:qa=qb
     ·have q2:=HEQ.out;rw [dT_ hq] at q2;have HY2:=h_ (HYES.out (HAS.out.2 ⟨HAB.out,hq⟩));clear hq
      go_upto_region 6 with fail
      refine wp_region_held_drew (S:=fun w'=>w'.cell? ⟨ab,ao+i * 2,none⟩=some (.int .i64 ta)∧w'.cell? ⟨ab,ao+i * 2+1,none⟩=some (.slice RA la ra)∧w'.cell? ⟨bb,bo+i * 2,none⟩=some (.int .i64 tb)∧w'.cell? ⟨bb,bo+i * 2+1,none⟩=some (.slice RB lb rb)∧(convert 84 9 (.slice RA la ra)).run Tryz.prog w'=.ok (.string sa) w'∧(convert 84 9 (.slice RB lb rb)).run Tryz.prog w'=.ok (.string sb) w') (by kernel_rfl) (by rw [HW1.out];exact ⟨y0,y1,z0,z1,r1,r2⟩) (fun hHeld=>?_)
      rw [HW1.out] at hHeld ⊢;refine wpT 0 ?_;(try simp only [y_,z_]);refine wpT 1 ?_;(try simp only [y_,z_]);refine wpT 2 ?_;(try simp only [y_,z_]);refine wpT 3 ?_;(try simp only [y_,z_]);refine wpT 4 ?_;(try simp only [y_,z_]);refine wpT 5 ?_;(try simp only [y_,z_]);refine wpT 6 ?_;(try simp only [y_,z_]);refine wpT 7 ?_;(try simp only [y_,z_]);refine wpT 8 ?_;(try simp only [y_,z_]);refine wpT 9 ?_;(try simp only [y_,z_]);refine wpT 10 ?_;(try simp only [y_,z_]);refine wpT 11 ?_;(try simp only [y_,z_]);refine wpT 12 ?_;(try simp only [y_,z_]);refine wpT 13 ?_;(try simp only [y_,z_]);refine wpT 14 ?_;(try simp only [y_,z_]);refine wpT 15 ?_;(try simp only [y_,z_]);refine wpT 16 ?_;(try simp only [y_,z_]);refine wpT 17 ?_;(try simp only [y_,z_]);refine wpT 18 ?_;(try simp only [y_,z_]);refine wpT 19 ?_;(try simp only [y_,z_]);refine wpT 20 ?_;(try simp only [y_,z_]);refine wpT 21 ?_;(try simp only [y_,z_]);refine wpT 22 ?_;(try simp only [y_,z_]);refine wpT 23 ?_;(try simp only [y_,z_]);refine wpT 24 ?_
      (try simp only [y_,z_]);refine wpT 25 ?_;(try simp only [y_,z_]);refine aD_ (by kernel_rfl) ?_ _;clear hHeld y0 y1 z0 z1 r1 r2;go_wp2_with fail
      go_roundg (n - (i+1))
      case measure=>rw [Hg.out];omega
      case rel=>exact ⟨i+1,rfl,by omega,by go_num,HY2.out,HU1.out⟩
     ·have q2:=HEQ.out;rw [dF_ hq] at q2;have HF:=h_ (HNO.out (fun q=>hq (HAS.out.1 q).2));clear hq
      go_upto_region 6 with fail
      refine wp_region_held_drew (S:=fun w'=>w'.cell? ⟨ab,ao+i * 2,none⟩=some (.int .i64 ta)∧w'.cell? ⟨ab,ao+i * 2+1,none⟩=some (.slice RA la ra)∧w'.cell? ⟨bb,bo+i * 2,none⟩=some (.int .i64 tb)∧w'.cell? ⟨bb,bo+i * 2+1,none⟩=some (.slice RB lb rb)∧(convert 84 9 (.slice RA la ra)).run Tryz.prog w'=.ok (.string sa) w'∧(convert 84 9 (.slice RB lb rb)).run Tryz.prog w'=.ok (.string sb) w') (by kernel_rfl) (by rw [HW1.out];exact ⟨y0,y1,z0,z1,r1,r2⟩) (fun hHeld=>?_)
      rw [HW1.out] at hHeld ⊢;refine wpT 0 ?_;(try simp only [y_,z_]);refine wpT 1 ?_;(try simp only [y_,z_]);refine wpT 2 ?_;(try simp only [y_,z_]);refine wpT 3 ?_;(try simp only [y_,z_]);refine wpT 4 ?_;(try simp only [y_,z_]);refine wpT 5 ?_;(try simp only [y_,z_]);refine wpT 6 ?_;(try simp only [y_,z_]);refine wpT 7 ?_;(try simp only [y_,z_]);refine wpT 8 ?_;(try simp only [y_,z_]);refine wpT 9 ?_;(try simp only [y_,z_]);refine wpT 10 ?_;(try simp only [y_,z_]);refine wpT 11 ?_;(try simp only [y_,z_]);refine wpT 12 ?_;(try simp only [y_,z_]);refine wpT 13 ?_;(try simp only [y_,z_]);refine wpT 14 ?_;(try simp only [y_,z_]);refine wpT 15 ?_;(try simp only [y_,z_]);refine wpT 16 ?_;(try simp only [y_,z_]);refine wpT 17 ?_;(try simp only [y_,z_]);refine wpT 18 ?_;(try simp only [y_,z_]);refine wpT 19 ?_;(try simp only [y_,z_]);refine wpT 20 ?_;(try simp only [y_,z_]);refine wpT 21 ?_;(try simp only [y_,z_]);refine wpT 22 ?_;(try simp only [y_,z_]);refine wpT 23 ?_;(try simp only [y_,z_]);refine wpT 24 ?_
      (try simp only [y_,z_]);refine wpT 25 ?_;(try simp only [y_,z_]);refine aD_ (by kernel_rfl) ?_ _;clear hHeld y0 y1 z0 z1 r1 r2;go_wp2_with fail
      go_ret;exact ⟨by rw [HF.out];rfl,HU1.out⟩
    ·have q1:(ta != tb)=true:=by simpa using hab
     have q1n:(ta==tb)=false:=by simpa using hab
     have HF:=h_ (HNO.out (fun q=>hab (HAS.out.1 q).1))
     go_upto_region 6 with fail
     refine wp_region_held_drew (S:=fun w'=>w'.cell? ⟨ab,ao+i * 2,none⟩=some (.int .i64 ta)∧w'.cell? ⟨ab,ao+i * 2+1,none⟩=some (.slice RA la ra)∧w'.cell? ⟨bb,bo+i * 2,none⟩=some (.int .i64 tb)∧w'.cell? ⟨bb,bo+i * 2+1,none⟩=some (.slice RB lb rb)∧(convert 84 9 (.slice RA la ra)).run Tryz.prog w'=.ok (.string sa) w'∧(convert 84 9 (.slice RB lb rb)).run Tryz.prog w'=.ok (.string sb) w') (by kernel_rfl) (by rw [HW1.out];exact ⟨y0,y1,z0,z1,r1,r2⟩) (fun hHeld=>?_)
     rw [HW1.out] at hHeld ⊢;refine wpT 0 ?_;(try simp only [y_,z_]);refine wpT 1 ?_;(try simp only [y_,z_]);refine wpT 2 ?_;(try simp only [y_,z_]);refine wpT 3 ?_;(try simp only [y_,z_]);refine wpT 4 ?_;(try simp only [y_,z_]);refine wpT 5 ?_;(try simp only [y_,z_]);refine wpT 6 ?_;(try simp only [y_,z_]);refine wpT 7 ?_;(try simp only [y_,z_]);refine wpT 8 ?_;(try simp only [y_,z_]);refine wpT 9 ?_;(try simp only [y_,z_]);refine wpT 10 ?_;(try simp only [y_,z_]);refine wpT 11 ?_;(try simp only [y_,z_]);refine wpU 12 ?_;(try simp only [y_,z_]);refine wpU 13 ?_;(try simp only [y_,z_]);refine wpU 14 ?_;(try simp only [y_,z_]);refine wpU 15 ?_;(try simp only [y_,z_]);refine wpU 16 ?_;(try simp only [y_,z_]);refine wpU 17 ?_;(try simp only [y_,z_]);refine wpU 18 ?_;(try simp only [y_,z_]);refine wpU 19 ?_;(try simp only [y_,z_]);refine wpU 20 ?_;(try simp only [y_,z_]);refine wpU 21 ?_;(try simp only [y_,z_]);refine wpU 22 ?_;(try simp only [y_,z_]);refine wpU 23 ?_;(try simp only [y_,z_]);refine wpU 24 ?_
     (try simp only [y_,z_]);refine wpT 25 ?_;(try simp only [y_,z_]);refine aD_ (by kernel_rfl) ?_ _;clear hHeld y0 y1 z0 z1 r1 r2;go_wp2_with fail
     go_ret;exact ⟨by rw [HF.out];rfl,HU1.out⟩
   ·obtain rfl:n=i:=by omega
    have HF:Hid (decide (La=Lb)=true):=by
     refine dT_ ?_;have h:=HE.out
     rwa [List.take_of_length_le (by rw [←HN.out];exact Nat.le_refl _),List.take_of_length_le (by rw [←HM.out];exact Nat.le_refl _)] at h
    go_wp2_with fail
    go_ret;exact ⟨by rw [HF.out];rfl,HU.out⟩
 ·have HF:=h_ (HNE.out hne);have tne:((n:Int) != (m:Int))=true:=by simp;omega
  go_enter Tryz.func84,Tryz.ntmps84;go_wp2_with fail
  go_ret;exact ⟨by rw [HF.out];rfl,Upd.refl⟩
set_option maxRecDepth 100000 in
set_option maxHeartbeats 16000000 in
theorem hasState_c {w:World} {G1 G2:Nat→Prop} {A BA:Option Addr} {n m ac bc:Nat} {L:List AS} {t:Int} {y:Bs} (ha:ElV ElAS 2 w G1 A L) (hb:Sl w G2 BA (u8s y)) (hn:n=L.length) (hm:m=y.length) (hn4:n≤10000000000000) :
  Calls Tryz.prog 73 #[.slice A n ac,.int .i64 t,.slice BA m bc] w fun e w'=>e=.returned (.bool (decide ((⟨t,y⟩:AS)∈L)))∧Upd Non w w':=by
 have HA:=h_ ha;have HN:=h_ hn;have HR:=h_ (fun (w':World) (u:Upd Non w w')=>run_rowstr (c:=bc) (hb.upd u (fun _ _ _ f=>f)) hm);have HKS:Hid (∀q:Bs,((kstr q).toList==(kstr y).toList)=decide (q=y)):=fun q=>kstr_ne
 obtain ⟨sy,Hsy⟩:=nm (kstr y);rw [Hsy.out] at HR HKS;clear ha hb hn hm;go_enter Tryz.func73,Tryz.ntmps73;go_wp2_with fail
 go_loopg [7] n (fun gg s7 wr=>∃i:Nat,Hid (gg=n - i)∧i≤n∧s7=.int .i64 i∧Hid ((⟨t,y⟩:AS) ∉ L.take i)∧Hid (Upd Non w wr))
 case atStart=>exact ⟨0,rfl,by omega,rfl,by rw [List.take_zero];exact List.not_mem_nil,Upd.refl⟩
 case round =>
  obtain ⟨i,Hg,hi,rfl,HE,HU⟩:=hrel;obtain ⟨wr,rfl⟩:∃z:World,z=wr:=⟨_,rfl⟩;by_cases hlt:i<n
  ·have hla:i<L.length:=by rw [←HN.out];exact hlt
   obtain ⟨W1,HW1⟩:=nm wr.drew;have u1:Upd Non w W1:=by rw [←HW1.out];exact HU.out.then_non Upd.refl.drew
   have HU1:=h_ u1;obtain ⟨ab,ao,RA,ra,rfl,y0,y1,_,hsa⟩:=as_at (HA.out.upd elAS u1 (fun _ _ _ f=>f)) hla;have r1:=run_rowstr (c:=ra) hsa rfl;have r2:=HR.out W1 u1;have HEQ:=h_ (HKS.out L[i].bits);have HAS:=h_ (as_eq (x:=(⟨t,y⟩:AS)) (y:=L[i]));have HMEM:=h_ (List.getElem_mem hla)
   have HNX:Hid ((⟨t,y⟩:AS)≠L[i]→(⟨t,y⟩:AS) ∉ L.take (i+1)):=fun h q=>by
    rw [List.take_succ_eq_append_getElem hla,List.mem_append,List.mem_singleton] at q;exact q.elim HE.out h
   have ti0:(0:Int)≤(i:Int):=by omega
   have tin:(i:Int)<(n:Int):=by omega
   obtain ⟨ta,Hta⟩:=nm L[i].at_;obtain ⟨la,Hla⟩:=nm L[i].bits.length;rw [Hta.out] at y0;rw [Hla.out] at y1 r1;rw [Hta.out] at HAS;obtain ⟨qa,Hqa⟩:=nm L[i].bits;rw [Hqa.out] at r1 HEQ HAS;obtain ⟨sa,Hsa⟩:=nm (kstr qa);rw [Hsa.out] at r1 HEQ;clear hsa u1;by_cases hab:ta=t
   ·have q1n:(ta==t)=true:=by simpa using hab
    have HAB:=h_ hab;clear hab;by_cases hq:qa=y
    ·have q2:=HEQ.out;rw [dT_ hq] at q2
     have HF:Hid (decide ((⟨t,y⟩:AS)∈L)=true):=dT_ (by
      have h:(⟨t,y⟩:AS)=L[i]:=HAS.out.2 ⟨HAB.out.symm,hq.symm⟩
      rw [h];exact HMEM.out)
     clear hq
     go_upto_region 4 with fail
     refine wp_region_held_drew (S:=fun w'=>w'.cell? ⟨ab,ao+i * 2,none⟩=some (.int .i64 ta)∧w'.cell? ⟨ab,ao+i * 2+1,none⟩=some (.slice RA la ra)∧(convert 84 9 (.slice RA la ra)).run Tryz.prog w'=.ok (.string sa) w'∧(convert 84 9 (.slice BA m bc)).run Tryz.prog w'=.ok (.string sy) w') (by kernel_rfl) (by rw [HW1.out];exact ⟨y0,y1,r1,r2⟩) (fun hHeld=>?_)
     rw [HW1.out] at hHeld ⊢;refine wpT 0 ?_;(try simp only [y_,z_]);refine wpT 1 ?_;(try simp only [y_,z_]);refine wpT 2 ?_;(try simp only [y_,z_]);refine wpT 3 ?_;(try simp only [y_,z_]);refine wpT 4 ?_;(try simp only [y_,z_]);refine wpT 5 ?_;(try simp only [y_,z_]);refine wpT 6 ?_;(try simp only [y_,z_]);refine wpT 7 ?_;(try simp only [y_,z_]);refine wpT 8 ?_;(try simp only [y_,z_]);refine wpT 9 ?_;(try simp only [y_,z_]);refine wpT 10 ?_;(try simp only [y_,z_]);refine wpT 11 ?_;(try simp only [y_,z_]);refine wpT 12 ?_;(try simp only [y_,z_]);refine wpT 13 ?_;(try simp only [y_,z_]);refine wpT 14 ?_;(try simp only [y_,z_]);refine wpT 15 ?_;(try simp only [y_,z_]);refine wpT 16 ?_;(try simp only [y_,z_]);refine wpT 17 ?_;(try simp only [y_,z_]);refine aD_ (by kernel_rfl) ?_ _;clear hHeld y0 y1 r1 r2;go_wp2_with fail
     go_ret;exact ⟨by rw [HF.out];rfl,HU1.out⟩
    ·have q2:=HEQ.out;rw [dF_ hq] at q2;have HF:=h_ (HNX.out (fun q=>hq (HAS.out.1 q).2.symm));clear hq
     go_upto_region 4 with fail
     refine wp_region_held_drew (S:=fun w'=>w'.cell? ⟨ab,ao+i * 2,none⟩=some (.int .i64 ta)∧w'.cell? ⟨ab,ao+i * 2+1,none⟩=some (.slice RA la ra)∧(convert 84 9 (.slice RA la ra)).run Tryz.prog w'=.ok (.string sa) w'∧(convert 84 9 (.slice BA m bc)).run Tryz.prog w'=.ok (.string sy) w') (by kernel_rfl) (by rw [HW1.out];exact ⟨y0,y1,r1,r2⟩) (fun hHeld=>?_)
     rw [HW1.out] at hHeld ⊢;refine wpT 0 ?_;(try simp only [y_,z_]);refine wpT 1 ?_;(try simp only [y_,z_]);refine wpT 2 ?_;(try simp only [y_,z_]);refine wpT 3 ?_;(try simp only [y_,z_]);refine wpT 4 ?_;(try simp only [y_,z_]);refine wpT 5 ?_;(try simp only [y_,z_]);refine wpT 6 ?_;(try simp only [y_,z_]);refine wpT 7 ?_;(try simp only [y_,z_]);refine wpT 8 ?_;(try simp only [y_,z_]);refine wpT 9 ?_;(try simp only [y_,z_]);refine wpT 10 ?_;(try simp only [y_,z_]);refine wpT 11 ?_;(try simp only [y_,z_]);refine wpT 12 ?_;(try simp only [y_,z_]);refine wpT 13 ?_;(try simp only [y_,z_]);refine wpT 14 ?_;(try simp only [y_,z_]);refine wpT 15 ?_;(try simp only [y_,z_]);refine wpT 16 ?_;(try simp only [y_,z_]);refine wpT 17 ?_;(try simp only [y_,z_]);refine aD_ (by kernel_rfl) ?_ _;clear hHeld y0 y1 r1 r2;go_wp2_with fail
     go_roundg (n - (i+1))
     case measure=>rw [Hg.out];omega
     case rel=>exact ⟨i+1,rfl,by omega,by go_num,HF.out,HU1.out⟩
   ·have q1n:(ta==t)=false:=by simpa using hab
    have HF:=h_ (HNX.out (fun q=>hab (HAS.out.1 q).1.symm))
    go_upto_region 4 with fail
    refine wp_region_held_drew (S:=fun w'=>w'.cell? ⟨ab,ao+i * 2,none⟩=some (.int .i64 ta)∧w'.cell? ⟨ab,ao+i * 2+1,none⟩=some (.slice RA la ra)∧(convert 84 9 (.slice RA la ra)).run Tryz.prog w'=.ok (.string sa) w'∧(convert 84 9 (.slice BA m bc)).run Tryz.prog w'=.ok (.string sy) w') (by kernel_rfl) (by rw [HW1.out];exact ⟨y0,y1,r1,r2⟩) (fun hHeld=>?_)
    rw [HW1.out] at hHeld ⊢;refine wpT 0 ?_;(try simp only [y_,z_]);refine wpT 1 ?_;(try simp only [y_,z_]);refine wpT 2 ?_;(try simp only [y_,z_]);refine wpT 3 ?_;(try simp only [y_,z_]);refine wpT 4 ?_;(try simp only [y_,z_]);refine wpT 5 ?_;(try simp only [y_,z_]);refine wpT 6 ?_;(try simp only [y_,z_]);refine wpT 7 ?_;(try simp only [y_,z_]);refine wpU 8 ?_;(try simp only [y_,z_]);refine wpU 9 ?_;(try simp only [y_,z_]);refine wpU 10 ?_;(try simp only [y_,z_]);refine wpU 11 ?_;(try simp only [y_,z_]);refine wpU 12 ?_;(try simp only [y_,z_]);refine wpU 13 ?_;(try simp only [y_,z_]);refine wpU 14 ?_;(try simp only [y_,z_]);refine wpU 15 ?_;(try simp only [y_,z_]);refine wpU 16 ?_;(try simp only [y_,z_]);refine wpT 17 ?_;(try simp only [y_,z_]);refine aD_ (by kernel_rfl) ?_ _;clear hHeld y0 y1 r1 r2;go_wp2_with fail
    go_roundg (n - (i+1))
    case measure=>rw [Hg.out];omega
    case rel=>exact ⟨i+1,rfl,by omega,by go_num,HF.out,HU1.out⟩
  ·obtain rfl:n=i:=by omega
   have HF:Hid (decide ((⟨t,y⟩:AS)∈L)=false):=by
    refine dF_ ?_;have h:=HE.out
    rwa [List.take_of_length_le (by rw [←HN.out];exact Nat.le_refl _)] at h
   go_wp2_with fail
   go_ret;exact ⟨by rw [HF.out];rfl,HU.out⟩
section
variable {α:Type} {El:World→(Nat→Prop)→List Value→α→Prop} {k:Nat} {w:World} {K:Nat→Prop} {L L2:List α} {cs cs2:List Value}
theorem ElCells.drop (h:ElCells El k w K cs L) (m:Nat):ElCells El k w K (cs.drop (k * m)) (L.drop m):=by
 refine ⟨by rw [List.length_drop,List.length_drop,h.1,Nat.mul_sub],fun i hi=>?_⟩;rw [List.length_drop] at hi;rw [List.getElem_drop,List.drop_drop,←Nat.mul_add];exact h.2 (m+i) (by omega)
theorem ElCells.app (h:ElCells El k w K cs L) (h2:ElCells El k w K cs2 L2):ElCells El k w K (cs++cs2) (L++L2):=by
 have hl:=h.1;refine ⟨by rw [List.length_append,List.length_append,hl,h2.1,Nat.mul_add],fun i hi=>?_⟩;by_cases hlt:i<L.length
 ·have h3:k * (i+1)≤k * L.length:=Nat.mul_le_mul_left k hlt;rw [Nat.mul_add,Nat.mul_one] at h3;rw [List.getElem_append_left hlt,List.drop_append_of_le_length (by omega),List.take_append_of_le_length (by rw [List.length_drop];omega)];exact h.2 i hlt
 ·obtain ⟨j,rfl⟩:∃j,i=L.length+j:=⟨i - L.length,by omega⟩;rw [List.length_append] at hi;rw [List.getElem_append_right (by omega),Nat.mul_add,←List.drop_drop,←hl,List.drop_left];have:=h2.2 j (by omega);simpa using this
end
section
variable {α:Type} {El:World→(Nat→Prop)→List Value→α→Prop} {k:Nat} {w w':World} {A:Option Addr} {L:List α} {n:Nat} {e:TypeId}
theorem ElO.apps8 (O:ElOk El k) {w0:World} {A':Option Addr} {c' m:Nat} {M:List α} {new cs:List Value} (hL:n=L.length) (h:ElCells El k w0 (fun i=>U8B w0 i∧¬At A i) cs L) (u0:Upd Non w0 w) (hx:ElCells El k w (fun i=>U8B w i∧¬At A i) new M) (hm:m=M.length)
  (ho:Own w' e k A' (n+m) c' (cs++new)) (u:Upd (At A) w w') (hA:∀i,At A' i→At A i∨i=w.heap.size):ElO El k e w' (U8B w') A' (n+m) c' (L++M):=by
 have h1:ElCells El k w (fun i=>U8B w i∧¬At A i) cs L:=h.mono O u0 (fun _ _ _ f=>f) (fun i _ q=>⟨q.1.upd u0 (fun f=>f),q.2⟩);refine ⟨by rw [hm,hL,List.length_append],_,ho,(h1.app hx).mono O u (fun i _ hg=>hg.2) (fun i hi hg=>⟨hg.1.upd u hg.2,fun q=>?_⟩)⟩;rcases hA i q with q | q
 ·exact hg.2 q
 ·omega
end
theorem Sl.from2 {w:World} {F:Nat→Prop} {g o m:Nat} {cs:List Value} (h:Sl w F (some ⟨g,o,none⟩) cs) {p:Prop} [Decidable p] (hp:p→cs.length≤m):Sl w F (if p then some ⟨g,o,none⟩ else some ⟨g,o+m,none⟩) (cs.drop m):=by
 by_cases q:p
 ·rw [if_pos q,List.drop_eq_nil_of_le (hp q)];exact Sl.nil
 ·rw [if_neg q];rcases h with h | ⟨b,off,e,hF,hc⟩
  ·subst h;rw [List.drop_nil];exact Sl.nil
  ·injection e with e
   injection e with e1 e2
   subst e1 e2;refine .inr ⟨g,o+m,rfl,hF,fun j hj=>?_⟩;rw [List.length_drop] at hj;rw [List.getElem_drop,Nat.add_assoc];exact hc (m+j) (by omega)
theorem Sl.cell2 {w:World} {F:Nat→Prop} {g o j:Nat} {cs:List Value} (h:Sl w F (some ⟨g,o,none⟩) cs) (hj:j<cs.length):w.cell? ⟨g,o+j,none⟩=cs[j]?:=by
 obtain ⟨b,off,e,_,_,hc⟩:=h.at_ hj;injection e with e
 injection e with e1 e2
 subst e1 e2;rw [hc,List.getElem?_eq_getElem hj]
theorem own_one (w:World) (t:TypeId) (v:Value):Own (w.alloc (.cells #[v] t)) t 1 (some ⟨w.heap.size,0,none⟩) 1 1 [v]:=Own.mk_ (Blk.new w t #[v]) (Nat.le_refl _) (by simp [maxLen]) (by simp) (by simp)
def WkC (w:World) (i:Nat) (v:Value):Prop:=if i % 2=0 then ∃t:Int,v=.int .i64 t else ∃(RA:Option Addr) (rc:Nat) (bits:Bs),v=.slice RA bits.length rc∧bits.length≤rc∧Sl w (U8B w) RA (u8s bits)
def WkX (w:World) (A:Option Addr) (m c:Nat) (cs:List Value) (X:Nat→Prop):Prop:=Own w 122 2 A m c cs∧∀i (h:i<cs.length),¬X i→WkC w i cs[i]
section
variable {w w':World} {S X:Nat→Prop} {A:Option Addr} {m c n i:Nat} {cs:List Value} {v:Value}
theorem WkC.upd (h:WkC w i v) (u:Upd S w w') (d:∀g z,Blk w g 5 z→¬S g):WkC w' i v:=by
 unfold WkC at h ⊢
 split
 ·rename_i q;rwa [if_pos q] at h
 ·rename_i q;rw [if_neg q] at h;obtain ⟨RA,rc,bits,e,hl,hs⟩:=h;exact ⟨RA,rc,bits,e,hl,((hs.mono (G:=fun g=>U8B w g∧U8B w' g∧¬S g) (fun g _ q=>⟨q,q.upd u (by obtain ⟨z,hb⟩:=q;exact d g z hb),by obtain ⟨z,hb⟩:=q;exact d g z hb⟩)).upd u (fun g _ q=>q.2.2)).mono (fun _ _ q=>q.2.1)⟩
theorem WkC.one (h:WkC w i v):v.oneCell'=true:=by
 unfold WkC at h
 split at h
 ·obtain ⟨t,rfl⟩:=h;rfl
 ·obtain ⟨RA,rc,bits,rfl,_⟩:=h;rfl
theorem WkC.par {j:Nat} (h:WkC w i v) (e:i % 2=j % 2):WkC w j v:=by unfold WkC at h ⊢;rwa [e] at h
theorem WkC.int (t:Int) (h:i % 2=0):WkC w i (.int .i64 t):=by unfold WkC;rw [if_pos h];exact ⟨t,rfl⟩
theorem WkC.row {RA:Option Addr} {rc k:Nat} {bits:Bs} (h:i % 2=1) (hk:k=bits.length) (hl:k≤rc) (hs:Sl w (U8B w) RA (u8s bits)):WkC w i (.slice RA k rc):=by
 unfold WkC;rw [if_neg (by omega)];exact ⟨RA,rc,bits,by rw [hk],by rw [←hk];exact hl,hs⟩
theorem own_u8s {RA:Option Addr} {cs:List Value} (h:Own w 5 1 RA n c cs):Sl w (U8B w) RA cs:=h.sl.mono fun g _ q=>by
 rcases h.cases with ⟨rfl,_⟩ | ⟨g',cur,rfl,hb,_⟩
 ·exact (At.none_ q).elim
 ·rw [At.some_] at q;subst q;exact ⟨cur,hb⟩
theorem WkC.byte {q o:Nat} {cur:Array Value} (h:WkC w i v) (hb:Blk w q 5 cur) (ho:o<cur.size) (x:UInt8):WkC (w.setCell ⟨q,o,none⟩ (.int .u8 (x.toNat:Int))) i v:=by
 have hb':=hb.set_ o (.int .u8 (x.toNat:Int));unfold WkC at h ⊢
 split
 ·rename_i e;rwa [if_pos e] at h
 ·rename_i e;rw [if_neg e] at h;obtain ⟨RA,rc,bits,rfl,hl,hs⟩:=h
  have hU:∀g,U8B w g→U8B (w.setCell ⟨q,o,none⟩ (.int .u8 (x.toNat:Int))) g:=fun g hg=>by
   by_cases e:g=q
   ·subst e;exact ⟨_,hb'⟩
   ·exact hg.upd (updCell w q o _) e
  rcases hs with hs | ⟨b,off,rfl,hF,hc⟩
  ·refine ⟨RA,rc,bits,rfl,hl,.inl hs⟩
  ·refine ⟨some ⟨b,off,none⟩,rc,(List.range bits.length).map fun j=>if b=q∧off+j=o then x else bits.getD j 0,by simp,by simpa using hl,.inr ⟨b,off,rfl,hU _ hF,fun j hj=>?_⟩⟩
   have hj':j<bits.length:=by unfold u8s at hj;simpa using hj
   have hcj:=hc j (by unfold u8s;rw [List.length_map];exact hj');have e1:(u8s bits)[j]'(by unfold u8s;rw [List.length_map];exact hj')=.int .u8 (bits[j].toNat:Int):=by unfold u8s;rw [List.getElem_map]
   rw [e1] at hcj;have e2:(u8s ((List.range bits.length).map fun j=>if b=q∧off+j=o then x else bits.getD j 0))[j]=.int .u8 ((if b=q∧off+j=o then x else bits.getD j 0).toNat:Int):=by unfold u8s;simp
   rw [e2];by_cases e:b=q
   ·subst e;rw [hb'.cell,Array.getElem?_setIfInBounds];by_cases eo:off+j=o
    ·rw [if_pos eo.symm,if_pos ho,if_pos ⟨rfl,eo⟩]
    ·rw [if_neg (fun z=>eo z.symm),if_neg (fun z=>eo z.2),←hb.cell,hcj,getD_of hj']
   ·rw [if_neg (fun z=>e z.1),getD_of hj'];exact u_ hcj (updCell w q o _) e
theorem Own.set2 {e:TypeId} {size g:Nat} (h:Own w e size (some ⟨g,0,none⟩) n c cs) (i:Nat) (u:Value):Own (w.setCell ⟨g,i,none⟩ u) e size (some ⟨g,0,none⟩) n c (cs.set i u):=by
 rcases h.cases with ⟨h0,_⟩ | ⟨g',cur,e1,hb,hn,hm,hs,ht⟩
 ·cases h0
 ·injection e1 with e1;injection e1 with e1;subst e1
  refine Own.mk_ (hb.set_ i u) hn hm (by simpa using hs) ?_;rw [Array.toList_setIfInBounds,List.take_set,ht]
theorem Own.froz2 {e:TypeId} {size g:Nat} (h:Own w e size (some ⟨g,0,none⟩) n c cs) (i:Nat):w.frozen? ⟨g,i,none⟩=false:=by
 rcases h.cases with ⟨h0,_⟩ | ⟨g',cur,e1,hb,hn,hm,hs,ht⟩
 ·cases h0
 ·injection e1 with e1;injection e1 with e1;subst e1
  exact hb.frozen i
theorem Own.cellX {e:TypeId} {size g:Nat} (h:Own w e size (some ⟨g,0,none⟩) n c cs) {i:Nat} (hi:i<n * size):∃v,w.cell? ⟨g,i,none⟩=some v:=by
 have hl:=h.len;have:=h.sl.cell2 (j:=i) (by omega);rw [Nat.zero_add,List.getElem?_eq_getElem (by omega)] at this;exact ⟨_,this⟩
theorem Own.pre {e:TypeId} {size k:Nat} (h:Own w e size A n c cs) (hk:k≤n):Own w e size A k c (cs.take (k * size)):=by
 rcases h.cases with ⟨rfl,rfl,rfl,rfl⟩ | ⟨g,cur,rfl,hb,hn,hm,hs,ht⟩
 ·obtain rfl:k=0:=by omega
  simpa using (Own.none_ (w:=w) (e:=e) (size:=size))
 ·refine Own.mk_ hb (by omega) hm hs ?_;rw [←ht,List.take_take,Nat.min_eq_left (Nat.mul_le_mul_right _ hk)]
theorem WkX.upd (h:WkX w A m c cs X) (u:Upd S w w') (dA:∀g,At A g→¬S g) (d:∀g z,Blk w g 5 z→¬S g):WkX w' A m c cs X:=⟨h.1.upd u dA,fun i hi hx=>(h.2 i hi hx).upd u d⟩
theorem WkX.set {g k:Nat} (h:WkX w (some ⟨g,0,none⟩) m c cs X) (hv:WkC w k v):WkX (w.setCell ⟨g,k,none⟩ v) (some ⟨g,0,none⟩) m c (cs.set k v) (fun i=>X i∧i≠k):=by
 have hu:=updCell w g k v
 have d:∀q z,Blk w q 5 z→¬q=g:=fun q z hb e=>by
  subst e;exact h.1.ne_blk hb (by decide) (At.some_.2 rfl)
 refine ⟨h.1.set2 k v,fun i hi hx=>?_⟩;rw [List.length_set] at hi;by_cases e:k=i
 ·subst e;rw [List.getElem_set_self];exact hv.upd hu d
 ·rw [List.getElem_set_ne e];exact (h.2 i hi (fun z=>hx ⟨z,fun z=>e z.symm⟩)).upd hu d
theorem WkX.byte {q o:Nat} {cur:Array Value} (h:WkX w A m c cs X) (hb:Blk w q 5 cur) (ho:o<cur.size) (x:UInt8):WkX (w.setCell ⟨q,o,none⟩ (.int .u8 (x.toNat:Int))) A m c cs X :=
 ⟨h.1.upd (updCell w q o _) (fun g hg e=>by subst e;exact h.1.ne_blk hb (by decide) hg),fun i hi hx=>(h.2 i hi hx).byte hb ho x⟩
theorem WkX.mono {Y:Nat→Prop} (h:WkX w A m c cs X) (hX:∀i,i<cs.length→X i→Y i):WkX w A m c cs Y:=⟨h.1,fun i hi hy=>h.2 i hi (fun z=>hy (hX i hi z))⟩
theorem WkX.view (h:WkX w A m c cs Non):∃T:List AS,T.length=m∧ElV ElAS 2 w (fun _=>True) A T:=by
 have hl:=h.1.len
 have each:∀j,j<m→∃x:AS,ElAS w (fun _=>True) ((cs.drop (2 * j)).take 2) x:=fun j hj=>by
  have h0:=h.2 (2 * j) (by omega) (fun f=>f);have h1:=h.2 (2 * j+1) (by omega) (fun f=>f);unfold WkC at h0 h1;rw [if_pos (by omega)] at h0;rw [if_neg (by omega)] at h1;obtain ⟨t,e0⟩:=h0;obtain ⟨RA,rc,bits,e1,hle,hs⟩:=h1;refine ⟨⟨t,bits⟩,RA,rc,?_,hle,hs.mono (fun _ _ _=>trivial)⟩;rw [List.drop_eq_getElem_cons (show 2 * j<cs.length by omega),List.drop_eq_getElem_cons (show 2 * j+1<cs.length by omega),e0,e1];rfl
 refine ⟨(List.range m).map fun j=>if q:j<m then Classical.choose (each j q) else ⟨0,[]⟩,by simp,cs,h.1.sl.mono (fun _ _ _=>trivial),?_,fun i hi=>?_⟩
 ·rw [hl];simp;omega
 ·have him:i<m:=by simpa using hi
  simp only [List.getElem_map,List.getElem_range];rw [dif_pos him];exact Classical.choose_spec (each i him)
end
structure MuS (w:World) (b0:Nat) (A:Option Addr) (m c:Nat) (L:List AS) (cs:List Value) (RA:Nat→Option Addr) (rc:Nat→Nat):Prop where
 own:Own w 122 2 A m c cs
 len:m=L.length
 fr:∀i,At A i→b0≤i
 c0:∀j (h:j<L.length),cs[2 * j]?=some (.int .i64 L[j].at_)
 c1:∀j (h:j<L.length),cs[2 * j+1]?=some (.slice (RA j) L[j].bits.length (rc j))
 row:∀j (h:j<L.length),Own w 5 1 (RA j) L[j].bits.length (rc j) (u8s L[j].bits)
 rf:∀j,j<L.length→∀i,At (RA j) i→b0≤i
 dis:∀j j',j<L.length→j'<L.length→j≠j'→∀i,At (RA j) i→¬At (RA j') i
section
variable {w w' w1 w3 w4 w5:World} {S:Nat→Prop} {b0 m c:Nat} {A:Option Addr} {L:List AS} {cs:List Value} {RA:Nat→Option Addr} {rc:Nat→Nat}
theorem MuS.none_ (w:World) (b0:Nat):MuS w b0 none 0 0 [] [] (fun _=>none) (fun _=>0) :=
 ⟨Own.none_,rfl,fun _ h=>(At.none_ h).elim,fun _ h=>absurd h (Nat.not_lt_zero _),fun _ h=>absurd h (Nat.not_lt_zero _),fun _ h=>absurd h (Nat.not_lt_zero _),fun _ h=>absurd h (Nat.not_lt_zero _),fun _ _ h=>absurd h (Nat.not_lt_zero _)⟩
theorem MuS.non (h:MuS w b0 A m c L cs RA rc) (u:Upd Non w w'):MuS w' b0 A m c L cs RA rc :=
 ⟨h.own.upd u (fun _ _ f=>f),h.len,h.fr,h.c0,h.c1,fun j hj=>(h.row j hj).upd u (fun _ _ f=>f),h.rf,h.dis⟩
theorem MuS.snoc (h:MuS w b0 A m c L cs RA rc) (hb:b0≤w.heap.size) (u:Upd Non w w4) {RB:Option Addr} {rb:Nat} {x:AS} (hr:Own w4 5 1 RB x.bits.length rb (u8s x.bits)) (hrf:∀i,At RB i→w.heap.size≤i) {A':Option Addr} {c':Nat} (ho:Own w5 122 2 A' (m+1) c' (cs++[.int .i64 x.at_,.slice RB x.bits.length rb])) (u5:Upd (At A) w4 w5) (hat:∀i,At A' i→At A i∨i=w4.heap.size) :
  MuS w5 b0 A' (m+1) c' (L++[x]) (cs++[.int .i64 x.at_,.slice RB x.bits.length rb]) (fun j=>if j<L.length then RA j else RB) (fun j=>if j<L.length then rc j else rb):=by
 have h4:=h.non u;have hcl:=h.own.len;have hl:=h.len;have hsz:=u.size;have key:∀j,j<(L++[x]).length→j<L.length∨j=L.length:=fun j hj=>by rw [List.length_append,List.length_singleton] at hj;omega
 refine ⟨ho,by rw [List.length_append,List.length_singleton,←hl],fun i hi=>?_,fun j hj=>?_,fun j hj=>?_,fun j hj=>?_,fun j hj i hi=>?_,fun j j' hj hj' hne i hi=>?_⟩
 ·rcases hat i hi with q | q
  ·exact h.fr i q
  ·omega
 ·rcases key j hj with q | q
  ·rw [List.getElem?_append_left (by omega),h.c0 j q,List.getElem_append_left q]
  ·subst q;rw [List.getElem?_append_right (by omega),show 2 * L.length - cs.length=0 by omega];simp
 ·rcases key j hj with q | q
  ·rw [List.getElem?_append_left (by omega),h.c1 j q,List.getElem_append_left q,if_pos q,if_pos q]
  ·subst q;rw [List.getElem?_append_right (by omega),show 2 * L.length+1 - cs.length=1 by omega,if_neg (Nat.lt_irrefl _),if_neg (Nat.lt_irrefl _)];simp
 ·rcases key j hj with q | q
  ·rw [List.getElem_append_left q,if_pos q,if_pos q];exact (h4.row j q).upd u5 (fun i hi z=>(h4.row j q).ne_type h4.own (by decide) hi z)
  ·subst q;simp only [if_neg (Nat.lt_irrefl _),List.getElem_concat_length];exact hr.upd u5 (fun i hi z=>hr.ne_type h4.own (by decide) hi z)
 ·rcases key j hj with q | q
  ·rw [if_pos q] at hi;exact h.rf j q i hi
  ·subst q;rw [if_neg (Nat.lt_irrefl _)] at hi;have:=hrf i hi;omega
 ·rcases key j hj with q | q <;> rcases key j' hj' with q' | q'
  ·rw [if_pos q] at hi;rw [if_pos q'];exact h.dis j j' q q' hne i hi
  ·subst q';rw [if_pos q] at hi;rw [if_neg (Nat.lt_irrefl _)];intro z;have h1:=(h.row j q).lt hi;have h2:=hrf i z;omega
  ·subst q;rw [if_neg (Nat.lt_irrefl _)] at hi;rw [if_pos q'];intro z;have h1:=(h.row j' q').lt z;have h2:=hrf i hi;omega
  ·omega
theorem MuS.cells (h:MuS w b0 A m c L cs RA rc) {k:Nat} (hk:k<L.length):∃g,A=some ⟨g,0,none⟩∧w.cell? ⟨g,k * 2,none⟩=some (.int .i64 L[k].at_)∧w.cell? ⟨g,k * 2+1,none⟩=some (.slice (RA k) L[k].bits.length (rc k))∧∀i,w.frozen? ⟨g,i,none⟩=false:=by
 have hcl:=h.own.len;have hl:=h.len;obtain ⟨g,rfl⟩:=h.own.some_ (by omega);refine ⟨g,rfl,?_,?_,fun i=>h.own.froz2 i⟩
 ·have:=h.own.sl.cell2 (j:=k * 2) (by omega);rw [Nat.zero_add] at this;rw [this,Nat.mul_comm];exact h.c0 k hk
 ·have:=h.own.sl.cell2 (j:=k * 2+1) (by omega);rw [Nat.zero_add] at this;rw [this,Nat.mul_comm];exact h.c1 k hk
theorem MuS.wk (h:MuS w b0 A m c L cs RA rc):WkX w A m c cs Non:=by
 refine ⟨h.own,fun i hi _=>?_⟩;have hcl:=h.own.len;have hl:=h.len;obtain ⟨j,rfl | rfl⟩:∃j,i=2 * j∨i=2 * j+1:=⟨i / 2,by omega⟩
 ·have e:=h.c0 j (by omega);rw [List.getElem?_eq_getElem hi] at e;injection e with e
  rw [e];exact WkC.int _ (by omega)
 ·have hj:j<L.length:=by omega
  have e:=h.c1 j hj;rw [List.getElem?_eq_getElem hi] at e;injection e with e
  rw [e];exact WkC.row (by omega) rfl (h.row j hj).le (own_u8s (h.row j hj))
theorem MuS.wk3 (h:MuS w b0 A m c L cs RA rc) {k:Nat} (hk:k<L.length) (u:Upd (At (RA k)) w w'):WkX w' A m c cs (fun i=>i=2 * k+1):=by
 have hA:=fun g hg z=>(h.row k hk).ne_type h.own (by decide) (k:=g) hg z
 refine ⟨h.own.upd u (fun g hg z=>hA g z hg),fun i hi hx=>?_⟩;have hcl:=h.own.len;have hl:=h.len;obtain ⟨j,rfl | rfl⟩:∃j,i=2 * j∨i=2 * j+1:=⟨i / 2,by omega⟩
 ·have e:=h.c0 j (by omega);rw [List.getElem?_eq_getElem hi] at e;injection e with e
  rw [e];exact WkC.int _ (by omega)
 ·have hj:j<L.length:=by omega
  have e:=h.c1 j hj;rw [List.getElem?_eq_getElem hi] at e;injection e with e
  rw [e];have hr:=(h.row j hj).upd u (fun i hi=>h.dis j k hj hk (by omega) i hi);exact WkC.row (by omega) rfl hr.le (own_u8s hr)
theorem WkX.del {X:Nat→Prop} {A':Option Addr} {c' m' k k1:Nat} (h:WkX w A m c cs Non) (hk1:k1=k+1) (hkm:k<m) (u:Upd S w w') (d:∀g z,Blk w g 5 z→¬S g) (ho:Own w' 122 2 A' m' c' (cs.take (k * 2)++cs.drop (k1 * 2))):WkX w' A' m' c' (cs.take (k * 2)++cs.drop (k1 * 2)) X:=by
 have hcl:=h.1.len;refine ⟨ho,fun i hi _=>?_⟩;have hlt:(cs.take (k * 2)).length=k * 2:=by rw [List.length_take];omega
 rw [List.length_append,hlt,List.length_drop] at hi;by_cases q:i<k * 2
 ·rw [List.getElem_append_left (by omega),List.getElem_take];exact (h.2 i (by omega) (fun f=>f)).upd u d
 ·rw [List.getElem_append_right (by omega),List.getElem_drop];exact ((h.2 (k1 * 2+(i - (cs.take (k * 2)).length)) (by omega) (fun f=>f)).upd u d).par (by omega)
theorem WkX.snoc {A':Option Addr} {c':Nat} {v0 v1:Value} (h:WkX w A m c cs Non) (u:Upd S w w') (d:∀g z,Blk w g 5 z→¬S g) (ho:Own w' 122 2 A' (m+1) c' (cs++[v0,v1])) (h0:WkC w' 0 v0) (h1:WkC w' 1 v1):WkX w' A' (m+1) c' (cs++[v0,v1]) Non:=by
 have hcl:=h.1.len;refine ⟨ho,fun i hi _=>?_⟩;rw [List.length_append,List.length_cons,List.length_singleton] at hi;by_cases q:i<cs.length
 ·rw [List.getElem_append_left q];exact (h.2 i q (fun f=>f)).upd u d
 ·rw [List.getElem_append_right (by omega)];obtain e | e:i - cs.length=0∨i - cs.length=1:=by omega
  ·simp only [e,List.getElem_cons_zero];exact h0.par (by omega)
  ·simp only [e,List.getElem_cons_succ,List.getElem_cons_zero];exact h1.par (by omega)
end
end Go.Proofs.YtifhejahbbnkiaaGreat
namespace Go.Proofs.YtifhejahbbnkiaaGreat
open Go.RowKit
def findG:List Int→Int→Nat→Option Nat
 | [],_,_=>none
 | y::l,x,k=>if y=x then some k else findG l x (k+1)
def lastG:List Int→Int→Nat→Int→Int
 | [],_,_,a=>a
 | y::l,x,k,a=>lastG l x (k+1) (if y=x then (k:Int) else a)
def numV (vs:List Int) (x:Int):Int×List Int :=
 match findG vs x 0 with
 | some i=>((i:Int)+1,vs)
 | none=>((vs.length:Int)+1,vs++[x])
def numI (ms:List Int) (x:Int):Int×List Int :=
 if 0<x then (if lastG ms x 0 (-1)<0 then ((ms.length:Int)+1,ms++[x]) else (lastG ms x 0 (-1)+1,ms)) else (x,ms)
mutual
def numF:Pt→List Int→List Int→Pt×List Int×List Int
 | .mk v op imm iv kids,vs,ms =>
  if 0<v then (.mk (numV vs v).1 op imm iv kids,(numV vs v).2,ms)
  else (.mk v op imm (numI ms iv).1 (numL kids vs (numI ms iv).2).1,(numL kids vs (numI ms iv).2).2.1,(numL kids vs (numI ms iv).2).2.2)
def numL:List Pt→List Int→List Int→List Pt×List Int×List Int
 | [],vs,ms=>([],vs,ms)
 | k::ks,vs,ms=>((numF k vs ms).1::(numL ks (numF k vs ms).2.1 (numF k vs ms).2.2).1,(numL ks (numF k vs ms).2.1 (numF k vs ms).2.2).2.1,(numL ks (numF k vs ms).2.1 (numF k vs ms).2.2).2.2)
end
theorem numF_var {p:Pt} (h:0<p.v) (vs ms:List Int):numF p vs ms=(.mk (numV vs p.v).1 p.op p.imm p.iv p.kids,(numV vs p.v).2,ms):=by
 cases p with
 | mk v op imm iv kids=>simp only [numF,Pt.v,Pt.op,Pt.imm,Pt.iv,Pt.kids] at h ⊢;rw [if_pos h]
theorem numF_op {p:Pt} (h:¬0<p.v) (vs ms:List Int):numF p vs ms=(.mk p.v p.op p.imm (numI ms p.iv).1 (numL p.kids vs (numI ms p.iv).2).1,(numL p.kids vs (numI ms p.iv).2).2.1,(numL p.kids vs (numI ms p.iv).2).2.2):=by
 cases p with
 | mk v op imm iv kids=>simp only [numF,Pt.v,Pt.op,Pt.imm,Pt.iv,Pt.kids] at h ⊢;rw [if_neg h]
theorem numL_snoc (k:Pt):∀(ks:List Pt) (vs ms:List Int),numL (ks++[k]) vs ms=((numL ks vs ms).1++[(numF k (numL ks vs ms).2.1 (numL ks vs ms).2.2).1],(numF k (numL ks vs ms).2.1 (numL ks vs ms).2.2).2)
 | [],vs,ms=>by simp only [List.nil_append,numL]
 | x::ks,vs,ms=>by simp only [List.cons_append,numL,numL_snoc k ks]
theorem numL_len:∀(ks:List Pt) (vs ms:List Int),(numL ks vs ms).1.length=ks.length
 | [],_,_=>by simp [numL]
 | x::ks,vs,ms=>by simp only [numL,List.length_cons,numL_len ks]
theorem numV_len (vs:List Int) (x:Int):(numV vs x).2.length≤vs.length+1:=by
 unfold numV
 split <;> simp
theorem numI_len (ms:List Int) (x:Int):(numI ms x).2.length≤ms.length+1:=by
 unfold numI
 split
 ·split <;> simp
 ·simp
mutual
theorem numF_len:∀(p:Pt) (vs ms:List Int),(numF p vs ms).2.1.length≤vs.length+p.size∧(numF p vs ms).2.2.length≤ms.length+p.size∧(numF p vs ms).1.size=p.size
 | .mk v op imm iv kids,vs,ms=>by
  simp only [numF]
  split
  ·have:=numV_len vs v;simp only [Pt.size];refine ⟨?_,?_,trivial⟩ <;> omega
  ·obtain ⟨h1,h2,h3⟩:=numL_lens kids vs (numI ms iv).2;have:=numI_len ms iv;simp only [Pt.size,h3];refine ⟨?_,?_,trivial⟩ <;> omega
theorem numL_lens:∀(ks:List Pt) (vs ms:List Int),(numL ks vs ms).2.1.length≤vs.length+Pt.sizeL ks∧(numL ks vs ms).2.2.length≤ms.length+Pt.sizeL ks∧Pt.sizeL (numL ks vs ms).1=Pt.sizeL ks
 | [],vs,ms=>by simp [numL,Pt.sizeL]
 | k::ks,vs,ms=>by
  obtain ⟨h1,h2,h3⟩:=numF_len k vs ms;obtain ⟨g1,g2,g3⟩:=numL_lens ks (numF k vs ms).2.1 (numF k vs ms).2.2;simp only [numL,Pt.sizeL,h3,g3];refine ⟨?_,?_,trivial⟩ <;> omega
end
end Go.Proofs.YtifhejahbbnkiaaGreat
namespace Go.Proofs.YtifhejahbbnkiaaGreat
open Go.RowKit
theorem T_pats:SlT Tryz.prog 36 38 5 56:=by
 obtain ⟨i,h1,h2,h3,h4⟩:=info_parts (show (Tryz.prog.info? 38).map (fun i=>(i.zero,i.size,i.bytes))=some (some (.agg #[.int .i64 0,.int .i64 0,.int .i64 0,.int .i64 0,.slice none 0 0]),5,56) from by kernel_rfl)
 exact ⟨Tryz.underlying36,⟨i,_,h1,h2,h3,h4,rfl⟩,by omega⟩
section
variable {w w':World} {F G G' S:Nat→Prop} {A:Option Addr} {L:List Pt} {n c:Nat}
def pcells (p:Pt) (KA:Option Addr) (kc:Nat):List Value:=[.int .i64 p.v,.int .i64 p.op,.int .i64 p.imm,.int .i64 p.iv,.slice KA p.kids.length kc]
def PtCells (w:World) (K:Nat→Prop) (cs:List Value) (L:List Pt):Prop :=
 cs.length=5 * L.length∧∀i (h:i<L.length),∃KA kc,(∀j,j<5→cs[5 * i+j]?=(pcells L[i] KA kc)[j]?)∧PtK w K L[i] KA kc
theorem PtCells.nil {K:Nat→Prop}:PtCells w K [] []:=⟨rfl,fun i h=>by simp at h⟩
theorem PtCells.mono {K K' S:Nat→Prop} {cs:List Value} (h:PtCells w K cs L) (u:Upd S w w') (d:∀k,k<w.heap.size→K k→¬S k) (hK:∀k,k<w.heap.size→K k→K' k):PtCells w' K' cs L:=by
 refine ⟨h.1,fun i hi=>?_⟩;obtain ⟨KA,kc,h1,h5⟩:=h.2 i hi;refine ⟨KA,kc,h1,?_⟩;have h6:=PtK.mono (G:=fun k=>K' k∧K k) (fun k hk hK0=>⟨hK k hk hK0,hK0⟩) _ _ _ h5;exact PtK.mono (fun _ _ h=>h.1) _ _ _ (PtK.upd u (fun k hk hk'=>d k hk hk'.2) _ _ _ h6)
theorem PtCells.snoc {K:Nat→Prop} {cs:List Value} (h:PtCells w K cs L) {p:Pt} {KA:Option Addr} {kc:Nat} (hk:PtK w K p KA kc) :
  PtCells w K (cs++pcells p KA kc) (L++[p]):=by
 refine ⟨by simp [h.1,pcells];omega,fun i hi=>?_⟩;have hl:=h.1;by_cases hlt:i<L.length
 ·obtain ⟨KA,kc,h1,h5⟩:=h.2 i hlt;refine ⟨KA,kc,fun j hj=>?_,?_⟩
  ·rw [List.getElem?_append_left (by omega),List.getElem_append_left hlt];exact h1 j hj
  ·rw [List.getElem_append_left hlt];exact h5
 ·have he:i=L.length:=by simp at hi;omega
  subst he;refine ⟨KA,kc,fun j hj=>?_,?_⟩
  ·rw [List.getElem?_append_right (by omega),hl];simp
  ·simpa using hk
def PtO (w:World) (G:Nat→Prop) (A:Option Addr) (n c:Nat) (L:List Pt):Prop :=
 n=L.length∧∃cs,Own w 38 5 A n c cs∧PtCells w (fun k=>G k∧¬At A k) cs L
theorem PtO.upd (h:PtO w G A n c L) (u:Upd S w w') (dA:∀k,At A k→¬S k) (dG:∀k,k<w.heap.size→G k→¬S k):PtO w' G A n c L:=by
 obtain ⟨h1,cs,h2,h3⟩:=h;exact ⟨h1,cs,h2.upd u dA,h3.mono u (fun k hk hg=>dG k hk hg.1) (fun _ _ h=>h)⟩
theorem PtO.mono (h:PtO w G A n c L) (hG:∀k,k<w.heap.size→G k→G' k):PtO w G' A n c L:=by
 obtain ⟨h1,cs,h2,h3⟩:=h;exact ⟨h1,cs,h2,h3.mono (Upd.refl (S:=Non)) (fun _ _ _ f=>f) (fun k hk hg=>⟨hG k hk hg.1,hg.2⟩)⟩
theorem PtO.lt (h:PtO w G A n c L) {k:Nat} (hk:At A k):k<w.heap.size:=by obtain ⟨_,_,h2,_⟩:=h;exact h2.lt hk
theorem PtO.view (h:PtO w G A n c L) (hA:∀k,At A k→F k) (hG:∀k,k<w.heap.size→G k→F k) (v op imm iv:Int):PtK w F (.mk v op imm iv L) A c:=by
 obtain ⟨rfl,cs,h2,h3⟩:=h;rw [PtK.iff];refine ⟨h2.le,?_⟩;rcases h2.cases with ⟨_,h0,_,_⟩ | ⟨g,cur,rfl,hb,_,_,_,ht⟩
 ·exact .inl (List.eq_nil_of_length_eq_zero h0)
 ·refine .inr ⟨g,0,rfl,hA g (At.some_.2 rfl),PtL.of fun i hi=>?_⟩;have hl:=h3.1;obtain ⟨KA,kc,c1,c5⟩:=h3.2 i hi
  have hcell:∀j u,cs[j]?=some u→w.cell? ⟨g,j,none⟩=some u:=by
   intro j u hj;rw [hb.cell];rw [←ht] at hj;rw [List.getElem?_take] at hj
   split at hj
   ·simpa using hj
   ·cases hj
  have e:0+i * 5=5 * i:=by omega
  refine ⟨KA,kc,?_,?_,?_,?_,?_,PtK.mono (fun k hk hg=>hG k hk hg.1) _ _ _ c5⟩
  ·rw [e];exact hcell _ _ (c1 0 (by omega))
  ·rw [e];exact hcell _ _ (c1 1 (by omega))
  ·rw [e];exact hcell _ _ (c1 2 (by omega))
  ·rw [e];exact hcell _ _ (c1 3 (by omega))
  ·rw [e];exact hcell _ _ (c1 4 (by omega))
theorem PtO.snoc {cs:List Value} (h:PtO w G A n c L) (hc:PtCells w (fun k=>G k∧¬At A k) cs L) {p:Pt} {KA:Option Addr} {kc:Nat} (hk:PtK w (fun k=>G k∧¬At A k) p KA kc)
  {A':Option Addr} {c':Nat} (ho:Own w' 38 5 A' (n+1) c' (cs++pcells p KA kc)) (hu:Upd (At A) w w') (hat:∀k,At A' k→At A k∨k=w.heap.size) (hG:∀k,k<w.heap.size→G k→G' k) :
  PtO w' G' A' (n+1) c' (L++[p]):=by
 refine ⟨by simp [h.1],_,ho,?_⟩;refine (hc.snoc hk).mono hu (fun k _ hg=>hg.2) (fun k hk hg=>⟨hG k hk hg.1,fun hA=>?_⟩);rcases hat k hA with h | h
 ·exact hg.2 h
 ·omega
end
theorem results_cell_row_tmps {P:Program} {fn:Func} {p u v:Tmp} {ty:TypeId} (h:fn.results=#[.cell p ty,.tmp u,.tmp v]) (tmps:Array Value) (w:World) (g:Nat) (t:TypeId) (cs:Array Value) (fr:Nat×Nat) (d:TypeDesc)
  (hp:tmps.getD p undef=.pointer (some ⟨g,0,none⟩)) (hg:w.heap[g]?=some (.cells cs t fr))
  (hu:P.underlying ty=some d) (hd:(match d with | .struct _ | .array _ _=>true | _=>false)=true) (hi:(P.info? ty).map (·.size)=some cs.size) :
  (results fn tmps).run P w=.ok (.tuple #[.agg cs,tmps.getD u undef,tmps.getD v undef]) w:=by
 have hp':tmps[p]?.getD undef=.pointer (some ⟨g,0,none⟩):=by simpa using hp
 simp [results,h,hp',asAddr,run_loadVar_row w g t ty cs fr d hg hu hd hi,Result.andThen]
theorem PtK.swap {w:World} {F:Nat→Prop} {p:Pt} {KA:Option Addr} {kc:Nat} (h:PtK w F p KA kc) (a b c d:Int):PtK w F (.mk a b c d p.kids) KA kc:=by
 rw [PtK.iff] at h ⊢;exact h
def NS (w:World) (A:Option Addr) (c:Nat) (vs:List Int) (B:Option Addr) (d:Nat) (ms:List Int):Prop :=
 Own w 3 1 A vs.length c (icells vs)∧Own w 3 1 B ms.length d (icells ms)∧∀k,At A k→¬At B k
theorem NS.upd {w w':World} {S:Nat→Prop} {A B:Option Addr} {c d:Nat} {vs ms:List Int} (h:NS w A c vs B d ms) (u:Upd S w w') (hA:∀k,At A k→¬S k) (hB:∀k,At B k→¬S k):NS w' A c vs B d ms:=⟨h.1.upd u hA,h.2.1.upd u hB,h.2.2⟩
theorem findG_drop {vs:List Int} {k:Nat} (h:k<vs.length) (x:Int):findG (vs.drop k) x k=if vs[k]=x then some k else findG (vs.drop (k+1)) x (k+1):=by
 rw [List.drop_eq_getElem_cons h];rfl
theorem lastG_drop {vs:List Int} {k:Nat} (h:k<vs.length) (x a:Int):lastG (vs.drop k) x k a=lastG (vs.drop (k+1)) x (k+1) (if vs[k]=x then (k:Int) else a):=by
 rw [List.drop_eq_getElem_cons h];rfl
theorem Ints.cellA {w:World} {F:Nat→Prop} {A:Option Addr} {xs:List Int} (h:Ints w F A xs) {j:Nat} (hj:j<xs.length):∃b o,A=some ⟨b,o,none⟩∧F b∧b<w.heap.size∧w.cell? ⟨b,o+j,none⟩=some (.int .i64 xs[j]):=by
 obtain ⟨b,o,h1,h2,h3,h4⟩:=Sl.at_ (k:=j) h (by simpa using hj);exact ⟨b,o,h1,h2,h3,by simpa using h4⟩
def NumPost (w:World) (F:Nat→Prop) (A B:Option Addr) (r:Pt×List Int×List Int) (e:Ending) (w':World):Prop :=
 ∃(KA':Option Addr) (kc':Nat) (A':Option Addr) (c':Nat) (B':Option Addr) (d':Nat),
  e=.returned (.tuple #[pv r.1 KA' kc',.slice A' r.2.1.length c',.slice B' r.2.2.length d']) ∧
  PtK w' (fun k=>(F k∨w.heap.size≤k)∧¬At A' k∧¬At B' k) r.1 KA' kc'∧NS w' A' c' r.2.1 B' d' r.2.2 ∧
  (∀k,At A' k→At A k∨w.heap.size≤k)∧(∀k,At B' k→At B k∨w.heap.size≤k)∧Upd (fun k=>At A k∨At B k) w w'
set_option maxRecDepth 100000 in
set_option maxHeartbeats 4000000 in
theorem numbered_c (p:Pt):∀(w:World) (F:Nat→Prop) (KA:Option Addr) (kc:Nat) (A:Option Addr) (c:Nat) (B:Option Addr) (d:Nat) (vs ms:List Int),PtK w F p KA kc→(∀k,F k→¬At A k∧¬At B k)→NS w A c vs B d ms→vs.length+p.size≤1000000→ms.length+p.size≤1000000 →
  Calls Tryz.prog 117 #[pv p KA kc,.slice A vs.length c,.slice B ms.length d] w fun e w'=>NumPost w F A B (numF p vs ms) e w':=by
 induction p using Pt.ind with
 | h p ih =>
  intro w F KA kc A c B d vs ms hp0 hF0 hns hsv hsm;have HI:=h_ ih;have hp1:=PtK.mono (G:=fun k=>F k∧k<w.heap.size) (fun k hk h=>⟨h,hk⟩) p KA kc hp0;obtain ⟨W,HW⟩:=nm (w.alloc (.cells #[.int .i64 p.v,.int .i64 p.op,.int .i64 p.imm,.int .i64 p.iv,.slice KA p.kids.length kc] 38));have hU:Upd Non w W:=by rw [←HW.out];exact Upd.refl.alloc _
  have hb:Blk W w.heap.size 38 #[.int .i64 p.v,.int .i64 p.op,.int .i64 p.imm,.int .i64 p.iv,.slice KA p.kids.length kc]:=by rw [←HW.out];exact Blk.new _ _ _
  have hsW:W.heap.size=w.heap.size+1:=by rw [←HW.out];simp
  obtain ⟨W2,HW2⟩:=nm (W.alloc (.cells #[.int .i64 0,.int .i64 0,.int .i64 0,.int .i64 0,.slice none 0 0] 38));have hU2:Upd Non W W2:=by rw [←HW2.out];exact Upd.refl.alloc _
  have hb2:Blk W2 (w.heap.size+1) 38 #[.int .i64 0,.int .i64 0,.int .i64 0,.int .i64 0,.slice none 0 0]:=by rw [←HW2.out,←hsW];exact Blk.new _ _ _
  have hsW2:W2.heap.size=w.heap.size+2:=by rw [←HW2.out];simp [hsW]
  have hb:=hb.upd hU2 (fun f=>f);have hU0:=hU.then_non hU2;have e0:=HW.out;have e2:=HW2.out;have hpW:=PtK.upd hU0 (fun _ _ _ f=>f) p KA kc hp1;have hnsW:=hns.upd hU0 (fun _ _ f=>f) (fun _ _ f=>f);have hAlt:∀k,At A k→k<w.heap.size:=fun k h=>hns.1.lt h
  have hBlt:∀k,At B k→k<w.heap.size:=fun k h=>hns.2.1.lt h
  have HS:=h_ (Pt.size_eq p);have hkl:p.kids.length≤1000000:=by have h1:=Pt.len_le p.kids;have h2:=HS.out;omega
  have HF0:=h_ hF0;have HAL:=h_ hAlt;have HBL:=h_ hBlt;have HNV:=h_ (@numF_var p);have HNO:=h_ (@numF_op p);have hps:1≤p.size:=by have:=HS.out;omega
  obtain ⟨R,HR⟩:=nm (numF p vs ms);rw [HR.out];have c0:=hb.cell 0;have c3:=hb.cell 3;unfold pv;obtain ⟨v,Hv⟩:=nm p.v;obtain ⟨op,Hop⟩:=nm p.op;obtain ⟨imm,Himm⟩:=nm p.imm;obtain ⟨iv,Hiv⟩:=nm p.iv;obtain ⟨k,Hk⟩:=nm p.kids.length;rw [Hv.out] at c0 e0 hb HNV HNO;rw [Hop.out] at e0 hb HNV HNO;rw [Himm.out] at e0 hb HNV HNO;rw [Hiv.out] at c3 e0 hb HNV HNO;rw [Hk.out] at e0 hb hkl;rw [Hv.out,Hop.out,Himm.out,Hiv.out,Hk.out];obtain ⟨nv,Hnv⟩:=nm vs.length;obtain ⟨nm_,Hnm⟩:=nm ms.length;rw [Hnv.out] at hsv ⊢;rw [Hnm.out] at hsm ⊢;clear ih hp0 hF0 hns hp1 hAlt hBlt hU hU2;by_cases hv:0<v
  ·have hR:=HNV.out hv vs ms;rw [HR.out] at hR;have hiV:=hnsW.1.ints;have HIV:=h_ hiV;have HNS:=h_ hnsW;have HR2:=h_ hR;have tv:decide (0<v)=true:=dT_ hv;have HV0:=h_ hv;clear HNV HNO hnsW hR hiV hv c3;go_enter Tryz.func117,Tryz.ntmps117;go_wp2_with fail
   go_loopg [9] nv (fun g i wr=>∃j:Nat,Hid (g=nv - j)∧j≤nv∧i=.int .i64 j∧Hid (findG vs v 0=findG (vs.drop j) v j)∧Upd Non W2 wr)
   case atStart=>exact ⟨0,rfl,by omega,rfl,rfl,Upd.refl⟩
   case round =>
    obtain ⟨j,Hg,hj,rfl,HFD,hu⟩:=hrel;have hbr:=hb.upd hu (fun f=>f);have hbR:=hb2.upd hu (fun f=>f);have d0:=hbr.cell 0;have g0:=hbr.frozen 0;by_cases hlt:j<nv
    ·have hjl:j<vs.length:=by rw [Hnv.out];exact hlt
     obtain ⟨ba,oa,hA,_,_,z⟩:=(HIV.out.upd hu (fun _ _ _ f=>f)).cellA hjl;have HFJ:Hid (findG vs v 0=if vs[j]=v then some j else findG (vs.drop (j+1)) v (j+1)):=by show _=_;rw [HFD.out];exact findG_drop hjl v
     generalize vs[j]=y at *;have t1:decide (j<nv)=true:=dT_ hlt;have hj0:(0:Int)≤(j:Int):=by omega
     have hjn:(j:Int)<(nv:Int):=by omega
     subst hA;obtain ⟨wD,HwD⟩:=nm wr.drew;have uD:Upd Non wr wD:=by rw [←HwD.out];exact Upd.refl.drew
     have dD0:=u_ d0 uD (fun f=>f);have zD:=u_ z uD (fun f=>f);have HFL:=h_ hlt;clear hlt;go_wp2_with fail
     refine wp_region_held_drew (S:=fun w'=>w'.cell? ⟨w.heap.size,0,none⟩=some (.int .i64 v)∧w'.cell? ⟨ba,oa+j,none⟩=some (.int .i64 y)) (by kernel_rfl) (by rw [HwD.out];exact ⟨dD0,zD⟩) (fun hHeld=>?_)
     rw [HwD.out] at hHeld ⊢;by_cases hy:y=v
     ·subst hy;refine wpT 0 ?_;(try simp only [y_,z_]);refine wpT 1 ?_;(try simp only [y_,z_]);refine wpT 2 ?_;(try simp only [y_,z_]);refine wpT 3 ?_;(try simp only [y_,z_]);refine wpT 4 ?_;(try simp only [y_,z_]);refine wpT 5 ?_;(try simp only [y_,z_]);refine wpT 6 ?_;(try simp only [y_,z_]);refine aD_ (by kernel_rfl) ?_ _;have hbD:=hbr.upd uD (fun f=>f);have hbRD:=hbR.upd uD (fun f=>f);have hE:findG vs y 0=some j:=by rw [HFJ.out,if_pos rfl]
      have g0:=hbD.frozen 0;obtain ⟨X1,HX1⟩:=nm (wD.setCell ⟨w.heap.size,0,none⟩ (.int .i64 ((j:Int)+1)));have x1:=HX1.out;have hx1:Blk X1 w.heap.size 38 #[.int .i64 ((j:Int)+1),.int .i64 op,.int .i64 imm,.int .i64 iv,.slice KA k kc]:=by rw [←x1];simpa using hbD.set_ 0 (.int .i64 ((j:Int)+1))
      have v1:Upd (·=w.heap.size) wD X1:=by rw [←x1];exact updCell _ _ _ _
      have hxR:=hbRD.upd v1 (by omega);have k0:=hx1.cell 0;have k1:=hx1.cell 1;have k2:=hx1.cell 2;have k3:=hx1.cell 3;have k4:=hx1.cell 4;have r0:=hxR.cell 0;have r1:=hxR.cell 1;have r2:=hxR.cell 2;have r3:=hxR.cell 3;have r4:=hxR.cell 4;have rf:=hxR.frozen;have HE:=h_ hE;have UX:Upd (·=w.heap.size) W2 X1:=((hu.then_non uD).mono (fun _ _ f=>f.elim)).trans v1 (fun _ _ h=>h);have HXR:=h_ hxR;clear hE z zD;go_wp2_with fail
      rw [set5_eq];refine bodyPost_ret (results_cell_row_tmps rfl _ _ (w.heap.size+1) 38 _ (0,0) _ rfl (set5_blk HXR.out _ _ _ _ _) Tryz.underlying38 rfl (by kernel_rfl)) rfl ?_
      have uS:=set5_upd X1 (w.heap.size+1) (.int .i64 ((j:Int)+1)) (.int .i64 op) (.int .i64 imm) (.int .i64 iv) (.slice KA k kc);have UF:Upd (fun i=>i=w.heap.size∨i=w.heap.size+1) W2 (set5 X1 (w.heap.size+1) (.int .i64 ((j:Int)+1)) (.int .i64 op) (.int .i64 imm) (.int .i64 iv) (.slice KA k kc)):=(UX.mono (fun _ _ h=>.inl h)).trans uS (fun _ _ h=>.inr h)
      have hRe:R=(.mk ((j:Int)+1) op imm iv p.kids,vs,ms):=by rw [HR2.out];unfold numV;rw [HE.out]
      rw [hRe];have hkk:=Hk.out;refine ⟨KA,kc,_,c,B,d,?_,?_,HNS.out.upd UF (fun k h e=>by have:=HAL.out k h;omega) (fun k h e=>by have:=HBL.out k h;omega),fun k h=>.inl h,fun k h=>.inl h,(hU0.mono (fun _ _ f=>f.elim)).trans UF (fun i hi h=>by omega)⟩
      ·show _=Ending.returned (.tuple #[.agg #[_,_,_,_,.slice KA p.kids.length kc],.slice _ vs.length c,.slice B ms.length d]);rw [Hnv.out,Hnm.out,Hk.out];rfl
      ·exact PtK.swap (PtK.mono (fun i _ h=>⟨.inl h.1,HF0.out i h.1⟩) _ _ _ (PtK.upd UF (fun i hi h e=>by have:=h.2;omega) p KA kc hpW)) _ _ _ _
     ·have ty:(y==v)=false:=by simpa using hy
      have HFN:Hid (findG vs v 0=findG (vs.drop (j+1)) v (j+1)):=by show _=_;rw [HFJ.out,if_neg hy]
      clear hy;refine wpT 0 ?_;(try simp only [y_,z_]);refine wpT 1 ?_;(try simp only [y_,z_]);refine wpT 2 ?_;(try simp only [y_,z_]);refine wpT 3 ?_;(try simp only [y_,z_]);refine wpT 4 ?_;(try simp only [y_,z_]);refine wpT 5 ?_;(try simp only [y_,z_]);refine wpT 6 ?_;(try simp only [y_,z_]);refine aD_ (by kernel_rfl) ?_ _;have hltj:=HFL.out;go_wp2_with fail
      go_roundg (nv - (j+1))
      case measure=>rw [Hg.out];omega
      case rel=>exact ⟨j+1,rfl,by omega,by go_num,HFN,hu.then_non uD⟩
    ·obtain rfl:nv=j:=by omega
     have hE:findG vs v 0=none:=by rw [HFD.out,List.drop_of_length_le (by rw [Hnv.out];exact Nat.le_refl _)];rfl
     have HE:=h_ hE;have hoR:=HNS.out.1.upd hu (fun _ _ f=>f);rw [Hnv.out] at hoR;have hltr:=hb2.lt;have hsu:=hu.size;clear hE
     go_wp2_with (at_builtin;refine wpList_app rfl rfl T_ints' rfl (hoR.alloc _) rfl (Sl.new _ _ _) rfl (by simp [Value.oneCell']) (by simp only [maxLen];omega) (by omega) ?_;intro A3 c3 w3 ho3 hu3 hat3;have hb3:=(hbr.alloc (.cells #[.int .i64 v] 3)).upd hu3 (fun h=>by have:=HAL.out _ h;omega);have hbR3:=(hbR.alloc (.cells #[.int .i64 v] 3)).upd hu3 (fun h=>by have:=HAL.out _ h;omega);have d03:=hb3.cell 0;have g03:=hb3.frozen 0;obtain ⟨X1,HX1⟩:=nm (w3.setCell ⟨w.heap.size,0,none⟩ (.int .i64 ((nv:Int)+1)));have x1:=HX1.out;have hx1:Blk X1 w.heap.size 38 #[.int .i64 ((nv:Int)+1),.int .i64 op,.int .i64 imm,.int .i64 iv,.slice KA k kc]:=(by rw [←x1];simpa using hb3.set_ 0 (.int .i64 ((nv:Int)+1)));have v1:Upd (·=w.heap.size) w3 X1:=(by rw [←x1];exact updCell _ _ _ _);have hxR:=hbR3.upd v1 (by omega);have k0:=hx1.cell 0;have k1:=hx1.cell 1;have k2:=hx1.cell 2;have k3:=hx1.cell 3;have k4:=hx1.cell 4;have r0:=hxR.cell 0;have r1:=hxR.cell 1;have r2:=hxR.cell 2;have r3:=hxR.cell 3;have r4:=hxR.cell 4;have rf:=hxR.frozen)
     rw [set5_eq];refine bodyPost_ret (results_cell_row_tmps rfl _ _ (w.heap.size+1) 38 _ (0,0) _ rfl (set5_blk hxR _ _ _ _ _) Tryz.underlying38 rfl (by kernel_rfl)) rfl ?_;have uS:=set5_upd X1 (w.heap.size+1) (.int .i64 ((nv:Int)+1)) (.int .i64 op) (.int .i64 imm) (.int .i64 iv) (.slice KA k kc);have hat4:∀i,At A3 i→At A i∨i=wr.heap.size+1:=fun i h=>by simpa using hat3 i h
     have hal:Upd Non wr (wr.alloc (.cells #[.int .i64 v] 3)):=Upd.refl.alloc _;have u3X:Upd (fun i=>i=w.heap.size∨i=w.heap.size+1) w3 (set5 X1 (w.heap.size+1) (.int .i64 ((nv:Int)+1)) (.int .i64 op) (.int .i64 imm) (.int .i64 iv) (.slice KA k kc)):=(v1.mono (fun _ _ h=>.inl h)).trans uS (fun _ _ h=>.inr h)
     have UF:Upd (fun i=>At A i∨i=w.heap.size∨i=w.heap.size+1) W2 (set5 X1 (w.heap.size+1) (.int .i64 ((nv:Int)+1)) (.int .i64 op) (.int .i64 imm) (.int .i64 iv) (.slice KA k kc)) :=
      ((((hu.then_non hal).mono (fun _ _ f=>f.elim)).trans hu3 (fun _ _ h=>.inl h))).trans u3X (fun _ _ h=>.inr h)
     have hRe:R=(.mk ((nv:Int)+1) op imm iv p.kids,vs++[v],ms):=by rw [HR2.out];unfold numV;rw [HE.out,Hnv.out]
     rw [hRe];have hoF:=ho3.upd u3X (fun i h e=>by rcases hat4 i h with h | h;have:=HAL.out i h;omega;omega);rw [←icells_snoc] at hoF;have hdis:=HNS.out.2.2
     refine ⟨KA,kc,A3,c3,B,d,?_,?_,⟨by simpa [Hnv.out] using hoF,HNS.out.2.1.upd UF (fun i h e=>by
      have h1:=HBL.out i h;rcases e with e | e
      ·exact hdis i e h
      ·omega),fun i h hB=>?_⟩,fun i h=>?_,fun i h=>.inl h,(hU0.mono (fun _ _ f=>f.elim)).trans UF (fun i hi h=>by rcases h with h | h;exact .inl h;omega)⟩
     ·show _=Ending.returned (.tuple #[.agg #[_,_,_,_,.slice KA p.kids.length kc],.slice _ (vs++[v]).length c3,.slice B ms.length d]);rw [List.length_append,Hnv.out,Hnm.out,Hk.out];rfl
     ·refine PtK.swap (PtK.mono (G:=fun i=>(F i∨w.heap.size≤i)∧¬At A3 i∧¬At B i) (fun i _ h=>⟨.inl h.1,fun h3=>?_,(HF0.out i h.1).2⟩) _ _ _ (PtK.upd UF (fun i hi h e=>by
       have h1:=HF0.out i h.1;have h2:=h.2;rcases e with e | e
       ·exact h1.1 e
       ·omega) p KA kc hpW)) _ _ _ _
      rcases hat4 i h3 with h3 | h3
      ·exact (HF0.out i h.1).1 h3
      ·have:=h.2;omega
     ·rcases hat4 i h with h | h
      ·exact hdis i h hB
      ·have:=HBL.out i hB;omega
     ·rcases hat4 i h with h | h
      ·exact .inl h
      ·exact .inr (by omega)
  ·have hR:=HNO.out hv vs ms;rw [HR.out] at hR;have HIM:=h_ hnsW.2.1.ints;have HNS:=h_ hnsW;have tv:decide (0<v)=false:=dF_ hv;have HV0:=h_ hv;obtain ⟨iv1,Hiv1⟩:=nm (numI ms iv).1;obtain ⟨msI,HmsI⟩:=nm (numI ms iv).2;rw [Hiv1.out,HmsI.out] at hR;have HNI:Hid ((iv1,msI)=numI ms iv):=by show _=_;rw [←Hiv1.out,←HmsI.out]
   unfold numI at HNI;have hIl:=numI_len ms iv;rw [HmsI.out,Hnm.out] at hIl;have HR2:=h_ hR;clear HNV HNO hnsW hR hv;go_enter Tryz.func117,Tryz.ntmps117
   go_upto_region 11 with fail
   go_cut [50] (fun t wx=>t=.bool (decide (0<iv))∧W2=wx)
   case first =>
    go_wp2_with fail
    go_meet
    case rel=>exact ⟨rfl,rfl⟩
   case rest =>
   obtain ⟨rfl,rfl⟩:=hcut;obtain ⟨tb,Htb⟩:=nm (decide (0<iv));rw [Htb.out]
   go_upto_if 50 with fail
   go_cut [2,10,11] (fun s2 _ _ wx=>∃(B1:Option Addr) (d1:Nat),s2=.slice B1 msI.length d1∧Hid (NS wx A c vs B1 d1 msI)∧Hid (∀i,At B1 i→At B i∨w.heap.size+2≤i)∧Blk wx w.heap.size 38 #[.int .i64 v,.int .i64 op,.int .i64 imm,.int .i64 iv1,.slice KA k kc]∧Upd (fun i=>At B i∨i=w.heap.size) W2 wx)
   case first =>
    by_cases hiv:0<iv
    ·have tiv:tb=true:=by rw [←Htb.out];exact dT_ hiv
     subst tiv;have hni:=HNI.out;rw [if_pos hiv] at hni;have HNI2:=h_ hni;clear hni hiv;go_wp2_with fail
     go_loopg [10,11] nm_ (fun g s i wr=>∃(j:Nat) (a:Int),Hid (g=nm_ - j)∧j≤nm_∧i=.int .i64 j∧s=.int .i64 a ∧ -1≤a∧a<nm_∧Hid (lastG ms iv 0 (-1)=lastG (ms.drop j) iv j a)∧Upd Non W2 wr)
     case atStart=>exact ⟨0,-1,rfl,by omega,rfl,rfl,by omega,by omega,rfl,Upd.refl⟩
     case round =>
      obtain ⟨j,a,Hg,hj,rfl,rfl,ha1,ha2,HFD,hu⟩:=hrel;have hbr:=hb.upd hu (fun f=>f);have d3:=hbr.cell 3;have g3:=hbr.frozen 3;by_cases hlt:j<nm_
      ·have hjl:j<ms.length:=by rw [Hnm.out];exact hlt
       obtain ⟨ba,oa,hB,_,_,z⟩:=(HIM.out.upd hu (fun _ _ _ f=>f)).cellA hjl;have HFJ:Hid (lastG ms iv 0 (-1)=lastG (ms.drop (j+1)) iv (j+1) (if ms[j]=iv then (j:Int) else a)):=by show _=_;rw [HFD.out];exact lastG_drop hjl iv a
       generalize ms[j]=y at *;have t1:decide (j<nm_)=true:=dT_ hlt;have hj0:(0:Int)≤(j:Int):=by omega
       have hjn:(j:Int)<(nm_:Int):=by omega
       subst hB;obtain ⟨wD,HwD⟩:=nm wr.drew;have uD:Upd Non wr wD:=by rw [←HwD.out];exact Upd.refl.drew
       have dD0:=u_ d3 uD (fun f=>f);have zD:=u_ z uD (fun f=>f);have HFL:=h_ hlt;have HA1:=h_ ha1;clear hlt ha1;go_wp2_with fail
       refine wp_region_held_drew (S:=fun w'=>w'.cell? ⟨w.heap.size,3,none⟩=some (.int .i64 iv)∧w'.cell? ⟨ba,oa+j,none⟩=some (.int .i64 y)) (by kernel_rfl) (by rw [HwD.out];exact ⟨dD0,zD⟩) (fun hHeld=>?_)
       rw [HwD.out] at hHeld ⊢;by_cases hy:y=iv
       ·subst hy;have HFK:Hid (lastG ms y 0 (-1)=lastG (ms.drop (j+1)) y (j+1) (j:Int)):=by show _=_;rw [HFJ.out,if_pos rfl]
        refine wpT 0 ?_;(try simp only [y_,z_]);refine wpT 1 ?_;(try simp only [y_,z_]);refine wpT 2 ?_;(try simp only [y_,z_]);refine wpT 3 ?_;(try simp only [y_,z_]);refine wpT 4 ?_;(try simp only [y_,z_]);refine wpT 5 ?_;(try simp only [y_,z_]);refine wpT 6 ?_;(try simp only [y_,z_]);refine aD_ (by kernel_rfl) ?_ _;have hltj:=HFL.out;go_wp2_with fail
        go_roundg (nm_ - (j+1))
        case measure=>rw [Hg.out];omega
        case rel=>exact ⟨j+1,j,rfl,by omega,by go_num,rfl,by omega,hjn,HFK,hu.then_non uD⟩
       ·have ty:(y==iv)=false:=by simpa using hy
        have HFK:Hid (lastG ms iv 0 (-1)=lastG (ms.drop (j+1)) iv (j+1) a):=by show _=_;rw [HFJ.out,if_neg hy]
        clear hy;refine wpT 0 ?_;(try simp only [y_,z_]);refine wpT 1 ?_;(try simp only [y_,z_]);refine wpT 2 ?_;(try simp only [y_,z_]);refine wpT 3 ?_;(try simp only [y_,z_]);refine wpT 4 ?_;(try simp only [y_,z_]);refine wpT 5 ?_;(try simp only [y_,z_]);refine wpT 6 ?_;(try simp only [y_,z_]);refine aD_ (by kernel_rfl) ?_ _;have hltj:=HFL.out;go_wp2_with fail
        go_roundg (nm_ - (j+1))
        case measure=>rw [Hg.out];omega
        case rel=>exact ⟨j+1,a,rfl,by omega,by go_num,rfl,HA1.out,ha2,HFK,hu.then_non uD⟩
      ·obtain rfl:nm_=j:=by omega
       have HE:Hid (lastG ms iv 0 (-1)=a):=by show _=_;rw [HFD.out,List.drop_of_length_le (by rw [Hnm.out];exact Nat.le_refl _)];rfl
       have t1:decide (nm_<nm_)=false:=by simp
       rw [HE.out] at HNI2;have hbm:=HNS.out.upd hu (fun _ _ f=>f) (fun _ _ f=>f);have hsu:=hu.size;by_cases h0:a<0
       ·have t2:decide (a<0)=true:=dT_ h0;have hni:=HNI2.out;rw [if_pos h0,Hnm.out] at hni;have HI1:Hid (iv1=(nm_:Int)+1):=congrArg Prod.fst hni;have HI2:Hid (msI=ms++[iv]):=congrArg Prod.snd hni;have hoR:=hbm.2.1;rw [Hnm.out] at hoR;have HBM:=h_ hbm;clear hni h0 hbm
        go_wp2_with (at_builtin;refine wpList_app rfl rfl T_ints' rfl (hoR.alloc _) rfl (Sl.new _ _ _) rfl (by simp [Value.oneCell']) (by simp only [maxLen];omega) (by omega) ?_;intro B3 d3' w3 ho3 hu3 hat3;have hb3:=(hbr.alloc (.cells #[.int .i64 iv] 3)).upd hu3 (fun h=>by have:=HBL.out _ h;omega);have d03:=hb3.cell 3;have g03:=hb3.frozen 3)
        go_meet
        case rel =>
         have v1:Upd (·=w.heap.size) w3 (w3.setCell ⟨w.heap.size,3,none⟩ (.int .i64 ((nm_:Int)+1))):=updCell _ _ _ _
         have hx1:Blk (w3.setCell ⟨w.heap.size,3,none⟩ (.int .i64 ((nm_:Int)+1))) w.heap.size 38 #[.int .i64 v,.int .i64 op,.int .i64 imm,.int .i64 iv1,.slice KA k kc]:=by
          rw [HI1.out];simpa using hb3.set_ 3 (.int .i64 ((nm_:Int)+1))
         have hat4:∀i,At B3 i→At B i∨i=wr.heap.size+1:=fun i h=>by simpa using hat3 i h
         have hal:Upd Non wr (wr.alloc (.cells #[.int .i64 iv] 3)):=Upd.refl.alloc _;have hdis:=HNS.out.2.2;refine ⟨B3,d3',by rw [HI2.out,List.length_append,Hnm.out];rfl,⟨((HBM.out.1.alloc _).upd hu3 hdis).upd v1 (fun i h e=>by have:=HAL.out i h;omega),?_,fun i h hB=>?_⟩,fun i h=>?_,hx1,((hu.then_non hal).mono (fun _ _ f=>f.elim)).trans (hu3.mono (fun _ _ h=>.inl h)) (fun _ _ h=>h) |>.trans v1 (fun _ _ h=>.inr h)⟩
         ·have h1:=ho3.upd v1 (fun i h e=>by rcases hat4 i h with h | h;have:=HBL.out i h;omega;omega);rw [←icells_snoc] at h1;rw [HI2.out];simpa [Hnm.out] using h1
         ·rcases hat4 i hB with h3 | h3
          ·exact hdis i h h3
          ·have:=HAL.out i h;omega
         ·rcases hat4 i h with h3 | h3
          ·exact .inl h3
          ·exact .inr (by omega)
       ·have t2:decide (a<0)=false:=dF_ h0;have hni:=HNI2.out;rw [if_neg h0] at hni;have HI1:Hid (iv1=a+1):=congrArg Prod.fst hni;have HI2:Hid (msI=ms):=congrArg Prod.snd hni;have HBM:=h_ hbm;have hsm0:nm_≤1000000:=by omega
        clear hni h0 hbm;go_wp2_with fail
        go_meet
        case rel =>
         have v1:Upd (·=w.heap.size) wr (wr.setCell ⟨w.heap.size,3,none⟩ (.int .i64 (a+1))):=updCell _ _ _ _
         have hx1:Blk (wr.setCell ⟨w.heap.size,3,none⟩ (.int .i64 (a+1))) w.heap.size 38 #[.int .i64 v,.int .i64 op,.int .i64 imm,.int .i64 iv1,.slice KA k kc]:=by
          rw [HI1.out];simpa using hbr.set_ 3 (.int .i64 (a+1))
         refine ⟨B,d,by rw [HI2.out,Hnm.out],?_,fun i h=>.inl h,hx1,(hu.mono (fun _ _ f=>f.elim)).trans v1 (fun _ _ h=>.inr h)⟩;rw [HI2.out];exact HBM.out.upd v1 (fun i h e=>by have:=HAL.out i h;omega) (fun i h e=>by have:=HBL.out i h;omega)
    ·have tiv:tb=false:=by rw [←Htb.out];exact dF_ hiv
     subst tiv;have hni:=HNI.out;rw [if_neg hiv] at hni;have h1:iv1=iv:=congrArg Prod.fst hni;have h2:msI=ms:=congrArg Prod.snd hni;subst h1 h2;clear hiv hni;go_wp2_with fail
     go_meet
     case rel=>exact ⟨B,d,by rw [Hnm.out],HNS,fun i h=>.inl h,hb,Upd.refl⟩
   case rest =>
   obtain ⟨B0,d0,rfl,hns0,hat0,hb0,hu0⟩:=hcut;obtain ⟨w1,rfl⟩:∃w1:World,w1=wc:=⟨_,rfl⟩;have hbR0:=hb2.upd hu0 (fun h=>by rcases h with h | h;have:=HBL.out _ h;omega;omega)
   have hpK0:=PtK.upd hu0 (fun i hi h e=>by
    have h1:=HF0.out i h.1;have h2:=h.2;rcases e with e | e
    ·exact h1.2 e
    ·omega) p KA kc hpW
   have c4:=hb0.cell 4;have hs1:=hu0.size;clear hb hb2 hpW c0 c3 e0 e2;obtain ⟨w2,Hw2⟩:=nm (w1.alloc (.cells #[] 38));have uw2:Upd Non w1 w2:=by rw [←Hw2.out];exact Upd.refl.alloc _
   have hsw2:w2.heap.size=w1.heap.size+1:=by rw [←Hw2.out];simp
   have hK0:Own w2 38 5 (some ⟨w1.heap.size,0,none⟩) 0 0 []:=Own.mk_ (cur:=#[]) (by rw [←Hw2.out];exact Blk.new _ _ _) (by omega) (by simp [maxLen]) rfl rfl
   obtain ⟨F0,HF0e⟩:∃F0:Nat→Prop,Hid (F0=fun i=>F i∧i<w.heap.size):=⟨_,rfl⟩;have HL:=h_ (fun (ks:List Pt)=>numL_lens ks vs msI);have hml:msI.length≤ms.length+1:=by rw [Hnm.out];exact hIl
   go_wp2_with fail
   rw [Hw2.out]
   go_loopg [1,2,12,13,14] k (fun g s1 s2 s12 i _ wr=>∃(j:Nat) (A1:Option Addr) (c1:Nat) (B1:Option Addr) (d1:Nat) (KS:Option Addr) (ks:Nat) (L:List Pt) (vs1 ms1:List Int),
    Hid (g=k - j)∧j≤k∧s1=.slice A1 vs1.length c1∧s2=.slice B1 ms1.length d1∧s12=.slice KS j ks∧i=.int .i64 j ∧
    Hid ((L,vs1,ms1)=numL (p.kids.take j) vs msI)∧Hid (NS wr A1 c1 vs1 B1 d1 ms1) ∧
    Hid (PtO wr (fun i=>(F0 i∨w.heap.size+2≤i)∧¬At A1 i∧¬At B1 i) KS j ks L) ∧
    Hid (∀i,At A1 i→At A i∨w1.heap.size≤i)∧Hid (∀i,At B1 i→At B0 i∨w1.heap.size≤i)∧Hid (∀i,At KS i→w1.heap.size≤i∧¬At A1 i∧¬At B1 i) ∧
    Upd (fun i=>At A i∨At B0 i) w1 wr)
   case atStart =>
    refine ⟨0,A,c,B0,d0,_,0,[],vs,msI,rfl,by omega,by rw [Hnv.out],rfl,rfl,rfl,rfl,hns0.upd uw2 (fun _ _ f=>f) (fun _ _ f=>f),⟨rfl,_,hK0,PtCells.nil⟩,fun i h=>.inl h,fun i h=>.inl h,fun i h=>?_,uw2.mono (fun _ _ f=>f.elim)⟩
    rw [At.some_] at h;subst h;refine ⟨by omega,fun hA=>?_,fun hB=>?_⟩
    ·have:=HAL.out _ hA;omega
    ·have:=hns0.2.1.lt hB;omega
   case round =>
    obtain ⟨j,A1,c1,B1,d1,KS,ks,L,vs1,ms1,Hg,hj,rfl,rfl,rfl,rfl,HN,HNS1,HPO,HA1,HB1,HKS,hu⟩:=hrel;by_cases hlt:j<k
    ·have hjk:j<p.kids.length:=by rw [Hk.out];exact hlt
     have t1:decide (j<k)=true:=dT_ hlt
     have hbr:=hb0.upd hu (fun h=>by
      rcases h with h | h
      ·have:=HAL.out _ h;omega
      ·rcases hat0.out _ h with h | h
       ·have:=HBL.out _ h;omega
       ·omega)
     have c4r:=hbr.cell 4;have hsu:=hu.size
     go_upto_region 27 with fail
     obtain ⟨w5,Hw5⟩:=nm (wr.alloc (.cells #[.int .i64 0,.int .i64 0,.int .i64 0,.int .i64 0,.slice none 0 0] 38));have u5:Upd Non wr w5:=by rw [←Hw5.out];exact Upd.refl.alloc _
     have hs5:w5.heap.size=wr.heap.size+1:=by rw [←Hw5.out];simp
     have hB5:Blk w5 wr.heap.size 38 #[.int .i64 0,.int .i64 0,.int .i64 0,.int .i64 0,.slice none 0 0]:=by rw [←Hw5.out];exact Blk.new _ _ _
     have hpk:=PtK.upd hu (fun i hi h e=>by
      have h1:=HF0.out i h.1;have h2:=h.2;rcases e with e | e
      ·exact h1.1 e
      ·rcases hat0.out _ e with e | e
       ·exact h1.2 e
       ·omega) _ _ _ hpK0
     have hpk:=PtK.upd u5 (fun _ _ _ f=>f) _ _ _ hpk;obtain ⟨bk,ok,hKA,hFk,hbw,KQ,kq,h0,h1,h2,h3,h4,hqk⟩:=hpk.at_ hjk;have HTK:Hid (p.kids.take (j+1)=p.kids.take j++[p.kids[j]]):=take_snoc_ hjk
     have hqs:p.kids[j].size≤Pt.sizeL (p.kids.take (j+1))∧Pt.sizeL (p.kids.take j)+p.kids[j].size≤Pt.sizeL p.kids:=by
      have e1:=Pt.sizeL_take p.kids j hjk;have e2:=Pt.sizeL_take_le p.kids (j+1);omega
     have CI:=HI.out p.kids[j] (List.getElem_mem hjk) w5 F0 KQ kq A1 c1 B1 d1 vs1 ms1;generalize p.kids[j]=q at *;have hll:=HL.out (p.kids.take j);rw [←HN.out] at hll;have hse:=HS.out;have hnv:=Hnv.out;have hnm:=Hnm.out;have hF0:=HF0e.out
     have hF01:∀i,F0 i→¬At A1 i∧¬At B1 i:=by
      intro i hi;rw [hF0] at hi;refine ⟨fun h=>?_,fun h=>?_⟩
      ·rcases HA1.out i h with h | h
       ·exact (HF0.out i hi.1).1 h
       ·have:=hi.2;omega
      ·rcases HB1.out i h with h | h
       ·rcases hat0.out _ h with h | h
        ·exact (HF0.out i hi.1).2 h
        ·have:=hi.2;omega
       ·have:=hi.2;omega
     have hns5:=HNS1.out.upd u5 (fun _ _ f=>f) (fun _ _ f=>f);have C1:=h_ (CI (by rw [hF0];exact hqk) hF01 hns5 (by have:=hll.1;simp only at this;omega) (by have:=hll.2.1;simp only at this;omega))
     have HNE:Hid (numL (p.kids.take (j+1)) vs msI=(L++[(numF q vs1 ms1).1],(numF q vs1 ms1).2)):=by
      show _=_;rw [HTK.out,numL_snoc,←HN.out]
     obtain ⟨Rq,HRq⟩:=nm (numF q vs1 ms1);rw [HRq.out] at C1 HNE;have HQ:=h_ hqk;have c4r:=hbr.upd u5 (fun f=>f) |>.cell 4;rw [Hw5.out];clear CI hF0 hns5 hqk hpk hll hse hqs hF01 hnv hnm;subst hKA;go_wp2_with fail
     refine C1.out.mono ?_;rintro e w7 ⟨KA',kc',A2,c2,B2,d2,rfl,hq7,hn7,ha7,hb7,u7⟩;have HQ7:=h_ hq7;have HN7:=h_ hn7;have HA7:=h_ ha7;have HB7:=h_ hb7;obtain ⟨q',Hq'⟩:=nm Rq.1;obtain ⟨vs2,Hvs2⟩:=nm Rq.2.1;obtain ⟨ms2,Hms2⟩:=nm Rq.2.2;rw [Hq'.out] at HQ7;rw [Hvs2.out,Hms2.out] at HN7;rw [Hq'.out,Hvs2.out,Hms2.out]
     have hA5:∀i,At A1 i∨At B1 i→i<wr.heap.size:=fun i h=>by
      rcases h with h | h
      ·exact HNS1.out.1.lt h
      ·exact HNS1.out.2.1.lt h
     have hB7:=hB5.upd u7 (fun h=>by have:=hA5 _ h;omega);have r0:=hB7.cell 0;have r1:=hB7.cell 1;have r2:=hB7.cell 2;have r3:=hB7.cell 3;have r4:=hB7.cell 4;have rf:=hB7.frozen;have HB7b:=h_ hB7;clear hq7 hn7 ha7 hb7 hB7 h0 h1 h2 h3 h4 c4r hbr;unfold pv
     go_upto_region 28 with fail
     rw [set5_eq];obtain ⟨w8,Hw8⟩:=nm (set5 w7 wr.heap.size (.int .i64 q'.v) (.int .i64 q'.op) (.int .i64 q'.imm) (.int .i64 q'.iv) (.slice KA' q'.kids.length kc'));have u8:Upd (·=wr.heap.size) w7 w8:=by rw [←Hw8.out];exact set5_upd _ _ _ _ _ _ _
     have b8:Blk w8 wr.heap.size 38 #[.int .i64 q'.v,.int .i64 q'.op,.int .i64 q'.imm,.int .i64 q'.iv,.slice KA' q'.kids.length kc']:=by rw [←Hw8.out];exact set5_blk HB7b.out _ _ _ _ _
     rw [Hw8.out];have s0:=b8.cell 0;have s1:=b8.cell 1;have s2:=b8.cell 2;have s3:=b8.cell 3;have s4:=b8.cell 4;have hs7:=u7.size;have hs8:=u8.size;have hKS:=HKS.out;have hKlt:∀i,At KS i→i<wr.heap.size:=fun i h=>HPO.out.lt h
     have hA2w:∀i,At A2 i→At A1 i∨w5.heap.size≤i:=HA7.out;have hB2w:∀i,At B2 i→At B1 i∨w5.heap.size≤i:=HB7.out
     have hn7l:∀i,At A2 i∨At B2 i→i<w7.heap.size:=fun i h=>by
      rcases h with h | h
      ·exact HN7.out.1.lt h
      ·exact HN7.out.2.1.lt h
     have hp0:=HPO.out.mono (G':=fun i=>(F0 i∨w.heap.size+2≤i)∧¬At A2 i∧¬At B2 i∧¬At A1 i∧¬At B1 i∧i<wr.heap.size) (fun i hi h =>
      ⟨h.1,fun f=>by rcases hA2w i f with f | f;exact h.2.1 f;omega,fun f=>by rcases hB2w i f with f | f;exact h.2.2 f;omega,h.2.1,h.2.2,hi⟩)
     have hp8:=(((hp0.upd u5 (fun _ _ f=>f) (fun _ _ _ f=>f)).upd u7 (fun i h e=>by rcases e with e | e;exact (hKS i h).2.1 e;exact (hKS i h).2.2 e) (fun i _ h e=>by
      rcases e with e | e
      ·exact h.2.2.2.1 e
      ·exact h.2.2.2.2.1 e)).upd u8 (fun i h e=>by have:=hKlt i h;omega) (fun i _ h e=>by have:=h.2.2.2.2.2;omega)).mono (G':=fun i=>(F0 i∨w.heap.size+2≤i)∧¬At A2 i∧¬At B2 i) (fun i _ h=>⟨h.1,h.2.1,h.2.2.1⟩)
     have hF0w:∀i,F0 i→i<w.heap.size:=fun i h=>by rw [HF0e.out] at h;exact h.2
     have hq8:PtK w8 (fun i=>((F0 i∨w.heap.size+2≤i)∧¬At A2 i∧¬At B2 i)∧¬At KS i) q' KA' kc' :=
      PtK.mono (fun i _ h=>⟨⟨by rcases h.1 with h | h;exact .inl h;exact .inr (by omega),h.2.1,h.2.2⟩,fun f=>by
       have h3:=(hKS i f).1;have h4:=hKlt i f;rcases h.1 with h | h
       ·have:=hF0w i h;omega
       ·omega⟩) _ _ _ (PtK.upd u8 (fun i hi h e=>by
        rcases h.1 with h | h
        ·have:=hF0w i h;omega
        ·omega) _ _ _ HQ7.out)
     have hn8:=HN7.out.upd u8 (fun i h e=>by rcases hA2w i h with h | h;have:=hA5 i (.inl h);omega;omega) (fun i h e=>by rcases hB2w i h with h | h;have:=hA5 i (.inr h);omega;omega)
     obtain ⟨hnL,cs,ho8,hc8⟩:=id hp8;have HP8:=h_ hp8;have HC8:=h_ hc8;have HQ8:=h_ hq8;have HN8:=h_ hn8;have HA2w:=h_ hA2w;have HB2w:=h_ hB2w;have HKSb:=h_ hKS;have HKlt:=h_ hKlt;have HF0w:=h_ hF0w;have HA5:=h_ hA5;have Hn7l:=h_ hn7l;clear hp0 hp8 hc8 hq8 hn8 hA2w hB2w hKS hKlt hF0w hA5 hn7l b8 hnL r0 r1 r2 r3 r4 rf
     go_wp2_with (at_builtin;refine wpList_app rfl rfl T_pats rfl (ho8.alloc _) rfl (Sl.new _ _ _) rfl (by simp [Value.oneCell']) (by simp only [maxLen];omega) (by omega) ?_;intro A9 c9 w9 ho9 hu9 hat9)
     have hal:Upd Non w8 (w8.alloc (.cells #[.int .i64 q'.v,.int .i64 q'.op,.int .i64 q'.imm,.int .i64 q'.iv,.slice KA' q'.kids.length kc'] 38)):=Upd.refl.alloc _
     have hat9b:∀i,At A9 i→At KS i∨i=w8.heap.size+1:=fun i h=>by simpa using hat9 i h
     have hpa:=HP8.out.upd hal (fun _ _ f=>f) (fun _ _ _ f=>f);have hp9:=PtO.snoc (G':=fun i=>(F0 i∨w.heap.size+2≤i)∧¬At A2 i∧¬At B2 i) hpa (HC8.out.mono hal (fun _ _ _ f=>f) (fun _ _ h=>h)) (PtK.upd hal (fun _ _ _ f=>f) _ _ _ HQ8.out) ho9 hu9 hat9 (fun _ _ h=>h)
     have hn9:=(HN8.out.upd hal (fun _ _ f=>f) (fun _ _ f=>f)).upd hu9 (fun i h e=>by
      rcases HA2w.out i h with h | h
      ·exact (HKSb.out i e).2.1 h
      ·have:=HKlt.out i e;omega) (fun i h e=>by
      rcases HB2w.out i h with h | h
      ·exact (HKSb.out i e).2.2 h
      ·have:=HKlt.out i e;omega)
     have HU9:Upd (fun i=>At A i∨At B0 i) w1 w9:=by
      refine Upd.trans (Upd.then_non (Upd.trans (Upd.trans (hu.then_non u5) u7 ?_) u8 ?_) hal) hu9 ?_
      ·intro i hi h;rcases h with h | h
       ·rcases HA1.out i h with h | h
        ·exact .inl h
        ·omega
       ·rcases HB1.out i h with h | h
        ·exact .inr h
        ·omega
      ·intro i hi h;omega
      ·intro i hi h;have:=(HKSb.out i h).1;omega
     have HN1:Hid ((L++[q'],vs2,ms2)=numL (p.kids.take (j+1)) vs msI):=by
      show _=_;rw [HNE.out,←Hq'.out,←Hvs2.out,←Hms2.out]
     have HN9:=h_ hn9;have HP9:=h_ hp9
     have HA9:Hid (∀i,At A2 i→At A i∨w1.heap.size≤i):=fun i h=>by
      rcases HA2w.out i h with h | h
      ·exact HA1.out i h
      ·exact .inr (by omega)
     have HB9:Hid (∀i,At B2 i→At B0 i∨w1.heap.size≤i):=fun i h=>by
      rcases HB2w.out i h with h | h
      ·exact HB1.out i h
      ·exact .inr (by omega)
     have HK9:Hid (∀i,At A9 i→w1.heap.size≤i∧¬At A2 i∧¬At B2 i):=fun i h=>by
      rcases hat9b i h with h | h
      ·have h1:=HKSb.out i h;have h2:=HKlt.out i h;refine ⟨h1.1,fun f=>?_,fun f=>?_⟩
       ·rcases HA2w.out i f with f | f
        ·exact h1.2.1 f
        ·omega
       ·rcases HB2w.out i f with f | f
        ·exact h1.2.2 f
        ·omega
      ·refine ⟨by omega,fun f=>?_,fun f=>?_⟩
       ·have:=Hn7l.out i (.inl f);omega
       ·have:=Hn7l.out i (.inr f);omega
     clear hn9 hp9 hpa ho9 hu9 hat9 hat9b ho8
     go_roundg (k - (j+1))
     case measure=>rw [Hg.out];omega
     case rel=>exact ⟨j+1,A2,c2,B2,d2,A9,c9,_,vs2,ms2,rfl,by omega,rfl,rfl,rfl,by go_num,HN1,HN9,HP9,HA9,HB9,HK9,HU9⟩
    ·obtain rfl:k=j:=by omega
     have HTK:Hid (p.kids.take k=p.kids):=List.take_of_length_le (by rw [Hk.out];exact Nat.le_refl _);rw [HTK.out] at HN;have t1:decide (k<k)=false:=by simp
     have hbox:∀i,At A i∨At B0 i→i≠w.heap.size∧i≠w.heap.size+1:=fun i h=>by
      rcases h with h | h
      ·have:=HAL.out _ h;omega
      ·rcases hat0.out _ h with h | h
       ·have:=HBL.out _ h;omega
       ·omega
     have hbr:=hb0.upd hu (fun h=>(hbox _ h).1 rfl);have hbR:=hbR0.upd hu (fun h=>(hbox _ h).2 rfl);have c4r:=hbr.cell 4;have f4r:=hbr.frozen 4;obtain ⟨X1,HX1⟩:=nm (wr.setCell ⟨w.heap.size,4,none⟩ (.slice KS k ks));have x1:=HX1.out;have hx1:Blk X1 w.heap.size 38 #[.int .i64 v,.int .i64 op,.int .i64 imm,.int .i64 iv1,.slice KS k ks]:=by rw [←x1];simpa using hbr.set_ 4 (.slice KS k ks)
     have v1:Upd (·=w.heap.size) wr X1:=by rw [←x1];exact updCell _ _ _ _
     have hxR:=hbR.upd v1 (by omega);have k0:=hx1.cell 0;have k1:=hx1.cell 1;have k2:=hx1.cell 2;have k3:=hx1.cell 3;have k4:=hx1.cell 4;have r0:=hxR.cell 0;have r1:=hxR.cell 1;have r2:=hxR.cell 2;have r3:=hxR.cell 3;have r4:=hxR.cell 4;have rf:=hxR.frozen;have HXR:=h_ hxR;have Hbox:=h_ hbox;clear hbox hxR hbr hbR hx1;go_wp2_with fail
     rw [set5_eq];refine bodyPost_ret (results_cell_row_tmps rfl _ _ (w.heap.size+1) 38 _ (0,0) _ rfl (set5_blk HXR.out _ _ _ _ _) Tryz.underlying38 rfl (by kernel_rfl)) rfl ?_
     have uS:=set5_upd X1 (w.heap.size+1) (.int .i64 v) (.int .i64 op) (.int .i64 imm) (.int .i64 iv1) (.slice KS k ks);obtain ⟨X2,HX2⟩:=nm (set5 X1 (w.heap.size+1) (.int .i64 v) (.int .i64 op) (.int .i64 imm) (.int .i64 iv1) (.slice KS k ks));rw [HX2.out] at uS ⊢;have UX:Upd (fun i=>i=w.heap.size∨i=w.heap.size+1) wr X2:=(v1.mono (fun _ _ h=>.inl h)).trans uS (fun _ _ h=>.inr h);have hlen:=numL_len p.kids vs msI;rw [←HN.out,Hk.out] at hlen;simp only at hlen;have hRe:R=(.mk v op imm iv1 L,vs1,ms1):=by rw [HR2.out,←HN.out]
     have hF0w:∀i,F0 i→i<w.heap.size:=fun i h=>by rw [HF0e.out] at h;exact h.2
     have hF0F:∀i,F0 i→F i:=fun i h=>by rw [HF0e.out] at h;exact h.1
     have hA1:∀i,At A1 i→i≠w.heap.size∧i≠w.heap.size+1:=fun i h=>by
      rcases HA1.out i h with h | h
      ·have:=HAL.out _ h;omega
      ·omega
     have hB1:∀i,At B1 i→(At B i∨w.heap.size+2≤i):=fun i h=>by
      rcases HB1.out i h with h | h
      ·exact hat0.out _ h
      ·exact .inr (by omega)
     have hB1n:∀i,At B1 i→i≠w.heap.size∧i≠w.heap.size+1:=fun i h=>by
      rcases hB1 i h with h | h
      ·have:=HBL.out _ h;omega
      ·omega
     have hpr:=HPO.out.mono (G':=fun i=>(F0 i∨w.heap.size+2≤i)∧¬At A1 i∧¬At B1 i) (fun _ _ h=>h)
     have hp2:=hpr.upd UX (fun i h e=>by have:=(HKS.out i h).1;omega) (fun i _ h e=>by
      rcases h.1 with h | h
      ·have:=hF0w i h;omega
      ·omega)
     rw [hRe];refine ⟨KS,ks,A1,c1,B1,d1,?_,?_,HNS1.out.upd UX (fun i h e=>by have:=hA1 i h;omega) (fun i h e=>by have:=hB1n i h;omega),fun i h=>?_,fun i h=>?_,?_⟩
     ·show _=Ending.returned (.tuple #[.agg #[_,_,_,_,.slice KS L.length ks],.slice _ vs1.length _,.slice _ ms1.length _]);rw [hlen];rfl
     ·exact hp2.view (fun i h=>⟨.inr (by have:=(HKS.out i h).1;omega),(HKS.out i h).2⟩) (fun i _ h=>⟨by
       rcases h.1 with h | h
       ·exact .inl (hF0F i h)
       ·exact .inr (by omega),h.2⟩) _ _ _ _
     ·rcases HA1.out i h with h | h
      ·exact .inl h
      ·exact .inr (by omega)
     ·rcases hB1 i h with h | h
      ·exact .inl h
      ·exact .inr (by omega)
     ·have h1:Upd (fun i=>At A i∨At B i) w w1:=(hU0.mono (fun _ _ f=>f.elim)).trans hu0 (fun i h e=>by
       rcases e with e | e
       ·exact .inr e
       ·omega)
      have h2:=h1.trans hu (fun i h e=>by
       rcases e with e | e
       ·exact .inl e
       ·rcases hat0.out i e with e | e
        ·exact .inr e
        ·omega)
      exact h2.trans UX (fun i h e=>by omega)
theorem NS.none_ (w:World):NS w none 0 [] none 0 []:=⟨Own.none_,Own.none_,fun _ h=>(At.none_ h).elim⟩
theorem Numbered_c (p:Pt) (w:World) (F:Nat→Prop) (KA:Option Addr) (kc:Nat) (hp:PtK w F p KA kc) (hs:p.size≤1000000) :
  Calls Tryz.prog 57 #[pv p KA kc] w fun e w'=>∃(KA':Option Addr) (kc':Nat),e=.returned (.tuple #[pv (numF p [] []).1 KA' kc',.int .i64 (numF p [] []).2.1.length,.int .i64 (numF p [] []).2.2.length]) ∧
   PtK w' (fun k=>F k∨w.heap.size≤k) (numF p [] []).1 KA' kc'∧Upd Non w w':=by
 have hp1:=PtK.mono (G:=fun k=>F k∧k<w.heap.size) (fun k hk h=>⟨h,hk⟩) p KA kc hp;obtain ⟨W,HW⟩:=nm (w.alloc (.cells #[.int .i64 p.v,.int .i64 p.op,.int .i64 p.imm,.int .i64 p.iv,.slice KA p.kids.length kc] 38));have hU:Upd Non w W:=by rw [←HW.out];exact Upd.refl.alloc _
 have hb:Blk W w.heap.size 38 #[.int .i64 p.v,.int .i64 p.op,.int .i64 p.imm,.int .i64 p.iv,.slice KA p.kids.length kc]:=by rw [←HW.out];exact Blk.new _ _ _
 have hsW:W.heap.size=w.heap.size+1:=by rw [←HW.out];simp
 obtain ⟨W2,HW2⟩:=nm (W.alloc (.cells #[.int .i64 0,.int .i64 0,.int .i64 0,.int .i64 0,.slice none 0 0] 38));have hU2:Upd Non W W2:=by rw [←HW2.out];exact Upd.refl.alloc _
 have hb2:Blk W2 (w.heap.size+1) 38 #[.int .i64 0,.int .i64 0,.int .i64 0,.int .i64 0,.slice none 0 0]:=by rw [←HW2.out,←hsW];exact Blk.new _ _ _
 have hsW2:W2.heap.size=w.heap.size+2:=by rw [←HW2.out];simp [hsW]
 have hb:=hb.upd hU2 (fun f=>f);have hU0:=hU.then_non hU2;have e0:=HW.out;have e2:=HW2.out;have hpW:=PtK.upd hU0 (fun _ _ _ f=>f) p KA kc hp1;have hls:=numF_len p [] [];have C:=h_ (numbered_c p W2 _ KA kc none 0 none 0 [] [] hpW (fun _ _=>⟨At.none_,At.none_⟩) (NS.none_ _) (by simpa using hs) (by simpa using hs));simp only [List.length_nil,Nat.zero_add] at hls;have c0:=hb.cell 0;have c1:=hb.cell 1;have c2:=hb.cell 2;have c3:=hb.cell 3;have c4:=hb.cell 4;have f0:=hb.frozen;unfold pv at C ⊢;go_enter Tryz.func57,Tryz.ntmps57;go_wp2_with fail
 refine C.out.mono ?_;rintro e w3 ⟨KA',kc',A',c',B',d',rfl,hp3,hn3,-,-,hu3⟩;obtain ⟨R,HR⟩:=nm (numF p [] []);rw [HR.out] at hp3 hn3 hls ⊢;unfold pv;obtain ⟨q,Hq⟩:=nm R.1;obtain ⟨a,Ha⟩:=nm R.2.1.length;obtain ⟨b,Hb⟩:=nm R.2.2.length;rw [Hq.out] at hp3 ⊢;rw [Ha.out,Hb.out];have ha:a≤1000000:=by rw [←Ha.out];omega
 have hbl:b≤1000000:=by rw [←Hb.out];omega
 have hu3s:=hu3.size;have hbx:=hb2.upd hu3 (fun h=>by rcases h with h | h <;> exact At.none_ h);clear hn3 hls c0 c1 c2 c3 c4 f0 hb2 C
 go_upto_region 2 with fail
 have hal:Upd Non w3 (w3.alloc (.cells #[.int .i64 q.v,.int .i64 q.op,.int .i64 q.imm,.int .i64 q.iv,.slice KA' q.kids.length kc'] 38)):=Upd.refl.alloc _;have b5:=Blk.new w3 38 #[.int .i64 q.v,.int .i64 q.op,.int .i64 q.imm,.int .i64 q.iv,.slice KA' q.kids.length kc'];obtain ⟨w5,Hw5⟩:=nm (w3.alloc (.cells #[.int .i64 q.v,.int .i64 q.op,.int .i64 q.imm,.int .i64 q.iv,.slice KA' q.kids.length kc'] 38));rw [Hw5.out] at hal b5 ⊢;have s4:=hal.size;have hbx:=hbx.upd hal (fun f=>f);have c0:=b5.cell 0;have c1:=b5.cell 1;have c2:=b5.cell 2;have c3:=b5.cell 3;have c4:=b5.cell 4;have r0:=hbx.cell 0;have r1:=hbx.cell 1;have r2:=hbx.cell 2;have r3:=hbx.cell 3;have r4:=hbx.cell 4;have rf:=hbx.frozen;have HB:=h_ hbx;have HP:=h_ hp3;clear hbx b5 hp3;go_wp2_with fail
 rw [set5_eq];refine bodyPost_ret (results_cell_row_tmps rfl _ _ (w.heap.size+1) 38 _ (0,0) _ rfl (set5_blk HB.out _ _ _ _ _) Tryz.underlying38 rfl (by kernel_rfl)) rfl ?_;have u6:=set5_upd w5 (w.heap.size+1) (.int .i64 q.v) (.int .i64 q.op) (.int .i64 q.imm) (.int .i64 q.iv) (.slice KA' q.kids.length kc');have s6:=u6.size;rw [HR.out,Hq.out,Ha.out,Hb.out];refine ⟨KA',kc',rfl,?_,?_⟩
 ·exact PtK.mono (fun k _ h=>by rcases h with h | h;exact .inl h.1;exact .inr (by omega)) _ _ _ (PtK.upd u6 (fun k hk h e=>by omega) _ _ _ (PtK.upd hal (fun _ _ _ f=>f) _ _ _ (PtK.mono (G:=fun k=>(F k∧k<w.heap.size)∨w.heap.size+2≤k) (fun k hk h=>by rcases h.1 with h | h;exact .inl h;exact .inr (by omega)) _ _ _ HP.out)))
 ·have h1:=(hU0.then_non (hu3.mono (fun _ _ h=>by rcases h with h | h <;> exact (At.none_ h).elim))).then_non hal;exact h1.trans u6 (fun k hk h=>by omega)
set_option maxRecDepth 100000 in
set_option maxHeartbeats 16000000 in
theorem aSafe_c {w:World} {F G:Nat→Prop} {m:Nat} {r:Rl} {a:RlA} {L R:Nat} {GA:Option Addr} {gc:Nat} {gs:List Nat} (hA:AU w F m r a L R GA gc gs)
  (hgn:gs.length≤1000000) (hgl:gs.length=(gposR r).length) (hgp:∀i (h1:i<gs.length) (h2:i<(gposR r).length),OpX w gs[i] (gposR r)[i].1 (gposR r)[i].2 2) (hn:stN r≤100000)
  {BA:Option Addr} {bc:Nat} {b:List Bool} (hB:Sl w G BA (b8s b)) (hbl:b.length=stN r) (hpl:∀q∈gposR r,q.2+1<b.length) :
  Calls Tryz.prog 71 #[pp m,.slice BA b.length bc] w fun e w'=>e=.returned (.bool (safeF r b))∧Upd Non w w':=by
 have hst:stN r=bN r.l+bN r.r+r.conds.length+1:=rfl;have hsp:=safe_pos (r:=r) (b:=b)
 have HC:∀i,i<b.length→∃bb bo,BA=some ⟨bb,bo,none⟩∧w.cell? ⟨bb,bo+i,none⟩=some (.int .u8 (bW (b.getD i false))):=fun i hi=>by
  obtain ⟨bb,bo,e,_,_,hc⟩:=hB.at_ (k:=i) (by rw [b8s_len];exact hi);refine ⟨bb,bo,e,?_⟩;rw [hc];have:=b8s_get hi;rw [List.getElem?_eq_getElem (by rw [b8s_len];exact hi)] at this;exact this
 obtain ⟨bb,bo,rfl,_⟩:=HC 0 (by omega)
 have HC2:Hid (∀i,i<b.length→w.cell? ⟨bb,bo+i,none⟩=some (.int .u8 (bW (b.getD i false)))):=fun i hi=>by
  obtain ⟨b',o',e,hc⟩:=HC i hi;injection e with e
  injection e with e1 e2
  subst e1 e2;exact hc
 obtain ⟨n,Hn⟩:=nm (stN r);rw [Hn.out] at hst hn hbl;obtain ⟨cn,hcn⟩:∃c,bN r.l+bN r.r=c:=⟨_,rfl⟩;rw [hcn] at hst hsp;obtain ⟨nc,Hnc⟩:=nm r.conds.length;rw [Hnc.out] at hst hsp;have hsz:=HC2.out (n - 1) (by omega);have hn1:n - 1=cn+nc:=by omega
 rw [hn1] at hsz;obtain ⟨mis,Hmis⟩:=nm (b.getD (cn+nc) false);rw [Hmis.out] at hsz hsp;have HSP:=h_ hsp;have x18:=hA.blk.cell 18;have HX17:=h_ (hA.blk.cell 17);have HX16:=h_ (hA.blk.cell 16);have HX11:=h_ (hA.blk.cell 11);rw [Hn.out] at x18;have q1:IntKind.i64.wrap ((n:Int) - 1)=(n:Int) - 1:=i64w_of (by unfold I64;omega);have q2:(0:Int)≤(n:Int) - 1:=by omega
 have q3:(n:Int) - 1<(n:Int):=by omega
 have q4:((n:Int) - 1).toNat=cn+nc:=by omega
 have q5:(1:Int)≤(n:Int):=by omega
 have b0:(bW false==0)=true:=rfl;have b1:(bW true==0)=false:=rfl;have HGS:=h_ hA.gds;have HGL:=h_ hgl;have HGP:=h_ hgp;have HPL:=h_ hpl;have HBL:=h_ hbl;rw [hbl];clear HC hB hA hgl hgp hpl hst hbl hsp;unfold pp
 cases mis with
 | false =>
  have HR:Hid (safeF r b=true):=by show _=_;rw [HSP.out,Bool.and_false];rfl
  go_enter Tryz.func71,Tryz.ntmps71;go_wp2_with fail
  go_ret;exact ⟨by rw [HR.out];rfl,Upd.refl⟩
 | true =>
  have HR:Hid (safeF r b=!((gposR r).all (gAt b)&&((b.drop cn).take nc).all id)):=by show _=_;rw [HSP.out,Bool.and_true]
  have x16:=HX16.out;obtain ⟨gn,Hgn⟩:=nm gs.length;rw [Hgn.out] at x16 hgn;go_enter Tryz.func71,Tryz.ntmps71;go_wp2_with fail
  go_loopg [6,22] gn (fun gg _ i wr=>∃j:Nat,Hid (gg=gn - j)∧j≤gn∧i=.int .i64 j∧Hid (((gposR r).take j).all (gAt b)=true)∧Hid (Upd Non w wr))
  case atStart=>exact ⟨0,rfl,by omega,rfl,rfl,Upd.refl⟩
  case round =>
   obtain ⟨j,Hg,hj,rfl,HT,HU⟩:=hrel;by_cases hlt:j<gn
   ·have hjl:j<gs.length:=by rw [Hgn.out];exact hlt
    have hjq:j<(gposR r).length:=by rw [←HGL.out];exact hjl
    obtain ⟨v,imm,iv,KK,CC,hxb⟩:=(HGP.out j hjl hjq).blk;have hq:=HPL.out _ (List.getElem_mem hjq);have htk:((gposR r).take (j+1)).all (gAt b)=gAt b (gposR r)[j]:=by rw [List.take_succ_eq_append_getElem hjq,List.all_append,HT.out];simp
    have hno:gAt b (gposR r)[j]=false→(gposR r).all (gAt b)=false:=fun e=>by
     rw [Bool.eq_false_iff];intro q;rw [List.all_eq_true] at q;rw [q _ (List.getElem_mem hjq)] at e;cases e
    obtain ⟨cb,co,eC,_,_,hcc⟩:=(HGS.out.upd HU.out (fun _ _ _ f=>f)).at_ (k:=j) (by rw [List.length_map];exact hjl);rw [List.getElem_map] at hcc;generalize (gposR r)[j]=q at *;generalize gs[j]=y at *;obtain ⟨op,at_⟩:=q;have hxr:=hxb.upd HU.out (fun f=>f);have y1:=hxr.cell 1;have y6:=hxr.cell 6;have ca:=u_ (HC2.out at_ (by show at_<_;have : at_+1<b.length:=hq;omega)) HU.out (fun f=>f);have cb1:=u_ (HC2.out (at_+1) hq) HU.out (fun f=>f)
    have hgA:gAt b (op,at_)=!((b.getD at_ false==b.getD (at_+1) false)==decide (op=16)):=by
     unfold gAt;by_cases h16:op=16
     ·rw [if_pos h16,dT_ h16];cases b.getD at_ false <;> cases b.getD (at_+1) false <;> rfl
     ·rw [if_neg h16,dF_ h16];cases b.getD at_ false <;> cases b.getD (at_+1) false <;> rfl
    obtain ⟨g0,Hg0⟩:=nm (b.getD at_ false);obtain ⟨g1,Hg1⟩:=nm (b.getD (at_+1) false);rw [Hg0.out] at ca hgA;rw [Hg1.out] at cb1 hgA;rw [hgA] at htk hno;have te:(bW g0==bW g1)=(g0==g1):=by cases g0 <;> cases g1 <;> rfl
    have tq:(op==16)=decide (op=16):=by rw [Bool.eq_iff_iff];simp
    rw [←te,←tq] at htk hno;obtain ⟨e1,he1⟩:∃e,(bW g0==bW g1)=e:=⟨_,rfl⟩;obtain ⟨o1,ho1⟩:∃e,(op==16)=e:=⟨_,rfl⟩;obtain ⟨d,hd⟩:∃e,(e1==o1)=e:=⟨_,rfl⟩;rw [he1,ho1,hd] at htk hno;have hatn:at_+1<n:=by rw [←HBL.out];exact hq
    have ai0:(0:Int)≤(at_:Int):=by omega
    have ai1:(at_:Int)<(n:Int):=by omega
    have r1:IntKind.i64.wrap ((at_:Int)+1)=(at_:Int)+1:=i64w_of (by unfold I64;omega);have r2:(0:Int)≤(at_:Int)+1:=by omega
    have r3:(at_:Int)+1<(n:Int):=by omega
    have r4:((at_:Int)+1).toNat=at_+1:=by omega
    have HTK:=h_ htk;have HNO:=h_ hno;unfold pp at hcc;have j0:(0:Int)≤(j:Int):=by omega
    have jn:(j:Int)<(gn:Int):=by omega
    subst eC;clear htk hno te tq hgA hxb hxr hq hjl hjq
    cases d with
    | true =>
     have HR2:Hid (safeF r b=true):=by show _=_;rw [HR.out,HNO.out rfl];rfl
     go_wp2_with fail
     refine wp_region_held_drew (S:=fun w'=>w'.cell? ⟨y,6,none⟩=some (.int .i64 (at_:Int))∧w'.cell? ⟨y,1,none⟩=some (.int .i64 op)∧w'.cell? ⟨bb,bo+at_,none⟩=some (.int .u8 (bW g0))∧w'.cell? ⟨bb,bo+(at_+1),none⟩=some (.int .u8 (bW g1))) (by kernel_rfl) ⟨y6,y1,ca,cb1⟩ (fun hHeld=>?_)
     refine wpT 0 ?_;(try simp only [y_,z_]);refine wpT 1 ?_;(try simp only [y_,z_]);refine wpT 2 ?_;(try simp only [y_,z_]);refine wpT 3 ?_;(try simp only [y_,z_]);refine wpT 4 ?_;(try simp only [y_,z_]);refine wpT 5 ?_;(try simp only [y_,z_]);refine wpT 6 ?_;(try simp only [y_,z_]);refine wpT 7 ?_;(try simp only [y_,z_]);refine wpT 8 ?_;(try simp only [y_,z_]);refine wpT 9 ?_;(try simp only [y_,z_]);refine wpT 10 ?_;(try simp only [y_,z_]);refine wpT 11 ?_;(try simp only [y_,z_]);refine wpT 12 ?_;(try simp only [y_,z_]);refine wpT 13 ?_;(try simp only [y_,z_]);refine wpT 14 ?_;(try simp only [y_,z_]);refine wpT 15 ?_;(try simp only [y_,z_]);refine wpT 16 ?_;(try simp only [y_,z_]);refine wpT 17 ?_;(try simp only [y_,z_]);refine wpT 18 ?_;(try simp only [y_,z_]);refine wpT 19 ?_;(try simp only [y_,z_]);refine wpT 20 ?_;(try simp only [y_,z_]);refine wpT 21 ?_;(try simp only [y_,z_]);refine wpT 22 ?_;(try simp only [y_,z_]);refine aD_ (by kernel_rfl) ?_ _;go_wp2_with fail
     go_ret;exact ⟨by rw [HR2.out];rfl,HU.out.drewN 1⟩
    | false =>
     go_wp2_with fail
     refine wp_region_held_drew (S:=fun w'=>w'.cell? ⟨y,6,none⟩=some (.int .i64 (at_:Int))∧w'.cell? ⟨y,1,none⟩=some (.int .i64 op)∧w'.cell? ⟨bb,bo+at_,none⟩=some (.int .u8 (bW g0))∧w'.cell? ⟨bb,bo+(at_+1),none⟩=some (.int .u8 (bW g1))) (by kernel_rfl) ⟨y6,y1,ca,cb1⟩ (fun hHeld=>?_)
     refine wpT 0 ?_;(try simp only [y_,z_]);refine wpT 1 ?_;(try simp only [y_,z_]);refine wpT 2 ?_;(try simp only [y_,z_]);refine wpT 3 ?_;(try simp only [y_,z_]);refine wpT 4 ?_;(try simp only [y_,z_]);refine wpT 5 ?_;(try simp only [y_,z_]);refine wpT 6 ?_;(try simp only [y_,z_]);refine wpT 7 ?_;(try simp only [y_,z_]);refine wpT 8 ?_;(try simp only [y_,z_]);refine wpT 9 ?_;(try simp only [y_,z_]);refine wpT 10 ?_;(try simp only [y_,z_]);refine wpT 11 ?_;(try simp only [y_,z_]);refine wpT 12 ?_;(try simp only [y_,z_]);refine wpT 13 ?_;(try simp only [y_,z_]);refine wpT 14 ?_;(try simp only [y_,z_]);refine wpT 15 ?_;(try simp only [y_,z_]);refine wpT 16 ?_;(try simp only [y_,z_]);refine wpT 17 ?_;(try simp only [y_,z_]);refine wpT 18 ?_;(try simp only [y_,z_]);refine wpT 19 ?_;(try simp only [y_,z_]);refine wpT 20 ?_;(try simp only [y_,z_]);refine wpT 21 ?_;(try simp only [y_,z_]);refine wpT 22 ?_;(try simp only [y_,z_]);refine aD_ (by kernel_rfl) ?_ _;go_wp2_with fail
     go_roundg (gn - (j+1))
     case measure=>rw [Hg.out];omega
     case rel=>exact ⟨j+1,rfl,by omega,by go_num,HTK.out,HU.out.drewN 1⟩
   ·obtain rfl:gn=j:=by omega
    have hall:(gposR r).all (gAt b)=true:=by have:=HT.out;rw [List.take_of_length_le (by rw [←HGL.out,Hgn.out];exact Nat.le_refl _)] at this;exact this
    have HR2:Hid (safeF r b=!((b.drop cn).take nc).all id):=by show _=_;rw [HR.out,hall,Bool.true_and]
    have x11:=u_ HX11.out HU.out (fun f=>f);have x17:=u_ HX17.out HU.out (fun f=>f);rw [Hnc.out] at x11;rw [hcn] at x17;have HC3:Hid (∀i,i<b.length→wr.cell? ⟨bb,bo+i,none⟩=some (.int .u8 (bW (b.getD i false)))):=fun i hi=>u_ (HC2.out i hi) HU.out (fun f=>f)
    clear hall;go_wp2_with fail
    go_loopg [7,56] nc (fun gg _ i w2=>∃j:Nat,Hid (gg=nc - j)∧j≤nc∧i=.int .i64 j∧Hid (((b.drop cn).take j).all id=true)∧w2=wr)
    case atStart=>exact ⟨0,rfl,by omega,rfl,rfl,rfl⟩
    case round =>
     obtain ⟨j,Hg2,hj2,rfl,HT2,rfl⟩:=hrel;by_cases hlt2:j<nc
     ·have hjb:cn+j<b.length:=by rw [HBL.out];omega
      have cj:=HC3.out (cn+j) hjb
      have hsn:(b.drop cn).take (j+1)=(b.drop cn).take j++[b.getD (cn+j) false]:=by
       rw [List.take_succ_eq_append_getElem (by rw [List.length_drop];omega),List.getElem_drop,List.getD_eq_getElem?_getD,List.getElem?_eq_getElem hjb];rfl
      have hmem:b.getD (cn+j) false∈(b.drop cn).take nc:=by
       have h1:((b.drop cn).take nc)[j]?=some (b.getD (cn+j) false):=by
        rw [List.getElem?_take,if_pos hlt2,List.getElem?_drop,List.getElem?_eq_getElem hjb,List.getD_eq_getElem?_getD,List.getElem?_eq_getElem hjb];rfl
       exact List.mem_of_getElem? h1
      have HT3:Hid (b.getD (cn+j) false=true→((b.drop cn).take (j+1)).all id=true):=fun e=>by rw [hsn,List.all_append,HT2.out,e];rfl
      have HT4:Hid (b.getD (cn+j) false=false→((b.drop cn).take nc).all id=false):=fun e=>by
       rw [Bool.eq_false_iff];intro q;rw [List.all_eq_true] at q;have:=q _ hmem;rw [e] at this;cases this
      obtain ⟨cv,Hcv⟩:=nm (b.getD (cn+j) false);rw [Hcv.out] at cj HT3 HT4;have j0:(0:Int)≤(j:Int):=by omega
      have jn:(j:Int)<(nc:Int):=by omega
      have s1:IntKind.i64.wrap ((cn:Int)+(j:Int))=(cn:Int)+(j:Int):=i64w_of (by unfold I64;omega);have s2:(0:Int)≤(cn:Int)+(j:Int):=by omega
      have s3:(cn:Int)+(j:Int)<(n:Int):=by omega
      have s4:((cn:Int)+(j:Int)).toNat=cn+j:=by omega
      clear hsn hmem hjb s1
      cases cv with
      | false =>
       have HR3:Hid (safeF r b=true):=by show _=_;rw [HR2.out,HT4.out rfl];rfl
       go_wp2_with fail
       go_ret;exact ⟨by rw [HR3.out];rfl,HU.out⟩
      | true =>
       have HT5:=h_ (HT3.out rfl);clear HT3 HT4;go_wp2_with fail
       go_roundg (nc - (j+1))
       case measure=>rw [Hg2.out];omega
       case rel=>exact ⟨j+1,rfl,by omega,by go_num,HT5.out,rfl⟩
     ·obtain rfl:nc=j:=by omega
      have HR3:Hid (safeF r b=false):=by show _=_;rw [HR2.out,HT2.out];rfl
      go_wp2_with fail
      go_ret;exact ⟨by rw [HR3.out];rfl,HU.out⟩
end Go.Proofs.YtifhejahbbnkiaaGreat
