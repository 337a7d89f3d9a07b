/-
  Lemmas and walks that the claim rests on, part 9 (packed by a program).
-/
import Derived.Test.YtifhejahbbnkiaaGreatD7
import Derived.Test.YtifhejahbbnkiaaGreatD2
import Derived.Shelf.GgSortFunc.Whole
import Derived.Shelf.GgSortFunc.Tiny
import Derived.Lib.SortBridge
import Derived.Lib.RowBridge
import Derived.Test.YtifhejahbbnkiaaGreatD8
import Derived.Test.YtifhejahbbnkiaaGreatD5
import Derived.Test.YtifhejahbbnkiaaGreatD1
import Derived.Deep.RegionHeld3
namespace Go.Proofs.YtifhejahbbnkiaaGreat
open Go.RowKit Go.Shelf Go.Sort
def lays6_ren:Go.Shelf.Ren:=⟨fun | 6=>76 | 10=>138 | 11=>139 | 12=>140 | 13=>141 | 14=>142 | 24=>196 | 25=>197 | 26=>198 | 27=>199 | 28=>200 | 29=>201 | 30=>202 | 31=>203 | 32=>204 | 33=>205 | 34=>229 | 35=>230 | 36=>231 | 37=>232 | 38=>233 | 39=>244 | n=>n,fun | 20=>20 | 26=>137 | 35=>198 | 0=>0 | 37=>200 | 3=>3 | 41=>132 | 44=>205 | 49=>238 | 51=>193 | 4=>4 | 54=>242 | 53=>241 | 58=>108 | 5=>5 | 9=>9 | 60=>262 | 64=>266 | 66=>277 | 67=>278 | 17=>17 | 32=>195 | 33=>196 | 82=>306 | 12=>12 | 75=>300 | 76=>301 | 77=>302 | 78=>188 | 79=>303 | 80=>304 | n=>n,fun | n=>n⟩
theorem lays6:Go.Proofs.LaysGg.n6 Tryz.prog lays6_ren:={
 mixed:=by kernel_rfl
 f6:=Tryz.func76.trans (congrArg some (by kernel_rfl))
 f10:=Tryz.func138.trans (congrArg some (by kernel_rfl))
 f11:=Tryz.func139.trans (congrArg some (by kernel_rfl))
 f12:=Tryz.func140.trans (congrArg some (by kernel_rfl))
 f13:=Tryz.func141.trans (congrArg some (by kernel_rfl))
 f14:=Tryz.func142.trans (congrArg some (by kernel_rfl))
 f24:=Tryz.func196.trans (congrArg some (by kernel_rfl))
 f25:=Tryz.func197.trans (congrArg some (by kernel_rfl))
 f26:=Tryz.func198.trans (congrArg some (by kernel_rfl))
 f27:=Tryz.func199.trans (congrArg some (by kernel_rfl))
 f28:=Tryz.func200.trans (congrArg some (by kernel_rfl))
 f29:=Tryz.func201.trans (congrArg some (by kernel_rfl))
 f30:=Tryz.func202.trans (congrArg some (by kernel_rfl))
 f31:=Tryz.func203.trans (congrArg some (by kernel_rfl))
 f32:=Tryz.func204.trans (congrArg some (by kernel_rfl))
 f33:=Tryz.func205.trans (congrArg some (by kernel_rfl))
 f34:=Tryz.func229.trans (congrArg some (by kernel_rfl))
 f35:=Tryz.func230.trans (congrArg some (by kernel_rfl))
 f36:=Tryz.func231.trans (congrArg some (by kernel_rfl))
 f37:=Tryz.func232.trans (congrArg some (by kernel_rfl))
 f38:=Tryz.func233.trans (congrArg some (by kernel_rfl))
 f39:=Tryz.func244.trans (congrArg some (by kernel_rfl))
 t0:=Tryz.underlying0
 a0:=Tryz.isAgg0
 z0:=Tryz.sizeOf0
 v0:=Tryz.zeroValue0
 i0:=by kernel_rfl
 t3:=Tryz.underlying3
 a3:=Tryz.isAgg3
 z3:=Tryz.sizeOf3
 v3:=Tryz.zeroValue3
 i3:=by kernel_rfl
 t4:=Tryz.underlying4
 a4:=Tryz.isAgg4
 z4:=Tryz.sizeOf4
 v4:=Tryz.zeroValue4
 i4:=by kernel_rfl
 t5:=Tryz.underlying5
 a5:=Tryz.isAgg5
 z5:=Tryz.sizeOf5
 v5:=Tryz.zeroValue5
 i5:=by kernel_rfl
 t9:=Tryz.underlying9
 a9:=Tryz.isAgg9
 z9:=Tryz.sizeOf9
 v9:=Tryz.zeroValue9
 i9:=by kernel_rfl
 t12:=Tryz.underlying12
 a12:=Tryz.isAgg12
 z12:=Tryz.sizeOf12
 v12:=Tryz.zeroValue12
 i12:=by kernel_rfl
 t17:=Tryz.underlying17
 a17:=Tryz.isAgg17
 z17:=Tryz.sizeOf17
 v17:=Tryz.zeroValue17
 i17:=by kernel_rfl
 t20:=Tryz.underlying20
 a20:=Tryz.isAgg20
 z20:=Tryz.sizeOf20
 v20:=Tryz.zeroValue20
 i20:=by kernel_rfl
 t26:=Tryz.underlying137
 a26:=Tryz.isAgg137
 z26:=Tryz.sizeOf137
 v26:=Tryz.zeroValue137
 i26:=by kernel_rfl
 t32:=Tryz.underlying195
 a32:=Tryz.isAgg195
 z32:=Tryz.sizeOf195
 v32:=Tryz.zeroValue195
 i32:=by kernel_rfl
 t33:=Tryz.underlying196
 a33:=Tryz.isAgg196
 z33:=Tryz.sizeOf196
 v33:=Tryz.zeroValue196
 i33:=by kernel_rfl
 t35:=Tryz.underlying198
 a35:=Tryz.isAgg198
 z35:=Tryz.sizeOf198
 v35:=Tryz.zeroValue198
 i35:=by kernel_rfl
 t37:=Tryz.underlying200
 a37:=Tryz.isAgg200
 z37:=Tryz.sizeOf200
 v37:=Tryz.zeroValue200
 i37:=by kernel_rfl
 t41:=Tryz.underlying132
 a41:=Tryz.isAgg132
 z41:=Tryz.sizeOf132
 v41:=Tryz.zeroValue132
 i41:=by kernel_rfl
 t44:=Tryz.underlying205
 a44:=Tryz.isAgg205
 z44:=Tryz.sizeOf205
 v44:=Tryz.zeroValue205
 i44:=by kernel_rfl
 t49:=Tryz.underlying238
 a49:=Tryz.isAgg238
 z49:=Tryz.sizeOf238
 v49:=Tryz.zeroValue238
 i49:=by kernel_rfl
 t51:=Tryz.underlying193
 a51:=Tryz.isAgg193
 z51:=Tryz.sizeOf193
 v51:=Tryz.zeroValue193
 i51:=by kernel_rfl
 t53:=Tryz.underlying241
 a53:=Tryz.isAgg241
 z53:=Tryz.sizeOf241
 v53:=Tryz.zeroValue241
 i53:=by kernel_rfl
 t54:=Tryz.underlying242
 a54:=Tryz.isAgg242
 z54:=Tryz.sizeOf242
 v54:=Tryz.zeroValue242
 i54:=by kernel_rfl
 t58:=Tryz.underlying108
 a58:=Tryz.isAgg108
 z58:=Tryz.sizeOf108
 v58:=Tryz.zeroValue108
 i58:=by kernel_rfl
 t60:=Tryz.underlying262
 a60:=Tryz.isAgg262
 z60:=Tryz.sizeOf262
 v60:=Tryz.zeroValue262
 i60:=by kernel_rfl
 t64:=Tryz.underlying266
 a64:=Tryz.isAgg266
 z64:=Tryz.sizeOf266
 v64:=Tryz.zeroValue266
 i64:=by kernel_rfl
 t66:=Tryz.underlying277
 a66:=Tryz.isAgg277
 z66:=Tryz.sizeOf277
 v66:=Tryz.zeroValue277
 i66:=by kernel_rfl
 t67:=Tryz.underlying278
 a67:=Tryz.isAgg278
 z67:=Tryz.sizeOf278
 v67:=Tryz.zeroValue278
 i67:=by kernel_rfl
 t75:=Tryz.underlying300
 a75:=Tryz.isAgg300
 z75:=Tryz.sizeOf300
 v75:=Tryz.zeroValue300
 i75:=by kernel_rfl
 t76:=Tryz.underlying301
 a76:=Tryz.isAgg301
 z76:=Tryz.sizeOf301
 v76:=Tryz.zeroValue301
 i76:=by kernel_rfl
 t77:=Tryz.underlying302
 a77:=Tryz.isAgg302
 z77:=Tryz.sizeOf302
 v77:=Tryz.zeroValue302
 i77:=by kernel_rfl
 t78:=Tryz.underlying188
 a78:=Tryz.isAgg188
 z78:=Tryz.sizeOf188
 v78:=Tryz.zeroValue188
 i78:=by kernel_rfl
 t79:=Tryz.underlying303
 a79:=Tryz.isAgg303
 z79:=Tryz.sizeOf303
 v79:=Tryz.zeroValue303
 i79:=by kernel_rfl
 t80:=Tryz.underlying304
 a80:=Tryz.isAgg304
 z80:=Tryz.sizeOf304
 v80:=Tryz.zeroValue304
 i80:=by kernel_rfl
 t82:=Tryz.underlying306
 a82:=Tryz.isAgg306
 z82:=Tryz.sizeOf306
 v82:=Tryz.zeroValue306
 i82:=by kernel_rfl }
noncomputable def siT:TypeInfo:=(Tryz.prog.info? 118).get (by kernel_rfl)
noncomputable def siE:TypeInfo:=(Tryz.prog.info? 84).get (by kernel_rfl)
theorem siK (n:Nat):Go.Lib.swapperK n siE 23=if n=0 then 1 else if n=1 then 2 else 9:=by
 have a:siE.hasPointers=true:=by kernel_rfl
 have b:siE.bytes=24:=by kernel_rfl
 unfold Go.Lib.swapperK;rw [a,b];by_cases h0:n=0
 ·subst h0;rfl
 ·by_cases h1:n=1
  ·subst h1;rfl
  ·rw [if_neg h0,if_neg h1];have c:(n==0)=false:=by simpa using h0
   have d:(n==1)=false:=by simpa using h1
   rw [c,d];rfl
theorem bytesLess_bbs:∀a b:List Bool,Op.bytesLess (bbs a) (bbs b)=ltB a b
 | [],[]=>rfl
 | [],_::_=>rfl
 | _::_,[]=>rfl
 | a::x,b::y=>by
  have ih:=bytesLess_bbs x y;show (decide (bbit a<bbit b) || (bbit a==bbit b&&Op.bytesLess (bbs x) (bbs y)))=if a=b then ltB x y else !a
  rw [ih];cases a <;> cases b <;> rfl
theorem swo_ltB {α:Type} [Inhabited α] (f:α→List Bool):SWO (fun a b=>ltB (f a) (f b)) where
 irrefl:=fun x=>ltB_irrefl _
 trans:=fun x y z h1 h2=>ltB_trans h1 h2
 ntrans:=fun x y z h1 h2=>by
  rw [Bool.eq_false_iff];intro h;rcases ltB_total (f x) (f y) with q | q | q
  ·rw [h1] at q;cases q
  ·rw [q] at h;rw [h2] at h;cases h
  ·rcases ltB_total (f y) (f z) with p | p | p
   ·rw [h2] at p;cases p
   ·rw [←p] at h;rw [h1] at h;cases h
   ·have:=ltB_trans (ltB_trans h p) q;rw [ltB_irrefl] at this;cases this
theorem run_rowstr {w:World} {F:Nat→Prop} {A:Option Addr} {l:List UInt8} {n c:Nat} (h:Sl w F A (u8s l)) (hn:n=l.length):(convert 84 9 (.slice A n c)).run Tryz.prog w=.ok (.string (kstr l)) w:=by
 have hs:Sl w F A ((l.map fun x=>(x.toNat:Int)).map fun x=>Value.int .u8 x):=by
  rw [List.map_map];exact h
 rw [run_str Tryz.underlying84 Tryz.underlying5 Tryz.underlying9 hs (by simpa using hn),bstr_u8]
theorem kstr_toList (l:List UInt8):(kstr l).toList=l:=by rw [ByteArray.toList_eq];simp [kstr]
set_option maxRecDepth 100000 in
set_option maxHeartbeats 4000000 in
theorem aLess_c {W:World} {RB g off n c i j:Nat} (hs:W.cell? ⟨RB,0,none⟩=some (.slice (some ⟨g,off,none⟩) n c)) (hi:i<n) (hj:j<n) {A1 A2:Option Addr} {F1 F2:Nat→Prop} {c1 c2:Nat} {x y:List Bool}
  (h1:W.cell? ⟨g,off+i,none⟩=some (.slice A1 x.length c1)) (h2:W.cell? ⟨g,off+j,none⟩=some (.slice A2 y.length c2)) (s1:Sl W F1 A1 (u8s (bbs x))) (s2:Sl W F2 A2 (u8s (bbs y))) :
  Calls Tryz.prog 77 #[.int .i64 i,.int .i64 j,.pointer (some ⟨RB,0,none⟩)] W fun e w'=>e=.returned (.bool (ltB x y))∧∃q,w'=W.drewN q:=by
 have l1:x.length=(bbs x).length:=by unfold bbs;rw [List.length_map]
 have l2:y.length=(bbs y).length:=by unfold bbs;rw [List.length_map]
 obtain ⟨wD,HwD⟩:=nm W.drew;have uD:Upd Non W wD:=by rw [←HwD.out];exact Upd.refl.drew
 have r1:=run_rowstr (c:=c1) (s1.upd uD (fun _ _ _ f=>f)) l1;have r2:=run_rowstr (c:=c2) (s2.upd uD (fun _ _ _ f=>f)) l2;have d0:=u_ hs uD (fun f=>f);have d1:=u_ h1 uD (fun f=>f);have d2:=u_ h2 uD (fun f=>f);have HR:Hid (Op.bytesLess (kstr (bbs x)).toList (kstr (bbs y)).toList=ltB x y):=by show _=_;rw [kstr_toList,kstr_toList,bytesLess_bbs]
 have i0:(0:Int)≤(i:Int):=by omega
 have i1:(i:Int)<(n:Int):=by omega
 have j0:(0:Int)≤(j:Int):=by omega
 have j1:(j:Int)<(n:Int):=by omega
 generalize x.length=xl at *;generalize y.length=yl at *;generalize kstr (bbs x)=sx at *;generalize kstr (bbs y)=sy at *;clear s1 s2 l1 l2 uD hs h1 h2;go_enter Tryz.func77,Tryz.ntmps77;go_wp2_with fail
 refine wp_region_held_drew (S:=fun w'=>w'.cell? ⟨RB,0,none⟩=some (.slice (some ⟨g,off,none⟩) n c)∧w'.cell? ⟨g,off+i,none⟩=some (.slice A1 xl c1)∧w'.cell? ⟨g,off+j,none⟩=some (.slice A2 yl c2)∧(convert 84 9 (.slice A1 xl c1)).run Tryz.prog w'=.ok (.string sx) w'∧(convert 84 9 (.slice A2 yl c2)).run Tryz.prog w'=.ok (.string sy) w') (by kernel_rfl) (by rw [HwD.out];exact ⟨d0,d1,d2,r1,r2⟩) (fun hHeld=>?_)
 refine wpT 0 ?_;(try simp only [y_,z_]);refine wpT 1 ?_;(try simp only [y_,z_]);refine wpT 2 ?_;(try simp only [y_,z_]);refine wpT 3 ?_;(try simp only [y_,z_]);refine wpT 4 ?_;(try simp only [y_,z_]);refine wpT 5 ?_;(try simp only [y_,z_]);refine wpT 6 ?_;(try simp only [y_,z_]);refine wpT 7 ?_;(try simp only [y_,z_]);refine wpT 8 ?_;(try simp only [y_,z_]);refine wpT 9 ?_;(try simp only [y_,z_]);refine wpT 10 ?_;(try simp only [y_,z_]);refine wpT 11 ?_;(try simp only [y_,z_]);refine aD_ (by kernel_rfl) ?_ _;go_wp2_with fail
 go_ret;exact ⟨by rw [←HR.out];rfl,1,rfl⟩
theorem upd_grow (w:World) (os:Array Obj):Upd Non w (grow w os):=⟨rfl,rfl,rfl,by show w.heap.size≤(w.heap++os).size;rw [Array.size_append];omega,fun k hk _=>by show (w.heap++os)[k]?=_;rw [Array.getElem?_append_left hk]⟩
theorem upd_putRow {α:Type} [Inhabited α] (enc:α→Value) (w:World) (g off:Nat) (d:Array α):Upd (·=g) w (putRow enc w g off d):=⟨rfl,rfl,rfl,by show w.heap.size≤(w.heap.modify g _).size;rw [Array.size_modify];exact Nat.le_refl _,fun k _ hk=>by show (w.heap.modify g _)[k]?=_;rw [Array.getElem?_modify,if_neg (fun e=>hk e.symm)]⟩
theorem upd_sortW {α:Type} [Inhabited α] (enc:α→Value) (w:World) (g off m:Nat) (d:Array α) (os:Array Obj):Upd (·=g) w (sortWorld enc w g off m d os) :=
 ((show Upd (·=g) w (Sort.ahead w m) from ⟨rfl,rfl,rfl,Nat.le_refl _,fun _ _ _=>rfl⟩).trans (upd_putRow enc _ g off d) (fun _ _ q=>q)).trans (upd_grow _ os) (fun _ _ f=>f.elim)
def setL:List Value→Nat→List Value→List Value
 | cs,_,[]=>cs
 | cs,o,v::r=>setL (cs.set o v) (o+1) r
theorem setL_eq:∀(vs cs:List Value) (o:Nat),o+vs.length≤cs.length→setL cs o vs=cs.take o++(vs++cs.drop (o+vs.length))
 | [],cs,o,_=>by simp [setL]
 | v::r,cs,o,h=>by
  rw [List.length_cons] at h;rw [setL,setL_eq r _ _ (by rw [List.length_set];omega)]
  have e1:(cs.set o v).take (o+1)=cs.take o++[v]:=by
   rw [List.take_succ_eq_append_getElem (by rw [List.length_set];omega),List.getElem_set_self,List.take_set_of_le (Nat.le_refl _)]
  rw [e1,List.drop_set_of_lt (by omega),List.length_cons,List.append_assoc,show o+1+r.length=o+(r.length+1) by omega];rfl
theorem Own.sets {e:TypeId} {g n c:Nat}:∀(vs:List Value) (o:Nat) (w:World) (cs:List Value),Own w e 1 (some ⟨g,0,none⟩) n c cs→Own (w.setCells g o vs) e 1 (some ⟨g,0,none⟩) n c (setL cs o vs)
 | [],_,_,_,h=>h
 | v::r,o,_,_,h=>Own.sets r (o+1) _ _ (h.set_ o v)
set_option maxRecDepth 100000 in
set_option maxHeartbeats 4000000 in
theorem aSort_c {w:World} {RB:Nat} {A:Option Addr} {n c:Nat} {G:Nat→Prop} {L:List (List Bool)} (hE:ElO ElRow 1 84 w G A n c (L.map bbs)) (hRB:w.cell? ⟨RB,0,none⟩=some (.slice A n c)) (hRA:¬At A RB) (hn:n≤1000000000) :
  Calls Tryz.prog 76 #[.iface 118 (.slice A n c),.func (.func 77) #[] #[.pointer (some ⟨RB,0,none⟩)]] w fun e w'=>e=.returned (.tuple #[])∧∃L':List (List Bool),L'.Perm L∧L'.Pairwise (fun a b=>ltB b a=false)∧ElO ElRow 1 84 w' G A n c (L'.map bbs)∧Upd (At A) w w':=by
 have hnL:n=L.length:=by have:=hE.1;rw [List.length_map] at this;exact this
 by_cases h2:2≤n
 ·obtain ⟨_,cs,hO,hC⟩:=hE;obtain ⟨g,rfl⟩:=hO.some_ (by omega);have hcl:cs.length=n:=by rw [hO.len,Nat.mul_one]
  have hgR:RB≠g:=fun e=>hRA (At.some_.2 e)
  have hrow:∀k:Nat,∃RA rc,cs.getD k (.slice none 0 0)=.slice RA (L.getD k []).length rc∧(L.getD k []).length≤rc∧Sl w (fun i=>G i∧¬At (some ⟨g,0,none⟩) i) RA (u8s (bbs (L.getD k []))):=fun k=>by
   by_cases hk:k<n
   ·have h1:=hC.2 k (by rw [List.length_map];omega);obtain ⟨RA,rc,e1,e2,e3⟩:=h1;rw [List.getElem_map] at e1 e2 e3
    have hg:cs[k]?=some (.slice RA (bbs L[k]).length rc):=by
     have : ((cs.drop (1 * k)).take 1)[0]?=some (.slice RA (bbs L[k]).length rc):=by rw [e1];rfl
     rw [List.getElem?_take,if_pos (by decide),List.getElem?_drop] at this;simpa using this
    have hL:L.getD k []=L[k]:=getD_of (by omega);have hbl:(bbs L[k]).length=L[k].length:=by unfold bbs;rw [List.length_map]
    rw [hbl] at hg e2;refine ⟨RA,rc,?_,?_,?_⟩
    ·rw [List.getD_eq_getElem?_getD,hg,hL];rfl
    ·rw [hL];exact e2
    ·rw [hL];exact e3
   ·have hL:L.getD k []=[]:=by rw [List.getD_eq_getElem?_getD,List.getElem?_eq_none (by omega)];rfl
    refine ⟨none,0,?_,?_,?_⟩
    ·rw [List.getD_eq_getElem?_getD,List.getElem?_eq_none (by omega),hL];rfl
    ·rw [hL];exact Nat.le_refl _
    ·rw [hL];exact .inl rfl
  obtain ⟨enc,henc⟩:∃f:Nat→Value,f=fun k=>cs.getD k (.slice none 0 0):=⟨_,rfl⟩
  have hencv:∀k,enc k=cs.getD k (.slice none 0 0):=fun k=>by rw [henc]
  have hone:∀x,(enc x).oneCell'=true:=fun x=>by
   obtain ⟨RA,rc,e1,_⟩:=hrow x;rw [hencv,e1];rfl
  have hd:∀j,j<n→(Array.range n)[j]! = j:=fun j hj=>by simp [hj]
  have hH:Holds enc w g 0 (Array.range n):=fun j hj=>by
   rw [Array.size_range] at hj;refine ⟨?_,hO.frozen_ _⟩;rw [Nat.zero_add,hO.cell_ (i:=j) (by omega),hd j hj,hencv,getD_of (by omega)]
  have hgw:g<w.heap.size:=hO.lt (At.some_.2 rfl)
  have hless:LessReads Tryz.prog 77 #[.pointer (some ⟨RB,0,none⟩)] enc (fun a b=>ltB (L.getD a []) (L.getD b [])) g 0 n w:=by
   intro m os dk hs i j hi hj;have u:=upd_sortW enc w g 0 m dk os
   have hcell:∀t,t<n→(sortWorld enc w g 0 m dk os).cell? ⟨g,0+t,none⟩=some (enc dk[t]!):=fun t ht=>by
    unfold sortWorld;rw [cell?_grow _ _ _ (by show g<(w.heap.modify g _).size;rw [Array.size_modify];exact hgw)];exact cell?_putRow enc _ g 0 (Array.range n) dk (holds_ahead _ _ _ _ _ _ hH) (by rw [hs,Array.size_range]) t (by omega)
   obtain ⟨R1,c1,a1,a2,a3⟩:=hrow dk[i]!;obtain ⟨R2,c2,b1,b2,b3⟩:=hrow dk[j]!;have h1:=hcell i hi;have h2:=hcell j hj;rw [hencv,a1] at h1;rw [hencv,b1] at h2;exact aLess_c (u_ (S:=(·=g)) hRB u hgR) hi hj h1 h2 (a3.upd u (fun k _ q e=>q.2 (At.some_.2 e))) (b3.upd u (fun k _ q e=>q.2 (At.some_.2 e)))
  have hS:=Any.sort_Slice_sorted lays6 118 84 siT siE (by kernel_rfl) (by kernel_rfl) (by kernel_rfl) (by kernel_rfl) 23 (fun _=>by kernel_rfl) (by kernel_rfl) (fun _=>by kernel_rfl) enc hone (fun a b=>ltB (L.getD a []) (L.getD b [])) (swo_ltB _) 77 _
   (enters_of Tryz.func77 (by kernel_rfl) rfl) g 0 c (Array.range n) (by rw [Array.size_range];exact h2) (by rw [Array.size_range];omega) 195 (by rw [siK,Array.size_range,if_neg (by omega),if_neg (by omega)];kernel_rfl) false
   (fun args W=>run_callFunc_extern Tryz.func195 (by kernel_rfl) (by kernel_rfl) (by kernel_rfl) (e:=Extern.ReflectliteSwapper.swap false) (by kernel_rfl) args W) w (by rw [Array.size_range];exact hless) hH hgw
  rw [Array.size_range] at hS
  change Calls Tryz.prog 76 _ _ _ at hS
  refine hS.mono ?_;rintro e w' ⟨rfl,d',q,os,hp,hso,rfl⟩;obtain ⟨hp1,hp2,hp3⟩:=hp;rw [Array.size_range] at hp1;have hx1:d'.extract 0 n=d':=by rw [←hp1];simp
  have hx2:(Array.range n).extract 0 n=Array.range n:=by
   have : (Array.range n).size=n:=Array.size_range
   conv=>lhs;arg 3;rw [←this]
   simp
  rw [hx1,hx2,Array.toList_range] at hp3;have hys:d'.toList.length=(Array.range n).size:=by rw [Array.length_toList,hp1,Array.size_range]
  have hw':=Go.Lib.sorted_world enc w g 0 q (Array.range n) d'.toList os hH hys;rw [Array.toArray_toList] at hw';refine ⟨rfl,d'.toList.map (fun k=>L.getD k []),?_,?_,?_,?_⟩
  ·have h1:=hp3.map (fun k=>L.getD k []);refine h1.trans ?_
   have h3:(List.range n).map (fun k=>L.getD k [])=L:=by
    refine List.ext_getElem (by rw [List.length_map,List.length_range,hnL]) fun i h1 h2=>?_
    rw [List.getElem_map,List.getElem_range,getD_of h2]
   rw [h3]
  ·rw [List.pairwise_map];refine List.pairwise_iff_getElem.2 fun i j hi hj hij=>?_
   rw [Array.length_toList] at hi hj;have:=hso i j (Nat.zero_le _) hij (by omega);rw [getElem!_pos d' i hi,getElem!_pos d' j hj] at this;rw [Array.getElem_toList,Array.getElem_toList];exact this
  ·rw [hw'];refine ⟨by rw [List.length_map,List.length_map,Array.length_toList,hp1],setL cs 0 (d'.toList.map enc),?_,?_⟩
   ·exact (Own.sets _ 0 _ _ ((hO.drewN q))).upd (upd_grow _ os) (fun _ _ f=>f)
   ·have hl:(d'.toList.map enc).length=cs.length:=by rw [List.length_map,Array.length_toList,hp1,hcl]
    rw [setL_eq _ _ _ (by omega),List.take_zero,List.nil_append,Nat.zero_add,hl,List.drop_length,List.append_nil];refine ⟨by rw [List.length_map,List.length_map,List.length_map,Nat.one_mul],fun i hi=>?_⟩;rw [List.length_map,List.length_map] at hi;obtain ⟨RA,rc,e1,e2,e3⟩:=hrow (d'.toList[i]);have hbl:(bbs (L.getD d'.toList[i] [])).length=(L.getD d'.toList[i] []).length:=by unfold bbs;rw [List.length_map]
    have u:Upd (·=g) w (grow ((w.drewN q).setCells g 0 (d'.toList.map enc)) os):=((Upd.refl.drewN q (S:=(·=g))).trans (upd_setCells g _ 0 _) (fun _ _ q=>q)).trans (upd_grow _ os) (fun _ _ f=>f.elim)
    refine ⟨RA,rc,?_,?_,?_⟩
    ·rw [List.getElem_map,List.getElem_map,hbl,←e1,←hencv,Nat.one_mul];rw [List.drop_eq_getElem_cons (by rw [List.length_map];exact hi),List.take_succ_cons,List.take_zero,List.getElem_map]
    ·rw [List.getElem_map,List.getElem_map,hbl];exact e2
    ·rw [List.getElem_map,List.getElem_map];exact e3.upd u (fun k _ q e=>q.2 (At.some_.2 e))
  ·rw [hw'];exact (((Upd.refl.drewN q (S:=(·=g))).trans (upd_setCells g _ 0 _) (fun _ _ q=>q)).trans (upd_grow _ os) (fun _ _ f=>f.elim)).mono (fun i _ q=>At.some_.2 q)
 ·have hK:Go.Lib.swapperK n siE 23=n+1:=by
   rw [siK];rcases Nat.eq_zero_or_pos n with h | h
   ·rw [if_pos h,h]
   ·rw [if_neg (by omega),if_pos (by omega)];omega
  have hS:=Any.sort_Slice_tiny lays6 118 84 siT siE (by kernel_rfl) (by kernel_rfl) (by kernel_rfl) (by kernel_rfl) 23 (fun _=>by kernel_rfl) A n c (by omega) (if n=0 then 187 else 188) (by
   rw [hK];rcases Nat.eq_zero_or_pos n with h | h
   ·subst h;kernel_rfl
   ·obtain rfl:n=1:=by omega
    kernel_rfl) (.func 77) #[] #[.pointer (some ⟨RB,0,none⟩)] w
  change Calls Tryz.prog 76 _ _ _ at hS
  refine hS.mono ?_;rintro e w' ⟨rfl,os,rfl⟩;have u:=upd_grow w os;refine ⟨rfl,L,List.Perm.refl _,?_,hE.upd elRow u (fun _ _ f=>f) (fun _ _ _ f=>f),u.mono (fun _ _ f=>f.elim)⟩
  match L,hnL with
  | [],_=>exact List.Pairwise.nil
  | [x],_=>exact List.pairwise_singleton _ _
  | x::y::r,h=>simp at h;omega
theorem srt_of {L M:List (List Bool)} (hs:L.Pairwise (fun a b=>ltB b a=false)) (hn:L.Nodup) (hM:SrtB M) (h:∀x,x∈L↔x∈M):L=M:=by
 refine srt_ext ?_ hM h;unfold SrtB;refine (List.Pairwise.and hs hn).imp fun {a b} q=>?_
 rcases ltB_total a b with z | z | z
 ·exact z
 ·exact (q.2 z).elim
 ·rw [q.1] at z;cases z
theorem inO_inj {op:Int} (n:Nat) (h:isG op=true) {a b:Bool} (e:inO op n a=inO op n b):a=b:=by
 unfold isG at h;have h:=of_decide_eq_true h;have : op=15∨op=16∨op=17∨op=18∨op=19∨op=22:=by omega
 rcases this with rfl | rfl | rfl | rfl | rfl | rfl <;> (cases a <;> cases b <;> first | rfl | (exfalso;simp [inO,isG] at e))
theorem inP_inj {f g:Nat→Bool} (p:Pt):∀i,inP f p i=inP g p i→∀j,j<gN p→f (i+j)=g (i+j):=by
 induction p using Pt.ind with
 | h p ih =>
  intro i h j hj;rw [inP_iff,inP_iff] at h;rw [gN_iff] at hj;by_cases hv:0<p.v
  ·rw [if_pos hv] at hj;omega
  ·rw [if_neg hv,if_neg hv] at h;rw [if_neg hv] at hj;obtain ⟨h1,h2⟩:=List.append_inj h (by rw [inO_len,inO_len])
   have hl:∀(l:List Pt),(∀q∈l,q∈p.kids)→∀i,inL f l i=inL g l i→∀j,j<gL l→f (i+j)=g (i+j):=by
    intro l
    induction l with
    | nil=>intro _ i _ j hj;simp [gL] at hj
    | cons q qs ihl =>
     intro hq i h j hj;rw [inL,inL] at h;rw [gL] at hj;obtain ⟨h1,h2⟩:=List.append_inj h (by rw [inP_len,inP_len]);by_cases hlt:j<gN q
     ·exact ih q (hq q (by simp)) i h1 j hlt
     ·have:=ihl (fun x hx=>hq x (by simp [hx])) (i+gN q) h2 (j - gN q) (by omega)
      rwa [show i+gN q+(j - gN q)=i+j by omega] at this
   cases hg:isG p.op with
   | false =>
    rw [hg] at hj h2;have:=hl p.kids (fun q h=>h) _ h2 j (by simpa using hj);simpa using this
   | true =>
    rw [hg] at hj h2;by_cases h0:j=0
    ·subst h0;rw [Nat.add_zero];exact inO_inj _ hg h1
    ·have:=hl p.kids (fun q h=>h) _ h2 (j - 1) (by simp at hj;omega)
     rwa [show i+true.toNat+(j - 1)=i+j by simp;omega] at this
theorem initF_inj {f g:Nat→Bool} {r:Rl} (h:initF f r=initF g r):∀j,j<gR r→f j=g j:=by
 intro j hj;unfold initF at h;rw [List.append_assoc,List.append_assoc,List.append_assoc,List.append_assoc] at h;obtain ⟨h1,h2⟩:=List.append_inj h (by rw [inP_len,inP_len]);obtain ⟨h3,_⟩:=List.append_inj h2 (by rw [inP_len,inP_len]);unfold gR at hj;by_cases hlt:j<gN r.l
 ·have:=inP_inj _ 0 h1 j hlt
  rwa [Nat.zero_add] at this
 ·have:=inP_inj _ _ h3 (j - gN r.l) (by omega)
  rwa [show gN r.l+(j - gN r.l)=j by omega] at this
theorem initsF_nodup (r:Rl):(initsF r).Nodup:=by
 unfold initsF;rw [List.Nodup,List.pairwise_map];refine (List.pairwise_lt_range (n:=2 ^ gR r)).imp_of_mem fun {a b} ha hb hab e=>?_
 rw [List.mem_range] at ha hb;have h:=initF_inj e
 have : a=b:=by
  refine Nat.eq_of_testBit_eq fun i=>?_
  by_cases hi:i<gR r
  ·exact h i hi
  ·rw [Nat.testBit_lt_two_pow (Nat.lt_of_lt_of_le ha (Nat.pow_le_pow_right (by decide) (by omega))),Nat.testBit_lt_two_pow (Nat.lt_of_lt_of_le hb (Nat.pow_le_pow_right (by decide) (by omega)))]
 omega
theorem initsF_len (r:Rl):(initsF r).length=2 ^ gR r:=by unfold initsF;rw [List.length_map,List.length_range]
theorem succsF_len (r:Rl) (k:Nat) (b:List Bool):(succsF r k b).length=2 ^ r.vars.toNat:=by unfold succsF;rw [List.length_map,List.length_range]
theorem autF_not {r:Rl} (h:applF r=false):autF r=none:=by unfold autF;rw [if_neg (by rw [h];simp)]
theorem autF_long {r:Rl} {k:Nat} (hk:k≤64) {P:List (Nat×List Bool)} (hP:P.Sublist (lvls r (k+1))) (h:4096<P.length):autF r=none:=by
 have h1:=hP.length_le;have h2:=lvls_mono r (show k+1≤65 by omega);unfold autF;rw [if_neg (by omega)]
theorem autF_bad {r:Rl} {b:List Bool} (hb:b∈lvl r 64) (h:safeF r b=false):autF r=none:=by
 unfold autF;rw [if_neg];rintro ⟨_,_,q⟩;have:=List.all_eq_true.1 q b hb;rw [h] at this;cases this
def ElAS (w:World) (K:Nat→Prop) (cs:List Value) (x:AS):Prop:=∃RA rc,cs=[.int .i64 x.at_,.slice RA x.bits.length rc]∧x.bits.length≤rc∧Sl w K RA (u8s x.bits)
theorem elAS:ElOk ElAS 2 where
 len:=fun ⟨_,_,h,_⟩=>by rw [h];rfl
 upd:=fun ⟨RA,rc,h1,h2,h3⟩ u d hK=>⟨RA,rc,h1,h2,(h3.mono (G:=fun i=>_∧_) (fun i hi h=>⟨hK i hi h,d i hi h⟩)).upd u (fun _ _ h=>h.2) |>.mono (fun _ _ h=>h.1)⟩
theorem T_AStates:SlT Tryz.prog 49 122 2 32:=by
 obtain ⟨i,h1,h2,h3,h4⟩:=info_parts (show (Tryz.prog.info? 122).map (fun i=>(i.zero,i.size,i.bytes))=some (some (.agg #[.int .i64 0,.slice none 0 0]),2,32) from by kernel_rfl)
 exact ⟨Tryz.underlying49,⟨i,_,h1,h2,h3,h4,rfl⟩,by omega⟩
theorem rows_at {w:World} {G:Nat→Prop} {A:Option Addr} {n c:Nat} {L:List (List UInt8)} (h:ElO ElRow 1 84 w G A n c L) {i:Nat} (hi:i<L.length):∃g RA rc,A=some ⟨g,0,none⟩∧w.cell? ⟨g,i,none⟩=some (.slice RA L[i].length rc)∧L[i].length≤rc∧Sl w (fun i=>G i∧¬At A i) RA (u8s L[i]):=by
 obtain ⟨hn,cs,hO,hC⟩:=h;obtain ⟨g,rfl⟩:=hO.some_ (by omega);have hcl:cs.length=n:=by rw [hO.len,Nat.mul_one]
 obtain ⟨el,he,RA,rc,e1,e2,e3⟩:=hC.get hi;refine ⟨g,RA,rc,rfl,?_,e2,e3⟩;have h0:=he 0 (by decide);rw [e1,Nat.one_mul,Nat.add_zero] at h0;rw [hO.cell_ (i:=i) (by omega),←List.getElem?_eq_getElem,h0];rfl
theorem SMap.ne_blk {w:World} {b i:Nat} {m:ByteArray→Option Value} {t:TypeId} {cs:Array Value} (h:SMap w b m) (hb:Blk w i t cs):i≠b:=by
 rintro rfl;obtain ⟨es,clock,h1,_⟩:=h;unfold Blk at hb;rw [hb] at h1;cases h1
theorem SMap.ne_own {w:World} {b:Nat} {m:ByteArray→Option Value} {e:TypeId} {size:Nat} {A:Option Addr} {n c:Nat} {cs:List Value} (h:SMap w b m) (ho:Own w e size A n c cs):¬At A b:=by
 rcases ho.cases with ⟨rfl,_⟩ | ⟨g,cur,rfl,hb,_⟩
 ·exact At.none_
 ·rw [At.some_];exact (h.ne_blk hb).symm
def seenV (T:List (List Bool)) (s:ByteArray):Option Value:=if (T.any fun x=>decide (s=kstr (bbs x)))=true then some (.bool true) else none
theorem seenV_nil:seenV []=fun _=>none:=by funext s;rfl
theorem seenV_snoc (T:List (List Bool)) (x:List Bool):(fun s=>if s=kstr (bbs x) then some (.bool true) else seenV T s)=seenV (T++[x]):=by
 funext s
 unfold seenV;rw [List.any_append];by_cases h:s=kstr (bbs x)
 ·rw [if_pos h,if_pos (by simp [h])]
 ·rw [if_neg h];simp [h]
theorem seenV_get (T:List (List Bool)) (x:List Bool):(seenV T (kstr (bbs x))).getD (.bool false)=.bool (decide (x∈T)):=by
 unfold seenV
 have e:(T.any fun y=>decide (kstr (bbs x)=kstr (bbs y)))=decide (x∈T):=by
  rw [Bool.eq_iff_iff,List.any_eq_true,decide_eq_true_eq];constructor
  ·rintro ⟨y,hy,q⟩;have q:=of_decide_eq_true q;rw [kstr_inj] at q
   rwa [bbs_inj q]
  ·intro h;exact ⟨x,h,dT_ rfl⟩
 rw [e];cases decide (x∈T) <;> rfl
structure PvR (w2 wr:World) (B RB tb mb k:Nat) (r:Rl) (A:Option Addr) (n c:Nat) (OA:Option Addr) (on oc:Nat) (TA:Option Addr) (tn tc:Nat) (O:List (Nat×List Bool)) (T:List (List Bool)):Prop where
 row:Blk wr RB 118 #[.slice A n c]
 el:ElO ElRow 1 84 wr (U8B wr) A n c ((lvl r k).map bbs)
 out:ElO ElAS 2 122 wr (U8B wr) OA on oc (O.map asE)
 thn:ElO ElRow 1 84 wr (U8B wr) TA tn tc (T.map bbs)
 seen:SMap wr mb (seenV T)
 upd:Upd (B≤·) w2 wr
 b1:B≤RB
 b2:∀i,At A i→B≤i∧i<tb
 b3:∀i,At OA i→B≤i
 b4:∀i,At TA i→tb≤i
 b5:B≤mb
 b6:B≤tb∧tb≤wr.heap.size
section
variable {w2 wr:World} {B RB tb mb k:Nat} {r:Rl} {A:Option Addr} {n c:Nat} {OA:Option Addr} {on oc:Nat} {TA:Option Addr} {tn tc:Nat} {O:List (Nat×List Bool)} {T:List (List Bool)}
theorem PvR.non (h:PvR w2 wr B RB tb mb k r A n c OA on oc TA tn tc O T) {w':World} (u:Upd Non wr w'):PvR w2 w' B RB tb mb k r A n c OA on oc TA tn tc O T :=
 ⟨h.row.upd u (fun f=>f),h.el.u8 elRow u (fun _ _ f=>f) (fun _ _ _ f=>f),h.out.u8 elAS u (fun _ _ f=>f) (fun _ _ _ f=>f),h.thn.u8 elRow u (fun _ _ f=>f) (fun _ _ _ f=>f),h.seen.upd u (fun f=>f),h.upd.then_non u,h.b1,h.b2,h.b3,h.b4,h.b5,h.b6.1,Nat.le_trans h.b6.2 u.size⟩
theorem PvR.addO (h:PvR w2 wr B RB tb mb k r A n c OA on oc TA tn tc O T) {w3 w4:World} (u3:Upd Non wr w3) {cs:List Value} (hO:Own wr 122 2 OA on oc cs) (hC:ElCells ElAS 2 wr (fun i=>U8B wr i∧¬At OA i) cs (O.map asE)) {x:Nat×List Bool} {RA:Option Addr} {rc:Nat} (hrc:x.2.length≤rc) (hR:Sl wr (fun i=>U8B wr i∧¬At A i) RA (u8s (bbs x.2)))
  {OA':Option Addr} {oc':Nat} (ho:Own w4 122 2 OA' (on+1) oc' (cs++[.int .i64 (x.1:Int),.slice RA x.2.length rc])) (u4:Upd (At OA) w3 w4) (hat:∀i,At OA' i→At OA i∨i=w3.heap.size) :
  PvR w2 w4 B RB tb mb k r A n c OA' (on+1) oc' TA tn tc (O++[x]) T:=by
 have h3:=h.non u3;have hO3:=hO.upd u3 (fun _ _ f=>f);have d8:∀i q,Blk w3 i 5 q→¬At OA i:=fun i q hb=>hO3.ne_blk hb (by decide)
 obtain ⟨_,_,hAo,_⟩:=h3.el;obtain ⟨_,ts,hTo,_⟩:=h3.thn;have hbl:(bbs x.2).length=x.2.length:=by unfold bbs;rw [List.length_map]
 refine ⟨h3.row.upd u4 (hO3.ne_blk h3.row (by decide)),h3.el.u8 elRow u4 (fun i hi=>hAo.ne_type hO3 (by decide) hi) d8,?_,h3.thn.u8 elRow u4 (fun i hi=>hTo.ne_type hO3 (by decide) hi) d8,h3.seen.upd u4 (h3.seen.ne_own hO3),h3.upd.trans u4 (fun i _ q=>h.b3 i q),h.b1,h.b2,fun i hi=>?_,h.b4,h.b5,h.b6.1,Nat.le_trans h3.b6.2 u4.size⟩
 ·rw [List.map_append];refine ElO.snoc8 elAS (by decide) h.out.1 hC u3 hO3 ?_ ho u4 hat;refine ⟨RA,rc,?_,?_,?_⟩
  ·show _=[Value.int .i64 ((x.1:Nat):Int),.slice RA (bbs x.2).length rc];rw [hbl]
  ·show (bbs x.2).length≤rc;rw [hbl];exact hrc
  ·refine (hR.mono (G:=fun i=>U8B wr i∧¬At OA i) (fun i _ q=>⟨q.1,?_⟩)).upd u3 (fun _ _ _ f=>f) |>.mono (fun i hi q=>⟨?_,q.2⟩)
   ·obtain ⟨z,hb⟩:=q.1;exact hO.ne_blk hb (by decide)
   ·exact q.1.upd u3 (fun f=>f)
 ·rcases hat i hi with q | q
  ·exact h.b3 i q
  ·have:=h3.b6;omega
theorem PvR.addT (h:PvR w2 wr B RB tb mb k r A n c OA on oc TA tn tc O T) {w3 w4 w5:World} {x:List Bool} (u3:Upd (·=mb) wr w3) (hs:SMap w3 mb (fun s=>if s=kstr (bbs x) then some (.bool true) else seenV T s)) (u4:Upd Non w3 w4) {cs:List Value} (hO:Own wr 84 1 TA tn tc cs) (hC:ElCells ElRow 1 wr (fun i=>U8B wr i∧¬At TA i) cs (T.map bbs))
  {q sn sc:Nat} (hx:Own wr 5 1 (some ⟨q,0,none⟩) sn sc (b8s x)) (hxl:x.length=sn) (hq:¬At TA q) {TA':Option Addr} {tc':Nat} (ho:Own w5 84 1 TA' (tn+1) tc' (cs++[.slice (some ⟨q,0,none⟩) sn sc])) (u5:Upd (At TA) w4 w5) (hat:∀i,At TA' i→At TA i∨i=w4.heap.size) :
  PvR w2 w5 B RB tb mb k r A n c OA on oc TA' (tn+1) tc' O (T++[x]):=by
 obtain ⟨_,_,hAo,_⟩:=h.el;obtain ⟨_,os,hOo,_⟩:=h.out;have m8:∀i z,Blk wr i 5 z→¬i=mb:=fun i z hb=>h.seen.ne_blk hb
 have mA:∀i,At A i→¬i=mb:=fun i hi e=>h.seen.ne_own hAo (e ▸ hi)
 have mO:∀i,At OA i→¬i=mb:=fun i hi e=>h.seen.ne_own hOo (e ▸ hi)
 have mT:∀i,At TA i→¬i=mb:=fun i hi e=>h.seen.ne_own hO (e ▸ hi)
 have u34:Upd (·=mb) wr w4:=u3.trans u4 (fun _ _ f=>f.elim);have hA4:=h.el.u8 elRow u34 mA m8;have hO4:=h.out.u8 elAS u34 mO m8;have hT4:=hO.upd u34 mT;have hC4:ElCells ElRow 1 w4 (fun i=>U8B w4 i∧¬At TA i) cs (T.map bbs):=hC.mono elRow u34 (fun i _ z=>by obtain ⟨y,hb⟩:=z.1;exact m8 i y hb) (fun i _ z=>⟨z.1.upd u34 (by obtain ⟨y,hb⟩:=z.1;exact m8 i y hb),z.2⟩)
 have hx4:=hx.upd u34 (fun i hi e=>h.seen.ne_own hx (e ▸ hi));have d8:∀i y,Blk w4 i 5 y→¬At TA i:=fun i y hb=>hT4.ne_blk hb (by decide)
 obtain ⟨_,os4,hOo4,_⟩:=hO4;have hw:=u34.size;refine ⟨(h.row.upd u34 (fun e=>h.seen.ne_blk h.row e)).upd u5 (hT4.ne_blk (h.row.upd u34 (fun e=>h.seen.ne_blk h.row e)) (by decide)),hA4.u8 elRow u5 (fun i hi z=>by have h1:=(h.b2 i hi).2;have h2:=h.b4 i z;omega) d8,(h.out.u8 elAS u34 mO m8).u8 elAS u5 (fun i hi=>hOo4.ne_type hT4 (by decide) hi) d8,?_,?_,(h.upd.trans u34 (fun i _ e=>by have:=h.b5;omega)).trans u5 (fun i _ z=>by have h1:=h.b4 i z;have h2:=h.b6;show B≤i;omega),h.b1,h.b2,h.b3,fun i hi=>?_,h.b5,h.b6.1,Nat.le_trans h.b6.2 (Nat.le_trans hw u5.size)⟩
 ·rw [List.map_append];exact ElO.snoc8 elRow (by decide) h.thn.1 hC4 Upd.refl hT4 (elRow_of hx4 hxl ⟨own_u8 hx4,hq⟩) ho u5 hat
 ·rw [←seenV_snoc];exact (hs.upd u4 (fun f=>f)).upd u5 ((hs.upd u4 (fun f=>f)).ne_own hT4)
 ·rcases hat i hi with z | z
  ·exact h.b4 i z
  ·have:=h.b6;omega
end
structure PvS (w2 wr:World) (B RB k:Nat) (r:Rl) (A:Option Addr) (n c:Nat) (OA:Option Addr) (on oc:Nat) (T:List (List Bool)):Prop where
 row:Blk wr RB 118 #[.slice A n c]
 el:ElO ElRow 1 84 wr (U8B wr) A n c (T.map bbs)
 out:ElO ElAS 2 122 wr (U8B wr) OA on oc ((lvls r k).map asE)
 upd:Upd (B≤·) w2 wr
 b1:B≤RB
 b2:∀i,At A i→B≤i
 b3:∀i,At OA i→B≤i
 bw:B≤wr.heap.size
 nd:k≤64→T.Nodup∧∀x,x∈T↔x∈lvl r k
 tn:n≤300000
 le:(lvls r k).length≤4096
 sf:k=65→∀b∈lvl r 64,safeF r b=true
section
variable {w2 wr:World} {B RB k:Nat} {r:Rl} {A:Option Addr} {n c:Nat} {OA:Option Addr} {on oc:Nat} {T:List (List Bool)}
theorem PvS.sorted (h:PvS w2 wr B RB k r A n c OA on oc T) (hk:k≤64) {w4 w5:World} (u4:Upd Non wr w4) {w6:World} {L':List (List Bool)} (hp:L'.Perm T) (hs:L'.Pairwise (fun a b=>ltB b a=false)) (he:ElO ElRow 1 84 w5 (U8B w4) A n c (L'.map bbs)) (u5:Upd (At A) w4 w5) (h6:w5.alloc (.map #[] 0)=w6) :
  PvR w2 w6 B RB w6.heap.size w5.heap.size k r A n c OA on oc none 0 0 (lvls r k) []:=by
 obtain ⟨hnd,hmem⟩:=h.nd hk;have hL:L'=lvl r k:=srt_of hs (hp.nodup_iff.2 hnd) (lvl_srt r k) (fun x=>by rw [hp.mem_iff];exact hmem x);subst hL;have u6:Upd Non w5 w6:=by rw [←h6];exact Upd.refl.alloc _
 obtain ⟨_,as_,hAo,_⟩:=h.el.u8 elRow u4 (fun _ _ f=>f) (fun _ _ _ f=>f);obtain ⟨_,os_,hOo,_⟩:=h.out.u8 elAS u4 (fun _ _ f=>f) (fun _ _ _ f=>f);have d8:∀i z,Blk w4 i 5 z→¬At A i:=fun i z hb=>hAo.ne_blk hb (by decide)
 have he5:ElO ElRow 1 84 w5 (U8B w5) A n c ((lvl r k).map bbs):=he.mono elRow (fun i _ q=>q.upd u5 (by obtain ⟨z,hb⟩:=q;exact d8 i z hb));refine ⟨((h.row.upd u4 (fun f=>f)).upd u5 (hAo.ne_blk (h.row.upd u4 (fun f=>f)) (by decide))).upd u6 (fun f=>f),he5.u8 elRow u6 (fun _ _ f=>f) (fun _ _ _ f=>f),((h.out.u8 elAS u4 (fun _ _ f=>f) (fun _ _ _ f=>f)).u8 elAS u5 (fun i hi=>hOo.ne_type hAo (by decide) hi) d8).u8 elAS u6 (fun _ _ f=>f) (fun _ _ _ f=>f),ElO.none_,?_,((h.upd.then_non u4).trans u5 (fun i _ q=>h.b2 i q)).then_non u6,h.b1,fun i hi=>⟨h.b2 i hi,?_⟩,h.b3,fun i hi=>(At.none_ hi).elim,?_,?_,Nat.le_refl _⟩
 ·rw [seenV_nil,←h6];exact SMap.new w5
 ·have h1:=hAo.lt hi;have h2:=u5.size;have h3:=u6.size;omega
 ·have h1:=h.bw;have h2:=u4.size;have h3:=u5.size;omega
 ·have h1:=h.bw;have h2:=u4.size;have h3:=u5.size;have h4:=u6.size;omega
end
theorem PvR.next {w2 wr:World} {B RB tb mb k:Nat} {r:Rl} {A:Option Addr} {n c:Nat} {OA:Option Addr} {on oc:Nat} {TA:Option Addr} {tn tc:Nat} {T:List (List Bool)} (h:PvR w2 wr B RB tb mb k r A n c OA on oc TA tn tc (lvls r k++(lvl r k).map fun b=>(k,b)) T) (hnd:T.Nodup) (hmem:∀x,x∈T↔k<64∧∃a∈lvl r k,x∈succsF r k a)
  (htn:tn≤300000) (hon:on≤4096) (hsf:k=64→∀b∈lvl r k,safeF r b=true):PvS w2 (wr.setCell ⟨RB,0,none⟩ (.slice TA tn tc)) B RB (k+1) r TA tn tc OA on oc T:=by
 have u:=updCell wr RB 0 (.slice TA tn tc);obtain ⟨_,ts_,hTo,_⟩:=h.thn;obtain ⟨hol,os_,hOo,_⟩:=h.out;have hl:lvls r (k+1)=lvls r k++(lvl r k).map fun b=>(k,b):=lvls_succ r k
 have d8:∀i z,Blk wr i 5 z→¬i=RB:=fun i z hb e=>by subst e;exact hb.ne_ h.row (by decide) rfl
 refine ⟨by simpa using h.row.set_ 0 (.slice TA tn tc),h.thn.u8 elRow u (fun i hi e=>by subst e;exact hTo.ne_blk h.row (by decide) hi) d8,?_,h.upd.trans u (fun i _ e=>by have:=h.b1;show B≤i;omega),h.b1,fun i hi=>by have h1:=h.b4 i hi;have h2:=h.b6;omega,h.b3,?_,fun hk=>⟨hnd,fun x=>?_⟩,htn,?_,fun e=>by
  have : k=64:=by omega
  subst this
  exact hsf rfl⟩
 ·rw [hl];exact h.out.u8 elAS u (fun i hi e=>by subst e;exact hOo.ne_blk h.row (by decide) hi) d8
 ·have h1:=h.b6;have h2:=u.size;omega
 ·rw [hmem,lvl_succ];constructor
  ·exact fun q=>q.2
  ·exact fun q=>⟨by omega,q⟩
 ·rw [hl];rw [List.length_map] at hol;omega
def PvP (r:Rl) (w:World) (e:Ending) (w':World):Prop :=
 Upd Non w w'∧((∃l OA on oc,autF r=some l∧e=.returned (.tuple #[.slice OA on oc,.bool true])∧ElO ElAS 2 122 w' (U8B w') OA on oc (l.map asE)∧∀i,At OA i→w.heap.size≤i)∨(autF r=none∧e=.returned (.tuple #[.slice none 0 0,.bool false])))
set_option maxRecDepth 100000 in
set_option maxHeartbeats 16000000 in
theorem aSafe_c {w:World} {F G:Nat→Prop} {m:Nat} {r:Rl} {a:RlA} {L R:Nat} {GA:Option Addr} {gc:Nat} {gs:List Nat} (hA:AU w F m r a L R GA gc gs)
  (hgn:gs.length≤1000000) (hgl:gs.length=(gposR r).length) (hgp:∀i (h1:i<gs.length) (h2:i<(gposR r).length),OpX w gs[i] (gposR r)[i].1 (gposR r)[i].2 2) (hn:stN r≤100000)
  {BA:Option Addr} {bc:Nat} {b:List Bool} (hB:Sl w G BA (b8s b)) (hbl:b.length=stN r) (hpl:∀q∈gposR r,q.2+1<b.length) :
  Calls Tryz.prog 71 #[pp m,.slice BA b.length bc] w fun e w'=>e=.returned (.bool (safeF r b))∧Upd Non w w':=by
 have hst:stN r=bN r.l+bN r.r+r.conds.length+1:=rfl;have hsp:=safe_pos (r:=r) (b:=b)
 have HC:∀i,i<b.length→∃bb bo,BA=some ⟨bb,bo,none⟩∧w.cell? ⟨bb,bo+i,none⟩=some (.int .u8 (bW (b.getD i false))):=fun i hi=>by
  obtain ⟨bb,bo,e,_,_,hc⟩:=hB.at_ (k:=i) (by rw [b8s_len];exact hi);refine ⟨bb,bo,e,?_⟩;rw [hc];have:=b8s_get hi;rw [List.getElem?_eq_getElem (by rw [b8s_len];exact hi)] at this;exact this
 obtain ⟨bb,bo,rfl,_⟩:=HC 0 (by omega)
 have HC2:Hid (∀i,i<b.length→w.cell? ⟨bb,bo+i,none⟩=some (.int .u8 (bW (b.getD i false)))):=fun i hi=>by
  obtain ⟨b',o',e,hc⟩:=HC i hi;injection e with e
  injection e with e1 e2
  subst e1 e2;exact hc
 obtain ⟨n,Hn⟩:=nm (stN r);rw [Hn.out] at hst hn hbl;obtain ⟨cn,hcn⟩:∃c,bN r.l+bN r.r=c:=⟨_,rfl⟩;rw [hcn] at hst hsp;obtain ⟨nc,Hnc⟩:=nm r.conds.length;rw [Hnc.out] at hst hsp;have hsz:=HC2.out (n - 1) (by omega);have hn1:n - 1=cn+nc:=by omega
 rw [hn1] at hsz;obtain ⟨mis,Hmis⟩:=nm (b.getD (cn+nc) false);rw [Hmis.out] at hsz hsp;have HSP:=h_ hsp;have x18:=hA.blk.cell 18;have HX17:=h_ (hA.blk.cell 17);have HX16:=h_ (hA.blk.cell 16);have HX11:=h_ (hA.blk.cell 11);rw [Hn.out] at x18;have q1:IntKind.i64.wrap ((n:Int) - 1)=(n:Int) - 1:=i64w_of (by unfold I64;omega);have q2:(0:Int)≤(n:Int) - 1:=by omega
 have q3:(n:Int) - 1<(n:Int):=by omega
 have q4:((n:Int) - 1).toNat=cn+nc:=by omega
 have q5:(1:Int)≤(n:Int):=by omega
 have b0:(bW false==0)=true:=rfl;have b1:(bW true==0)=false:=rfl;have HGS:=h_ hA.gds;have HGL:=h_ hgl;have HGP:=h_ hgp;have HPL:=h_ hpl;have HBL:=h_ hbl;rw [hbl];clear HC hB hA hgl hgp hpl hst hbl hsp;unfold pp
 cases mis with
 | false =>
  have HR:Hid (safeF r b=true):=by show _=_;rw [HSP.out,Bool.and_false];rfl
  go_enter Tryz.func71,Tryz.ntmps71;go_wp2_with fail
  go_ret;exact ⟨by rw [HR.out];rfl,Upd.refl⟩
 | true =>
  have HR:Hid (safeF r b=!((gposR r).all (gAt b)&&((b.drop cn).take nc).all id)):=by show _=_;rw [HSP.out,Bool.and_true]
  have x16:=HX16.out;obtain ⟨gn,Hgn⟩:=nm gs.length;rw [Hgn.out] at x16 hgn;go_enter Tryz.func71,Tryz.ntmps71;go_wp2_with fail
  go_loopg [6,22] gn (fun gg _ i wr=>∃j:Nat,Hid (gg=gn - j)∧j≤gn∧i=.int .i64 j∧Hid (((gposR r).take j).all (gAt b)=true)∧Hid (Upd Non w wr))
  case atStart=>exact ⟨0,rfl,by omega,rfl,rfl,Upd.refl⟩
  case round =>
   obtain ⟨j,Hg,hj,rfl,HT,HU⟩:=hrel;by_cases hlt:j<gn
   ·have hjl:j<gs.length:=by rw [Hgn.out];exact hlt
    have hjq:j<(gposR r).length:=by rw [←HGL.out];exact hjl
    obtain ⟨v,imm,iv,KK,CC,hxb⟩:=(HGP.out j hjl hjq).blk;have hq:=HPL.out _ (List.getElem_mem hjq);have htk:((gposR r).take (j+1)).all (gAt b)=gAt b (gposR r)[j]:=by rw [List.take_succ_eq_append_getElem hjq,List.all_append,HT.out];simp
    have hno:gAt b (gposR r)[j]=false→(gposR r).all (gAt b)=false:=fun e=>by
     rw [Bool.eq_false_iff];intro q;rw [List.all_eq_true] at q;rw [q _ (List.getElem_mem hjq)] at e;cases e
    obtain ⟨cb,co,eC,_,_,hcc⟩:=(HGS.out.upd HU.out (fun _ _ _ f=>f)).at_ (k:=j) (by rw [List.length_map];exact hjl);rw [List.getElem_map] at hcc;generalize (gposR r)[j]=q at *;generalize gs[j]=y at *;obtain ⟨op,at_⟩:=q;have hxr:=hxb.upd HU.out (fun f=>f);have y1:=hxr.cell 1;have y6:=hxr.cell 6;have ca:=u_ (HC2.out at_ (by show at_<_;have : at_+1<b.length:=hq;omega)) HU.out (fun f=>f);have cb1:=u_ (HC2.out (at_+1) hq) HU.out (fun f=>f)
    have hgA:gAt b (op,at_)=!((b.getD at_ false==b.getD (at_+1) false)==decide (op=16)):=by
     unfold gAt;by_cases h16:op=16
     ·rw [if_pos h16,dT_ h16];cases b.getD at_ false <;> cases b.getD (at_+1) false <;> rfl
     ·rw [if_neg h16,dF_ h16];cases b.getD at_ false <;> cases b.getD (at_+1) false <;> rfl
    obtain ⟨g0,Hg0⟩:=nm (b.getD at_ false);obtain ⟨g1,Hg1⟩:=nm (b.getD (at_+1) false);rw [Hg0.out] at ca hgA;rw [Hg1.out] at cb1 hgA;rw [hgA] at htk hno;have te:(bW g0==bW g1)=(g0==g1):=by cases g0 <;> cases g1 <;> rfl
    have tq:(op==16)=decide (op=16):=by rw [Bool.eq_iff_iff];simp
    rw [←te,←tq] at htk hno;obtain ⟨e1,he1⟩:∃e,(bW g0==bW g1)=e:=⟨_,rfl⟩;obtain ⟨o1,ho1⟩:∃e,(op==16)=e:=⟨_,rfl⟩;obtain ⟨d,hd⟩:∃e,(e1==o1)=e:=⟨_,rfl⟩;rw [he1,ho1,hd] at htk hno;have hatn:at_+1<n:=by rw [←HBL.out];exact hq
    have ai0:(0:Int)≤(at_:Int):=by omega
    have ai1:(at_:Int)<(n:Int):=by omega
    have r1:IntKind.i64.wrap ((at_:Int)+1)=(at_:Int)+1:=i64w_of (by unfold I64;omega);have r2:(0:Int)≤(at_:Int)+1:=by omega
    have r3:(at_:Int)+1<(n:Int):=by omega
    have r4:((at_:Int)+1).toNat=at_+1:=by omega
    have HTK:=h_ htk;have HNO:=h_ hno;unfold pp at hcc;have j0:(0:Int)≤(j:Int):=by omega
    have jn:(j:Int)<(gn:Int):=by omega
    subst eC;clear htk hno te tq hgA hxb hxr hq hjl hjq
    cases d with
    | true =>
     have HR2:Hid (safeF r b=true):=by show _=_;rw [HR.out,HNO.out rfl];rfl
     go_wp2_with fail
     refine wp_region_held_drew (S:=fun w'=>w'.cell? ⟨y,6,none⟩=some (.int .i64 (at_:Int))∧w'.cell? ⟨y,1,none⟩=some (.int .i64 op)∧w'.cell? ⟨bb,bo+at_,none⟩=some (.int .u8 (bW g0))∧w'.cell? ⟨bb,bo+(at_+1),none⟩=some (.int .u8 (bW g1))) (by kernel_rfl) ⟨y6,y1,ca,cb1⟩ (fun hHeld=>?_)
     refine wpT 0 ?_;(try simp only [y_,z_]);refine wpT 1 ?_;(try simp only [y_,z_]);refine wpT 2 ?_;(try simp only [y_,z_]);refine wpT 3 ?_;(try simp only [y_,z_]);refine wpT 4 ?_;(try simp only [y_,z_]);refine wpT 5 ?_;(try simp only [y_,z_]);refine wpT 6 ?_;(try simp only [y_,z_]);refine wpT 7 ?_;(try simp only [y_,z_]);refine wpT 8 ?_;(try simp only [y_,z_]);refine wpT 9 ?_;(try simp only [y_,z_]);refine wpT 10 ?_;(try simp only [y_,z_]);refine wpT 11 ?_;(try simp only [y_,z_]);refine wpT 12 ?_;(try simp only [y_,z_]);refine wpT 13 ?_;(try simp only [y_,z_]);refine wpT 14 ?_;(try simp only [y_,z_]);refine wpT 15 ?_;(try simp only [y_,z_]);refine wpT 16 ?_;(try simp only [y_,z_]);refine wpT 17 ?_;(try simp only [y_,z_]);refine wpT 18 ?_;(try simp only [y_,z_]);refine wpT 19 ?_;(try simp only [y_,z_]);refine wpT 20 ?_;(try simp only [y_,z_]);refine wpT 21 ?_;(try simp only [y_,z_]);refine wpT 22 ?_;(try simp only [y_,z_]);refine aD_ (by kernel_rfl) ?_ _;go_wp2_with fail
     go_ret;exact ⟨by rw [HR2.out];rfl,HU.out.drewN 1⟩
    | false =>
     go_wp2_with fail
     refine wp_region_held_drew (S:=fun w'=>w'.cell? ⟨y,6,none⟩=some (.int .i64 (at_:Int))∧w'.cell? ⟨y,1,none⟩=some (.int .i64 op)∧w'.cell? ⟨bb,bo+at_,none⟩=some (.int .u8 (bW g0))∧w'.cell? ⟨bb,bo+(at_+1),none⟩=some (.int .u8 (bW g1))) (by kernel_rfl) ⟨y6,y1,ca,cb1⟩ (fun hHeld=>?_)
     refine wpT 0 ?_;(try simp only [y_,z_]);refine wpT 1 ?_;(try simp only [y_,z_]);refine wpT 2 ?_;(try simp only [y_,z_]);refine wpT 3 ?_;(try simp only [y_,z_]);refine wpT 4 ?_;(try simp only [y_,z_]);refine wpT 5 ?_;(try simp only [y_,z_]);refine wpT 6 ?_;(try simp only [y_,z_]);refine wpT 7 ?_;(try simp only [y_,z_]);refine wpT 8 ?_;(try simp only [y_,z_]);refine wpT 9 ?_;(try simp only [y_,z_]);refine wpT 10 ?_;(try simp only [y_,z_]);refine wpT 11 ?_;(try simp only [y_,z_]);refine wpT 12 ?_;(try simp only [y_,z_]);refine wpT 13 ?_;(try simp only [y_,z_]);refine wpT 14 ?_;(try simp only [y_,z_]);refine wpT 15 ?_;(try simp only [y_,z_]);refine wpT 16 ?_;(try simp only [y_,z_]);refine wpT 17 ?_;(try simp only [y_,z_]);refine wpT 18 ?_;(try simp only [y_,z_]);refine wpT 19 ?_;(try simp only [y_,z_]);refine wpT 20 ?_;(try simp only [y_,z_]);refine wpT 21 ?_;(try simp only [y_,z_]);refine wpT 22 ?_;(try simp only [y_,z_]);refine aD_ (by kernel_rfl) ?_ _;go_wp2_with fail
     go_roundg (gn - (j+1))
     case measure=>rw [Hg.out];omega
     case rel=>exact ⟨j+1,rfl,by omega,by go_num,HTK.out,HU.out.drewN 1⟩
   ·obtain rfl:gn=j:=by omega
    have hall:(gposR r).all (gAt b)=true:=by have:=HT.out;rw [List.take_of_length_le (by rw [←HGL.out,Hgn.out];exact Nat.le_refl _)] at this;exact this
    have HR2:Hid (safeF r b=!((b.drop cn).take nc).all id):=by show _=_;rw [HR.out,hall,Bool.true_and]
    have x11:=u_ HX11.out HU.out (fun f=>f);have x17:=u_ HX17.out HU.out (fun f=>f);rw [Hnc.out] at x11;rw [hcn] at x17;have HC3:Hid (∀i,i<b.length→wr.cell? ⟨bb,bo+i,none⟩=some (.int .u8 (bW (b.getD i false)))):=fun i hi=>u_ (HC2.out i hi) HU.out (fun f=>f)
    clear hall;go_wp2_with fail
    go_loopg [7,56] nc (fun gg _ i w2=>∃j:Nat,Hid (gg=nc - j)∧j≤nc∧i=.int .i64 j∧Hid (((b.drop cn).take j).all id=true)∧w2=wr)
    case atStart=>exact ⟨0,rfl,by omega,rfl,rfl,rfl⟩
    case round =>
     obtain ⟨j,Hg2,hj2,rfl,HT2,rfl⟩:=hrel;by_cases hlt2:j<nc
     ·have hjb:cn+j<b.length:=by rw [HBL.out];omega
      have cj:=HC3.out (cn+j) hjb
      have hsn:(b.drop cn).take (j+1)=(b.drop cn).take j++[b.getD (cn+j) false]:=by
       rw [List.take_succ_eq_append_getElem (by rw [List.length_drop];omega),List.getElem_drop,List.getD_eq_getElem?_getD,List.getElem?_eq_getElem hjb];rfl
      have hmem:b.getD (cn+j) false∈(b.drop cn).take nc:=by
       have h1:((b.drop cn).take nc)[j]?=some (b.getD (cn+j) false):=by
        rw [List.getElem?_take,if_pos hlt2,List.getElem?_drop,List.getElem?_eq_getElem hjb,List.getD_eq_getElem?_getD,List.getElem?_eq_getElem hjb];rfl
       exact List.mem_of_getElem? h1
      have HT3:Hid (b.getD (cn+j) false=true→((b.drop cn).take (j+1)).all id=true):=fun e=>by rw [hsn,List.all_append,HT2.out,e];rfl
      have HT4:Hid (b.getD (cn+j) false=false→((b.drop cn).take nc).all id=false):=fun e=>by
       rw [Bool.eq_false_iff];intro q;rw [List.all_eq_true] at q;have:=q _ hmem;rw [e] at this;cases this
      obtain ⟨cv,Hcv⟩:=nm (b.getD (cn+j) false);rw [Hcv.out] at cj HT3 HT4;have j0:(0:Int)≤(j:Int):=by omega
      have jn:(j:Int)<(nc:Int):=by omega
      have s1:IntKind.i64.wrap ((cn:Int)+(j:Int))=(cn:Int)+(j:Int):=i64w_of (by unfold I64;omega);have s2:(0:Int)≤(cn:Int)+(j:Int):=by omega
      have s3:(cn:Int)+(j:Int)<(n:Int):=by omega
      have s4:((cn:Int)+(j:Int)).toNat=cn+j:=by omega
      clear hsn hmem hjb s1
      cases cv with
      | false =>
       have HR3:Hid (safeF r b=true):=by show _=_;rw [HR2.out,HT4.out rfl];rfl
       go_wp2_with fail
       go_ret;exact ⟨by rw [HR3.out];rfl,HU.out⟩
      | true =>
       have HT5:=h_ (HT3.out rfl);clear HT3 HT4;go_wp2_with fail
       go_roundg (nc - (j+1))
       case measure=>rw [Hg2.out];omega
       case rel=>exact ⟨j+1,rfl,by omega,by go_num,HT5.out,rfl⟩
     ·obtain rfl:nc=j:=by omega
      have HR3:Hid (safeF r b=false):=by show _=_;rw [HR2.out,HT2.out];rfl
      go_wp2_with fail
      go_ret;exact ⟨by rw [HR3.out];rfl,HU.out⟩
theorem gR6_of {r:Rl} (h:applF r=true):gR r≤6∧implF r=true∧r.imms=0:=by
 unfold applF at h;simp only [Bool.and_eq_true,decide_eq_true_eq] at h;exact ⟨h.1.2,h.1.1.1.1.1,h.1.1.1.1.2⟩
theorem AU.upd {w w':World} {S F G:Nat→Prop} {m:Nat} {r:Rl} {a:RlA} {L R:Nat} {GA:Option Addr} {gc:Nat} {gs:List Nat} (h:AU w F m r a L R GA gc gs) (u:Upd S w w') (d:∀i,i<w.heap.size→F i→¬S i) (hG:∀i,i<w.heap.size→F i→G i):AU w' G m r a L R GA gc gs:=by
 obtain ⟨a1,a2,a3,a4,a5,a6⟩:=h;have hm:=a1.lt;exact ⟨a1.upd u (d m hm a2),hG m hm a2,(a3.mono (G:=fun i=>F i∧G i) (fun i hi q=>⟨q,hG i hi q⟩)).upd u (fun i hi q=>d i hi q.1) |>.mono (fun _ _ q=>q.2),OsT.upd u d hG _ _ _ a4,OsT.upd u d hG _ _ _ a5,(a6.mono (G:=fun i=>F i∧G i) (fun i hi q=>⟨q,hG i hi q⟩)).upd u (fun i hi q=>d i hi q.1) |>.mono (fun _ _ q=>q.2)⟩
theorem sl8_upd {w w':World} {S:Nat→Prop} {A RA:Option Addr} {cs:List Value} (h:Sl w (fun i=>U8B w i∧¬At A i) RA cs) (u:Upd S w w') (d8:∀i z,Blk w i 5 z→¬S i):Sl w' (fun i=>U8B w' i∧¬At A i) RA cs:=by
 have d:∀i,i<w.heap.size→U8B w i∧¬At A i→¬S i:=fun i _ q=>by obtain ⟨z,hb⟩:=q.1;exact d8 i z hb
 refine (h.mono (G:=fun i=>(U8B w i∧¬At A i)∧U8B w' i) (fun i hi q=>⟨q,q.1.upd u (d i hi q)⟩)).upd u (fun i hi q=>d i hi q.1) |>.mono (fun i _ q=>⟨q.2,q.1.2⟩)
set_option maxRecDepth 100000 in
set_option maxHeartbeats 16000000 in
theorem aProve_c (r:Rl) (a:RlA) (F:Nat→Prop) (w:World) (hk:RlK w F r a) (hz:RlSz r) :
  Calls Tryz.prog 34 #[rlv r a] w fun e w'=>PvP r w e w':=by
 obtain ⟨W,HW⟩:=nm (w.alloc (.cells (rlCells r a) 41));have hU:Upd Non w W:=by rw [←HW.out];exact Upd.refl.alloc _
 obtain ⟨rb,hrb⟩:∃b,w.heap.size=b:=⟨_,rfl⟩;have hb:Blk W rb 41 (rlCells r a):=by rw [←HW.out,←hrb];exact Blk.new _ _ _
 have e0:=HW.out;have hK:=(hk.mono (G:=fun k=>k<w.heap.size) (fun _ h _=>h)).upd hU (fun _ _ _ f=>f);have hc0:=rl_cells hb;obtain ⟨c0,c1,c2,c3,c4,c5,c6,c7,c8,c9,c10,c11,c12,c13⟩:=hc0;have CB:=h_ (aBuild_c r a _ W hK hz);have HU:=h_ hU;have HRB:Hid (rb<W.heap.size):=hb.lt;clear hk hz hK hb hU;unfold rlv at CB ⊢;unfold rlCells at CB e0 ⊢;go_enter Tryz.func34,Tryz.ntmps34;go_wp2_with fail
 refine CB.out.mono ?_;rintro e w2 ⟨v,rfl,u2,hB⟩;obtain ⟨ap,Hap⟩:=nm (applF r);rw [Hap.out] at hB ⊢;have HU2:=h_ (HU.out.then_non u2);have c12':=u_ c12 u2 (fun f=>f);have HRB2:Hid (rb<w2.heap.size):=Nat.lt_of_lt_of_le HRB.out u2.size;clear c0 c1 c2 c3 c4 c5 c6 c7 c8 c9 c10 c11 c12 c13 u2 e0 CB
 cases ap with
 | false =>
  clear hB;go_wp2_with fail
  go_ret2;exact ⟨HU2.out,.inr ⟨autF_not Hap.out,rfl⟩⟩
 | true =>
  obtain ⟨m,L,R,GA,gc,gs,rfl,hm,hA,hG⟩:=hB rfl;have hap:=Hap.out;obtain ⟨hg6,him,_⟩:=gR6_of hap;have hi:=imok_of him;have hr:=nxok_of hap;have hst:=stN_le hi;have HST:=h_ hst;have CI:=h_ (aInitStates_c hA hG hr (by omega) hg6 hi.cn);have HA:=h_ (hA.upd (S:=Non) (G:=fun i=>i<w2.heap.size) Upd.refl (fun _ _ _ f=>f) (fun i h _=>h));have HG:=h_ hG;have HR:=h_ hr;have HI:=h_ hi;obtain ⟨vn,hvn⟩:∃n:Nat,r.vars=(n:Int):=⟨r.vars.toNat,by have:=hi.v0;omega⟩;rw [hvn] at c12';have HVN:Hid (r.vars.toNat=vn):=by show _=_;omega
  have hv6:vn≤6:=by have:=hi.v6;omega
  obtain ⟨H,HH⟩:=nm (2 ^ vn);have hH:H≤64:=by rw [←HH.out];exact Nat.le_trans (Nat.pow_le_pow_right (by decide) hv6) (by decide)
  have hsh:wrap64 ((2:Int) ^ vn)=(H:Int):=by
   have e:((2:Int) ^ vn)=((2 ^ vn:Nat):Int):=by push_cast;rfl
   rw [e,HH.out];exact wrap64_of (by unfold I64;omega)
  obtain ⟨sn,Hsn⟩:=nm (stN r);have hsn:sn≤4000:=by rw [←Hsn.out];exact hst
  clear hvn hst;clear hA hG hr hB hap him;unfold pp at CI ⊢;go_wp2_with fail
  refine CI.out.mono ?_;rintro e w3 ⟨A0,c0,rfl,hE0,hA0,u3⟩;obtain ⟨n0,Hn0⟩:=nm (2 ^ gR r);rw [Hn0.out] at hE0 ⊢;have hn0:n0≤64:=by rw [←Hn0.out];exact Nat.le_trans (Nat.pow_le_pow_right (by decide) hg6) (by decide)
  obtain ⟨W4,HW4⟩:=nm (w3.alloc (.cells #[.slice A0 n0 c0] 118));obtain ⟨RB,hRB⟩:∃b,w3.heap.size=b:=⟨_,rfl⟩;have u4:Upd Non w3 W4:=by rw [←HW4.out];exact Upd.refl.alloc _
  have hrow:Blk W4 RB 118 #[.slice A0 n0 c0]:=by rw [←HW4.out,←hRB];exact Blk.new _ _ _
  obtain ⟨B,hBB⟩:∃b,w2.heap.size=b:=⟨_,rfl⟩;have h23:=u3.size;have h34:=u4.size
  have hS:PvS w2 W4 B RB 0 r A0 n0 c0 none 0 0 (initsF r):=by
   refine ⟨hrow,hE0.u8 elRow u4 (fun _ _ f=>f) (fun _ _ _ f=>f),ElO.none_,(u3.then_non u4).mono (fun _ _ f=>f.elim),by omega,fun i hi=>by have:=hA0 i hi;omega,fun i hi=>(At.none_ hi).elim,by omega,fun _=>⟨initsF_nodup r,fun x=>lvl_init.symm⟩,by omega,(show ([]:List (Nat×List Bool)).length≤4096 by decide),fun h=>by omega⟩
  have HS:=h_ hS;have hR4:W4.cell? ⟨RB,0,none⟩=some (.slice A0 n0 c0):=hrow.cell 0;have e4:=HW4.out;clear hS hrow hE0 hA0 u3 u4 CI;go_wp2_with fail
  go_loopg [6,8,9,10,12,13,14,35] 65 (fun gg s6 s8 _ _ _ _ _ _ wr=>∃(k:Nat) (A:Option Addr) (n c:Nat) (OA:Option Addr) (on oc:Nat) (T:List (List Bool)),Hid (gg=65 - k)∧k≤65∧s8=.int .i64 k∧s6=.slice OA on oc∧Hid (PvS w2 wr B RB k r A n c OA on oc T))
  case atStart=>exact ⟨0,A0,n0,c0,none,0,0,initsF r,rfl,by omega,rfl,rfl,HS.out⟩
  case round =>
   clear HS hR4 e4 hn0;obtain ⟨k,A,n,c,OA,on,oc,T,Hg,hk,rfl,rfl,HS⟩:=hrel;by_cases hlt:k<65
   ·have hrc:=HS.out.row.cell 0;have hk0:decide ((k:Int)≤64)=true:=dT_ (by omega)
    have CS:=h_ (aSort_c HS.out.el hrc (fun z=>by
     obtain ⟨_,cs_,hAo,_⟩:=HS.out.el
     exact hAo.ne_blk HS.out.row (by decide) z) (by have:=HS.out.tn;omega))
    go_wp2_with fail
    refine CS.out.mono ?_;rintro e w5 ⟨rfl,L',hp,hs,he,u5⟩;obtain ⟨w6,H6⟩:=nm (w5.alloc (.map #[] 0));have hR6:=HS.out.sorted (by omega) Upd.refl hp hs he u5 H6.out;obtain ⟨mb,hmb⟩:∃b,w5.heap.size=b:=⟨_,rfl⟩;obtain ⟨tb,htb⟩:∃b,w6.heap.size=b:=⟨_,rfl⟩;rw [hmb,htb] at hR6;have HR6:=h_ hR6;have hnl:n=(lvl r k).length:=by have:=hR6.el.1;rw [List.length_map] at this;exact this
    have HNL:=h_ hnl;have hon0:on≤4096:=by have h1:=HS.out.out.1;rw [List.length_map] at h1;have h2:=HS.out.le;omega
    have hrow6:=hR6.row.cell 0;have hmm:=@run_makeMap Tryz.prog;have e6:=H6.out;have htn0:=HS.out.tn;clear hR6 hp hs he u5 CS hnl hrc hk0;go_wp2_with fail
    go_loopg [6,10,12,13,14,35] n (fun gg s6 s10 _ _ _ s35 wr=>∃(j:Nat) (OA:Option Addr) (on oc:Nat) (TA:Option Addr) (tn tc:Nat) (T:List (List Bool)),Hid (gg=n - j)∧j≤n∧s35=.int .i64 j∧s6=.slice OA on oc∧s10=.slice TA tn tc∧Hid (PvR w2 wr B RB tb mb k r A n c OA on oc TA tn tc (lvls r k++((lvl r k).take j).map fun b=>(k,b)) T)∧Hid (T.Nodup∧∀x,x∈T↔k<64∧∃a∈(lvl r k).take j,x∈succsF r k a)∧tn≤j * 64∧on≤4096∧Hid (k=64→∀b∈(lvl r k).take j,safeF r b=true))
    case atStart=>exact ⟨0,OA,on,oc,none,0,0,[],rfl,by omega,rfl,rfl,rfl,by rw [List.take_zero,List.map_nil,List.append_nil];exact HR6.out,⟨List.nodup_nil,fun x=>by rw [List.take_zero];simp⟩,by omega,hon0,fun _ b hb=>by rw [List.take_zero] at hb;cases hb⟩
    case round =>
     clear HS HR6 e6 hrow6 hon0 hmm hmb htb;obtain ⟨j,OA,on,oc,TA,tn,tc,T,Hg2,hj,rfl,rfl,rfl,HRr,HT,htn,hon,HSF⟩:=hrel;obtain ⟨wj,rfl⟩:∃x:World,x=wr:=⟨_,rfl⟩;by_cases hjn:j<n
     ·have hjl:j<(lvl r k).length:=by rw [←HNL.out];exact hjn
      obtain ⟨g,RA,rc,rfl,hcell,hrc,hsl⟩:=rows_at HRr.out.el (i:=j) (by rw [List.length_map];exact hjl);rw [List.getElem_map] at hcell hrc hsl;have hbm:=List.getElem_mem hjl;have htk:=List.take_succ_eq_append_getElem hjl;generalize (lvl r k)[j]=b at *;have hsup:=applF_sup Hap.out;have hbl:b.length=sn:=by rw [←Hsn.out];exact lvl_len hsup.1 hsup.2 k b hbm
      have hbb:(bbs b).length=sn:=by unfold bbs;rw [List.length_map,hbl]
      rw [hbb] at hcell hrc;obtain ⟨hoL,cs,hoO,hcO⟩:=HRr.out.out;have HCO:=h_ hcO;have HOO:=h_ hoO;have HSL:=h_ hsl;have HBM:=h_ hbm;have HTK:Hid ((lvl r k).take (j+1)=(lvl r k).take j++[b]):=htk;have HBL:=h_ hbl;have HRC:=h_ hrc;have hj0:(0:Int)≤(j:Int):=by omega
      have hjn':(j:Int)<(n:Int):=by omega
      have HADD:Hid (∀{w3 w4:World} (u3:Upd Non wj w3) {OA':Option Addr} {oc':Nat} (ho:Own w4 122 2 OA' (on+1) oc' (cs++[.int .i64 (k:Int),.slice RA sn rc])) (u4:Upd (At OA) w3 w4) (hat:∀i,At OA' i→At OA i∨i=w3.heap.size),PvR w2 w4 B RB tb mb k r (some ⟨g,0,none⟩) n c OA' (on+1) oc' TA tn tc (lvls r k++((lvl r k).take (j+1)).map fun b=>(k,b)) T):=fun u3 _ _ ho u4 hat=>by
       have:=HRr.out.addO (x:=(k,b)) u3 HOO.out HCO.out (by rw [HBL.out];exact HRC.out) HSL.out (by show Own _ _ _ _ _ _ (cs++[.int .i64 (k:Int),.slice RA b.length rc]);rw [HBL.out];exact ho) u4 hat
       rw [HTK.out,List.map_append,←List.append_assoc];exact this
      have HNO:Hid (autF r=none→∀w',Upd (B≤·) w2 w'→PvP r w (.returned (.tuple #[.slice none 0 0,.bool false])) w'):=fun h w' uu=>⟨HU2.out.trans uu (fun i hi q=>by have h1:=HU2.out.size;have : B≤i:=q;omega),.inr ⟨h,rfl⟩⟩
      have HOL:Hid (on=(lvls r k++((lvl r k).take j).map fun b=>(k,b)).length):=by show _=_;rw [hoL,List.length_map]
      clear hcO hoL hsl hbm htk hbl hbb hrc hsup hjl
      have hlen1:(lvls r k++((lvl r k).take (j+1)).map fun b=>(k,b)).length=on+1:=by
       have:=HOL.out;rw [HTK.out,List.map_append,←List.append_assoc,List.length_append,←this];rfl
      have HLN:=h_ hlen1;clear hlen1;have hk64:k≤64:=by omega
      by_cases hlong:4096<on+1
      ·have tl:decide ((on:Int)+1 > 4096)=true:=dT_ (by omega)
       go_wp2_with (at_builtin;refine wpList_app rfl rfl T_AStates rfl (hoO.alloc _) rfl (Sl.new _ _ _) rfl (by simp [Value.oneCell']) (by simp only [maxLen];omega) (by omega) ?_;intro A8 c8 w8 ho8 hu8 hat8)
       go_ret2;refine HNO.out (autF_long hk64 (P:=lvls r k++((lvl r k).take (j+1)).map fun b=>(k,b)) ?_ (by rw [HLN.out];exact hlong)) _ (HADD.out (Upd.refl.alloc _) ho8 hu8 hat8).upd
       rw [lvls_succ];exact List.Sublist.append_left ((List.take_sublist _ _).map _) _
      ·have tl:decide ((on:Int)+1 > 4096)=false:=dF_ (by omega);by_cases h64:k=64
       ·subst h64;have t64:((64:Nat):Int)==64:=by decide
        go_wp2_with (at_builtin;refine wpList_app rfl rfl T_AStates rfl (hoO.alloc _) rfl (Sl.new _ _ _) rfl (by simp [Value.oneCell']) (by simp only [maxLen];omega) (by omega) ?_;intro A8 c8 w8 ho8 hu8 hat8)
        have hR8:=HADD.out (Upd.refl.alloc _) ho8 hu8 hat8;have HR8:=h_ hR8;have hA8:=HA.out.upd (G:=fun i=>i<w2.heap.size) hR8.upd (fun i _ hi q=>by have : B≤i:=q;omega) (fun _ _ q=>q);have hG8:=HG.out.upd hR8.upd (fun i z hb q=>by have h1:=hb.lt;have : B≤i:=q;omega)
        have hs8:Sl w8 (fun i=>U8B w8 i∧¬At (some ⟨g,0,none⟩) i) RA (b8s b):=by
         rw [b8s_u8s];exact sl8_upd (sl8_upd HSL.out (Upd.refl.alloc (S:=Non) (.cells #[.int .i64 64,.slice RA sn rc] 122)) (fun _ _ _ f=>f)) hu8 (fun i z hb=>(HOO.out.alloc _).ne_blk hb (by decide))
        have CS:=h_ (aSafe_c (bc:=rc) hA8 (by have:=hG8.1;rw [gposR_len] at this;have:=(gR6_of Hap.out).1;omega) hG8.1 hG8.2 (by rw [Hsn.out];omega) hs8 (by rw [HBL.out,Hsn.out]) (fun q hq=>by rw [HBL.out,←Hsn.out];exact gposR_lt q hq))
        rw [HBL.out] at CS;unfold pp at CS;obtain ⟨sf,Hsf⟩:=nm (safeF r b);rw [Hsf.out] at CS;clear hR8 hA8 hG8 hs8 ho8 hu8 hat8;go_wp2_with fail
        refine CS.out.mono ?_;rintro e w9 ⟨rfl,uu9⟩;have HR9:=h_ (HR8.out.non uu9)
        cases sf with
        | false =>
         go_wp2_with fail
         go_ret2;exact HNO.out (autF_bad HBM.out Hsf.out) _ HR9.out.upd
        | true =>
         have HSF2:Hid (∀b'∈(lvl r 64).take (j+1),safeF r b'=true):=fun b' hb'=>by
          rw [HTK.out,List.mem_append,List.mem_singleton] at hb';rcases hb' with hb' | rfl
          ·exact HSF.out (by first | rfl | trivial) b' hb'
          ·exact Hsf.out
         have HT2:Hid (T.Nodup∧∀x,x∈T↔64<64∧∃a∈(lvl r 64).take (j+1),x∈succsF r 64 a):=⟨HT.out.1,fun x=>by rw [HT.out.2 x];constructor <;> (intro q;have:=q.1;omega)⟩
         go_wp2_with fail
         go_loopg [10,13,14] 0 (fun _ s10 s13 _ wr=>s10=.slice TA tn tc∧s13=.int .i64 0∧wr=w9)
         case atStart=>exact ⟨rfl,rfl,rfl⟩
         case round =>
          obtain ⟨rfl,rfl,rfl⟩:=hrel;go_wp2_with fail
          go_roundg (n - (j+1))
          case measure=>rw [Hg2.out];omega
          case rel=>exact ⟨j+1,A8,on+1,c8,TA,tn,tc,T,rfl,by omega,by go_num,rfl,rfl,HR9.out,HT2.out,by omega,by omega,fun _=>HSF2.out⟩
       ·have t64:((k:Int)==64)=false:=by simp;omega
        go_wp2_with (at_builtin;refine wpList_app rfl rfl T_AStates rfl (hoO.alloc _) rfl (Sl.new _ _ _) rfl (by simp [Value.oneCell']) (by simp only [maxLen];omega) (by omega) ?_;intro A8 c8 w8 ho8 hu8 hat8)
        have hR8:=HADD.out (Upd.refl.alloc _) ho8 hu8 hat8;have HR8:=h_ hR8;have HS8:Hid (Sl w8 (fun i=>U8B w8 i∧¬At (some ⟨g,0,none⟩) i) RA (u8s (bbs b))):=sl8_upd (sl8_upd HSL.out (Upd.refl.alloc (S:=Non) (.cells #[.int .i64 (k:Int),.slice RA sn rc] 122)) (fun _ _ _ f=>f)) hu8 (fun i z hb=>(HOO.out.alloc _).ne_blk hb (by decide))
        obtain ⟨O2,HO2⟩:=nm (lvls r k++((lvl r k).take (j+1)).map fun b=>(k,b));rw [HO2.out] at HR8;clear hR8 ho8 hu8 hat8 HADD HSL HOO HCO hoO hcell;have hklt:k<64:=by omega
        have t3:decide ((k:Int)<64)=true:=dT_ (by omega)
        go_loopg [10,13,14] H (fun gg s10 s13 _ wr=>∃(h:Nat) (TA:Option Addr) (tn tc:Nat) (T2:List (List Bool)),Hid (gg=H - h)∧h≤H∧s13=.int .i64 h∧s10=.slice TA tn tc∧Hid (PvR w2 wr B RB tb mb k r (some ⟨g,0,none⟩) n c A8 (on+1) c8 TA tn tc O2 T2)∧Hid (Sl wr (fun i=>U8B wr i∧¬At (some ⟨g,0,none⟩) i) RA (u8s (bbs b)))∧Hid (T2.Nodup∧∀x,x∈T2↔(∃a∈(lvl r k).take j,x∈succsF r k a)∨x∈(succsF r k b).take h)∧tn≤j * 64+h)
        case atStart=>exact ⟨0,TA,tn,tc,T,rfl,by omega,rfl,rfl,HR8.out,HS8.out,⟨HT.out.1,fun x=>by rw [HT.out.2 x,List.take_zero];simp [hklt]⟩,by omega⟩
        case round =>
         clear HS8 HR8 HRr;obtain ⟨h,TA,tn,tc,T2,Hg3,hh,rfl,rfl,HRh,HSh,HT2,htn2⟩:=hrel;obtain ⟨wh,rfl⟩:∃x:World,x=wr:=⟨_,rfl⟩;have cv:=u_ c12' HRh.out.upd (by have:=HRB2.out;omega);by_cases hlth:h<H
         ·have th:(h:Int)<(H:Int):=by omega
          have hAh:=HA.out.upd (G:=fun i=>i<w2.heap.size) HRh.out.upd (fun i _ hi q=>by have : B≤i:=q;omega) (fun _ _ q=>q);have hsh8:=HSh.out;rw [←b8s_u8s] at hsh8;have CN:=h_ (aNext_c (bc:=rc) (k:=k) (h:=h) hAh HR.out (by rw [Hsn.out];omega) hsh8 (by rw [HBL.out,Hsn.out]) (by rw [HBL.out];exact HRC.out) hklt (by omega))
          rw [HBL.out,Hsn.out] at CN;unfold pp at CN;clear hAh hsh8;go_wp2_with fail
          refine CN.out.mono ?_;rintro e w9 ⟨AX,cX,rfl,hoX,hatX,uX⟩;have hsn0:0<sn:=by rw [←Hsn.out];unfold stN;omega
          obtain ⟨q,rfl⟩:=hoX.some_ hsn0;have hqh:wh.heap.size≤q:=hatX q (At.some_.2 rfl);have HR9:=h_ (HRh.out.non uX);obtain ⟨x,Hx⟩:=nm (succF k h.testBit r b);rw [Hx.out] at hoX;have hsup:=applF_sup Hap.out;have hxl:x.length=sn:=by rw [←Hx.out,←Hsn.out];exact succF_len hsup.1 hsup.2 k _ (by rw [HBL.out,Hsn.out])
          have hxb:(bbs x).length=sn:=by unfold bbs;rw [List.length_map,hxl]
          have hcv:=run_rowstr (n:=sn) (c:=cX) (l:=bbs x) (by have:=hoX.sl;rw [b8s_u8s] at this;exact this) hxb.symm;have hlk:=SMap.look1 (P:=Tryz.prog) (t:=87) Tryz.underlying87 Tryz.underlying9 (z:=.bool false) (by kernel_rfl) HR9.out.seen (kstr (bbs x));rw [seenV_get] at hlk;have HSX:=h_ (sl8_upd HSh.out uX (fun _ _ _ f=>f))
          have HTK3:Hid ((succsF r k b).take (h+1)=(succsF r k b).take h++[x]):=by
           show _=_;have hl:h<(succsF r k b).length:=by rw [succsF_len,HVN.out,HH.out];exact hlth
           rw [List.take_succ_eq_append_getElem hl,←Hx.out]
           congr 2
           simp [succsF]
          have HOX:=h_ hoX;have HXL:=h_ hxl;clear hxl hxb hsup hoX uX hatX CN;by_cases hin:x∈T2
          ·have HT3:Hid (T2.Nodup∧∀y,y∈T2↔(∃a∈(lvl r k).take j,y∈succsF r k a)∨y∈(succsF r k b).take (h+1)):=⟨HT2.out.1,fun y=>by
            rw [HT2.out.2 y,HTK3.out,List.mem_append,List.mem_singleton];constructor
            ·rintro (z | z)
             ·exact .inl z
             ·exact .inr (.inl z)
            ·rintro (z | z | z)
             ·exact .inl z
             ·exact .inr z
             ·subst z;exact (HT2.out.2 y).1 hin⟩
           rw [dT_ hin] at hlk;go_wp2_with fail
           go_roundg (H - (h+1))
           case measure=>rw [Hg3.out];omega
           case rel=>exact ⟨h+1,TA,tn,tc,T2,rfl,by omega,by go_num,rfl,HR9.out,HSX.out,HT3.out,by omega⟩
          ·have HT3:Hid ((T2++[x]).Nodup∧∀y,y∈T2++[x]↔(∃a∈(lvl r k).take j,y∈succsF r k a)∨y∈(succsF r k b).take (h+1)):=⟨List.nodup_append.2 ⟨HT2.out.1,by simp,fun y hy z hz=>by rw [List.mem_singleton] at hz;rintro rfl;subst hz;exact hin hy⟩,fun y=>by
            rw [List.mem_append,HT2.out.2 y,HTK3.out,List.mem_append,or_assoc]⟩
           rw [dF_ hin] at hlk;obtain ⟨w10,hst,hs10,hu10⟩:=SMap.store (P:=Tryz.prog) (t:=87) Tryz.underlying87 Tryz.underlying9 HR9.out.seen (kstr (bbs x)) (.bool true);obtain ⟨htL,ts,htO,htC⟩:=HR9.out.thn;have htO10:=htO.upd hu10 (fun i hi e=>HR9.out.seen.ne_own htO (e ▸ hi));have HTC:=h_ htC;have HTO:=h_ htO;have HS10:=h_ hs10;have HU10:=h_ hu10;have htn3:tn≤300000:=by have h1:=HOL.out;rw [List.length_append,List.length_map,List.length_take,←HNL.out,Nat.min_eq_left (by omega)] at h1;omega
           have hqA:¬At TA q:=fun z=>by
            obtain ⟨_,_,hto,_⟩:=HRh.out.thn;have:=hto.lt z;omega
           clear hs10 hu10 htC htO hin htL
           go_wp2_with (at_builtin;refine wpList_app rfl rfl T_rows rfl (htO10.alloc _) rfl (Sl.new _ _ _) rfl (by simp [Value.oneCell']) (by simp only [maxLen];omega) (by omega) ?_;intro A11 c11 w11 ho11 hu11 hat11)
           go_roundg (H - (h+1))
           case measure=>rw [Hg3.out];omega
           case rel =>
            have uR:=Upd.refl.alloc (w:=w10) (S:=Non) (.cells #[.slice (some ⟨q,0,none⟩) sn cX] 84);have hR11:=HR9.out.addT HU10.out HS10.out uR HTO.out HTC.out HOX.out HXL.out hqA ho11 hu11 hat11;have hs11:=sl8_upd (sl8_upd (sl8_upd HSX.out HU10.out (fun i z hb=>HR9.out.seen.ne_blk hb)) uR (fun _ _ _ f=>f)) hu11 (fun i z hb=>(htO10.alloc _).ne_blk hb (by decide))
            exact ⟨h+1,A11,tn+1,c11,T2++[x],rfl,by omega,by go_num,rfl,hR11,hs11,HT3.out,by omega⟩
         ·obtain rfl:H=h:=by omega
          have hfull:(succsF r k b).take H=succsF r k b:=List.take_of_length_le (by rw [succsF_len,HVN.out,HH.out];exact Nat.le_refl _)
          have HT3:Hid (T2.Nodup∧∀y,y∈T2↔k<64∧∃a∈(lvl r k).take (j+1),y∈succsF r k a):=⟨HT2.out.1,fun y=>by
           rw [HT2.out.2 y,hfull,HTK.out];constructor
           ·rintro (⟨a,ha,z⟩ | z)
            ·exact ⟨hklt,a,List.mem_append_left _ ha,z⟩
            ·exact ⟨hklt,b,by simp,z⟩
           ·rintro ⟨_,a,ha,z⟩;rw [List.mem_append,List.mem_singleton] at ha;rcases ha with ha | rfl
            ·exact .inl ⟨a,ha,z⟩
            ·exact .inr z⟩
          rw [←HO2.out] at HRh;clear hfull;go_wp2_with fail
          go_roundg (n - (j+1))
          case measure=>rw [Hg2.out];omega
          case rel=>exact ⟨j+1,A8,on+1,c8,TA,tn,tc,T2,rfl,by omega,by go_num,rfl,rfl,HRh.out,HT3.out,by omega,by omega,fun e=>by omega⟩
     ·obtain rfl:n=j:=by omega
      have hfull:(lvl r k).take n=lvl r k:=List.take_of_length_le (by rw [←HNL.out];exact Nat.le_refl _);rw [hfull] at HRr HT HSF
      have hnon:n≤4096:=by
       have h1:=HRr.out.out.1;rw [List.length_map,List.length_append,List.length_map,←HNL.out] at h1;omega
      have HS2:=h_ (HRr.out.next HT.out.1 HT.out.2 (by omega) hon HSF.out);have hrj:=HRr.out.row.cell 0;have hfj:=HRr.out.row.frozen 0;clear hfull;go_wp2_with fail
      go_roundg (65 - (k+1))
      case measure=>rw [Hg.out];omega
      case rel=>exact ⟨k+1,TA,tn,tc,OA,on,oc,T,rfl,by omega,by go_num,rfl,HS2.out⟩
   ·obtain rfl:k=65:=by omega
    go_wp2_with fail
    go_ret2;refine ⟨HU2.out.trans HS.out.upd (fun i hi q=>by have h1:=HU2.out.size;have : B≤i:=q;omega),.inl ⟨lvls r 65,OA,on,oc,autF_some.2 ⟨Hap.out,HS.out.le,HS.out.sf rfl,rfl⟩,rfl,HS.out.out,fun i hi=>?_⟩⟩
    have h1:=HU2.out.size;have h2:=HS.out.b3 i hi;omega
def seenA (P:List AS) (i:Nat) (s:ByteArray):Option Value:=if (P.any fun x=>decide (x.at_=(i:Int))&&decide (s=kstr x.bits))=true then some (.bool true) else none
theorem seenA_nil (i:Nat):seenA [] i=fun _=>none:=by funext s;rfl
theorem seenA_same (P:List AS) {x:AS} {i:Nat} (h:x.at_=(i:Int)):(fun s=>if s=kstr x.bits then some (.bool true) else seenA P i s)=seenA (P++[x]) i:=by
 funext s
 unfold seenA;rw [List.any_append];by_cases hs:s=kstr x.bits
 ·rw [if_pos hs,if_pos (by simp [hs,h])]
 ·rw [if_neg hs];simp [hs]
theorem seenA_other (P:List AS) {x:AS} {i:Nat} (h:x.at_≠(i:Int)):seenA (P++[x]) i=seenA P i:=by
 funext s
 unfold seenA;rw [List.any_append];simp [h]
theorem seenA_get (P:List AS) (i:Nat) (y:Bs):(seenA P i (kstr y)).getD (.bool false)=.bool (decide ((⟨(i:Int),y⟩:AS)∈P)):=by
 unfold seenA
 have e:(P.any fun x=>decide (x.at_=(i:Int))&&decide (kstr y=kstr x.bits))=decide ((⟨(i:Int),y⟩:AS)∈P):=by
  rw [Bool.eq_iff_iff,List.any_eq_true,decide_eq_true_eq];constructor
  ·rintro ⟨x,hx,q⟩;rw [Bool.and_eq_true,decide_eq_true_eq,decide_eq_true_eq,kstr_inj] at q;obtain ⟨xa,xb⟩:=x;obtain ⟨q1,q2⟩:=q;subst q1 q2;exact hx
  ·intro h;exact ⟨_,h,by simp⟩
 rw [e];cases decide ((⟨(i:Int),y⟩:AS)∈P) <;> rfl
def arrM (ib j:Nat):Array Value:=((List.range 65).map fun i=>if i<j then Value.map (some (ib+1+i)) else Value.map none).toArray
theorem arrM_get {ib j i:Nat} (h:i<65):(arrM ib j)[i]?=some (if i<j then Value.map (some (ib+1+i)) else Value.map none):=by
 unfold arrM;rw [List.getElem?_toArray,List.getElem?_map,List.getElem?_range h];rfl
theorem arrM_set {ib j:Nat} (h:j<65):(arrM ib j).setIfInBounds j (.map (some (ib+1+j)))=arrM ib (j+1):=by
 have hs:∀k,(arrM ib k).size=65:=fun k=>by unfold arrM;simp
 refine Array.ext_getElem? fun i=>?_
 rw [Array.getElem?_setIfInBounds];by_cases hi:i<65
 ·rw [arrM_get hi,arrM_get hi,hs];by_cases e:j=i
  ·subst e;rw [if_pos rfl,if_pos hi,if_pos (by omega)]
  ·rw [if_neg e];by_cases hij:i<j
   ·rw [if_pos hij,if_pos (by omega)]
   ·rw [if_neg hij,if_neg (by omega)]
 ·rw [if_neg (by omega),Array.getElem?_eq_none (by rw [hs];omega),Array.getElem?_eq_none (by rw [hs];omega)]
structure CkI (w2 wr:World) (B ib j:Nat):Prop where
 arr:Blk wr ib 125 (arrM ib j)
 mp:∀i,i<j→SMap wr (ib+1+i) (fun _=>none)
 upd:Upd (B≤·) w2 wr
 bi:B≤ib
 sz:wr.heap.size=ib+1+j
structure CkS (w2 wr:World) (B ib:Nat) (P:List AS):Prop where
 arr:Blk wr ib 125 (arrM ib 65)
 mp:∀i,i<65→SMap wr (ib+1+i) (seenA P i)
 upd:Upd (B≤·) w2 wr
 bi:B≤ib
section
variable {w2 wr:World} {B ib:Nat} {P:List AS}
theorem CkI.step {j:Nat} (h:CkI w2 wr B ib j) (hj:j<65):CkI w2 ((wr.setCell ⟨ib,j,none⟩ (.map (some wr.heap.size))).alloc (.map #[] 0)) B ib (j+1):=by
 have uS:=updCell wr ib j (.map (some wr.heap.size));have u1:Upd Non (wr.setCell ⟨ib,j,none⟩ (.map (some wr.heap.size))) ((wr.setCell ⟨ib,j,none⟩ (.map (some wr.heap.size))).alloc (.map #[] 0)):=Upd.refl.alloc _
 have hlt:=h.arr.lt;have hsz:(wr.setCell ⟨ib,j,none⟩ (.map (some wr.heap.size))).heap.size=ib+1+j:=by rw [←h.sz];simp [World.setCell]
 refine ⟨?_,fun i hi=>?_,(h.upd.trans uS (fun i _ e=>by have:=h.bi;show B≤i;omega)).then_non u1,h.bi,?_⟩
 ·have:=h.arr.set_ j (.map (some wr.heap.size));rw [h.sz,arrM_set hj,←h.sz] at this;exact this.upd u1 (fun f=>f)
 ·by_cases hij:i<j
  ·exact ((h.mp i hij).upd uS (by omega)).upd u1 (fun f=>f)
  ·have e:i=j:=by omega
   subst e;have hn:=SMap.new (wr.setCell ⟨ib,i,none⟩ (.map (some wr.heap.size)));rw [hsz] at hn;exact hn
 ·show ((wr.setCell ⟨ib,j,none⟩ (.map (some wr.heap.size))).heap.push _).size=_;rw [Array.size_push,hsz];omega
theorem CkI.done (h:CkI w2 wr B ib 65):CkS w2 wr B ib []:=⟨h.arr,fun i hi=>by rw [seenA_nil];exact h.mp i hi,h.upd,h.bi⟩
theorem CkS.non (h:CkS w2 wr B ib P) {w':World} (u:Upd Non wr w'):CkS w2 w' B ib P:=⟨h.arr.upd u (fun f=>f),fun i hi=>(h.mp i hi).upd u (fun f=>f),h.upd.then_non u,h.bi⟩
theorem CkS.put (h:CkS w2 wr B ib P) {x:AS} {k:Nat} (hk:k<65) (hx:x.at_=(k:Int)) {w':World} (hs:SMap w' (ib+1+k) (fun s=>if s=kstr x.bits then some (.bool true) else seenA P k s)) (u:Upd (·=ib+1+k) wr w'):CkS w2 w' B ib (P++[x]):=by
 refine ⟨h.arr.upd u (by omega),fun i hi=>?_,h.upd.trans u (fun i _ e=>by have:=h.bi;show B≤i;omega),h.bi⟩;by_cases e:i=k
 ·subst e;rw [←seenA_same P hx];exact hs
 ·rw [seenA_other P (by omega)];exact (h.mp i hi).upd u (by omega)
end
theorem chF_not {r:Rl} {L:List AS} (h:applF r=false):chF r L=false:=by unfold chF;rw [h];rfl
theorem chF_long {r:Rl} {L:List AS} (h:4096<L.length):chF r L=false:=by
 rw [Bool.eq_false_iff];intro q;have:=(chF_iff.1 q).2.1;omega
theorem chF_bad {r:Rl} {L:List AS} {s:AS} (hs:s∈L) (h:okS r s=false):chF r L=false:=by
 rw [Bool.eq_false_iff];intro q;have:=(chF_iff.1 q).2.2.1 s hs;rw [h] at this;cases this
theorem chF_init {r:Rl} {L:List AS} {b:List Bool} (hb:b∈initsF r) (h:(⟨0,bbs b⟩:AS) ∉ L):chF r L=false:=by
 rw [Bool.eq_false_iff];intro q;exact h ((chF_iff.1 q).2.2.2.1 b hb)
theorem chF_next {r:Rl} {L:List AS} {s:AS} (hs:s∈L) (h:nextS r L s=false):chF r L=false:=by
 rw [Bool.eq_false_iff];intro q;have:=(chF_iff.1 q).2.2.2.2 s hs;rw [h] at this;cases this
theorem okS_at {r:Rl} {s:AS} (h:okS r s=true):(0≤s.at_∧s.at_≤64∧s.bits.length=stN r)∧∀x∈s.bits,x.toNat≤1:=by
 unfold okS at h;rw [Bool.and_eq_true,decide_eq_true_eq] at h;exact ⟨h.1,fun x hx=>of_decide_eq_true (List.all_eq_true.1 h.2 x hx)⟩
theorem okS_of {r:Rl} {s:AS} (h:0≤s.at_∧s.at_≤64∧s.bits.length=stN r) (h2:∀x∈s.bits,x.toNat≤1):okS r s=true:=by
 unfold okS;rw [dT_ h,Bool.true_and];exact List.all_eq_true.2 fun x hx=>dT_ (h2 x hx)
theorem okS_no {r:Rl} {s:AS} (h:¬(0≤s.at_∧s.at_≤64∧s.bits.length=stN r)):okS r s=false:=by
 unfold okS;rw [dF_ h];rfl
theorem okS_big {r:Rl} {s:AS} {x:UInt8} (hx:x∈s.bits) (h:¬x.toNat≤1):okS r s=false:=by
 rw [Bool.eq_false_iff];intro q;exact h ((okS_at q).2 x hx)
theorem zero65 (ib:Nat):Tryz.zeroCells125=arrM ib 0:=by
 have h1:Tryz.zeroCells125=Array.replicate 65 (.map none):=by kernel_rfl
 rw [h1];refine Array.ext_getElem? fun i=>?_
 by_cases hi:i<65
 ·rw [arrM_get hi,if_neg (Nat.not_lt_zero _)];simp [hi]
 ·rw [Array.getElem?_eq_none (by simp;omega),Array.getElem?_eq_none (by unfold arrM;simp;omega)]
set_option maxRecDepth 100000 in
set_option maxHeartbeats 16000000 in
theorem aCheck_c (r:Rl) (a:RlA) (F:Nat→Prop) (w:World) (hk:RlK w F r a) (hz:RlSz r) {G:Nat→Prop} {LA:Option Addr} {lc:Nat} {L:List AS} (hL:ElV ElAS 2 w G LA L) (hLn:L.length≤10000000000000) :
  Calls Tryz.prog 29 #[rlv r a,.slice LA L.length lc] w fun e w'=>e=.returned (.bool (chF r L))∧Upd Non w w':=by
 obtain ⟨W,HW⟩:=nm (w.alloc (.cells (rlCells r a) 41));have hU:Upd Non w W:=by rw [←HW.out];exact Upd.refl.alloc _
 obtain ⟨rb,hrb⟩:∃b,w.heap.size=b:=⟨_,rfl⟩;have hb:Blk W rb 41 (rlCells r a):=by rw [←HW.out,←hrb];exact Blk.new _ _ _
 have e0:=HW.out;have hK:=(hk.mono (G:=fun k=>k<w.heap.size) (fun _ h _=>h)).upd hU (fun _ _ _ f=>f);have hc0:=rl_cells hb;obtain ⟨c0,c1,c2,c3,c4,c5,c6,c7,c8,c9,c10,c11,c12,c13⟩:=hc0;have CB:=h_ (aBuild_c r a _ W hK hz);have HU:=h_ hU;have HRB:Hid (rb<W.heap.size):=hb.lt;have HL0:=h_ ((hL.mono elAS (G:=fun i=>i<w.heap.size) (fun i hi _=>hi)).upd elAS hU (fun _ _ _ f=>f));obtain ⟨n,Hn⟩:=nm L.length;rw [Hn.out] at hLn ⊢;clear hk hz hK hb hU hL;unfold rlv at CB ⊢;unfold rlCells at CB e0 ⊢;go_enter Tryz.func29,Tryz.ntmps29;go_wp2_with fail
 refine CB.out.mono ?_;rintro e w2 ⟨v,rfl,uu2,hB⟩;obtain ⟨ap,Hap⟩:=nm (applF r);rw [Hap.out] at hB ⊢;have HU2:=h_ (HU.out.then_non uu2);have HLV:=h_ (HL0.out.upd elAS uu2 (fun _ _ _ f=>f));have c12':=u_ c12 uu2 (fun f=>f);have HRB2:Hid (rb<w2.heap.size):=Nat.lt_of_lt_of_le HRB.out uu2.size;clear c0 c1 c2 c3 c4 c5 c6 c7 c8 c9 c10 c11 c12 c13 uu2 e0 CB
 cases ap with
 | false =>
  clear hB;go_wp2_with fail
  go_ret;exact ⟨by rw [chF_not Hap.out];rfl,HU2.out⟩
 | true =>
  by_cases hlong:4096<n
  ·have tl:decide ((n:Int) > 4096)=true:=dT_ (by omega);clear hB;go_wp2_with fail
   go_ret;exact ⟨by rw [chF_long (by rw [Hn.out];exact hlong)];rfl,HU2.out⟩
  ·have tl:decide ((n:Int) > 4096)=false:=dF_ (by omega);obtain ⟨m,Lf,R,GA,gc,gs,rfl,hm,hA,hG⟩:=hB rfl;have hap:=Hap.out;obtain ⟨hg6,him,_⟩:=gR6_of hap;have hi:=imok_of him;have hr:=nxok_of hap;have hst:=stN_le hi;have CI:=h_ (fun (w':World) (u:Upd (fun i=>w2.heap.size≤i) w2 w')=>aInitStates_c (hA.upd (F:=fun i=>(i<w.heap.size)∧i<W.heap.size∨W.heap.size≤i) u (fun i hi _ q=>by omega) (G:=fun i=>i<w2.heap.size) (fun i h _=>h)) (hG.upd u (fun i z hb q=>by have:=hb.lt;omega)) hr (by omega) hg6 hi.cn)
   have HA:=h_ (hA.upd (S:=Non) (G:=fun i=>i<w2.heap.size) Upd.refl (fun _ _ _ f=>f) (fun i h _=>h));have HG:=h_ hG;have HR:=h_ hr;have HI:=h_ hi;obtain ⟨vn,hvn⟩:∃n:Nat,r.vars=(n:Int):=⟨r.vars.toNat,by have:=hi.v0;omega⟩;rw [hvn] at c12';have HVN:Hid (r.vars.toNat=vn):=by show _=_;omega
   have hv6:vn≤6:=by have:=hi.v6;omega
   obtain ⟨H,HH⟩:=nm (2 ^ vn);have hH:H≤64:=by rw [←HH.out];exact Nat.le_trans (Nat.pow_le_pow_right (by decide) hv6) (by decide)
   have hsh:wrap64 ((2:Int) ^ vn)=(H:Int):=by
    have e:((2:Int) ^ vn)=((2 ^ vn:Nat):Int):=by push_cast;rfl
    rw [e,HH.out];exact wrap64_of (by unfold I64;omega)
   obtain ⟨sn,Hsn⟩:=nm (stN r);have hsn:sn≤4000:=by rw [←Hsn.out];exact hst
   obtain ⟨B,hBB⟩:∃b,w2.heap.size=b:=⟨_,rfl⟩;have hWB:w.heap.size≤B:=by have:=HU2.out.size;omega
   have x18:=HA.out.blk.cell 18;rw [Hsn.out] at x18;clear hvn hst hA hG hr hB hap him;unfold pp at CI ⊢;obtain ⟨W3,HW3⟩:=nm (w2.alloc (.cells Tryz.zeroCells125 125))
   have hI0:CkI w2 W3 B B 0:=by
    refine ⟨?_,fun i hi=>absurd hi (Nat.not_lt_zero _),?_,by omega,?_⟩
    ·rw [←zero65 B,←HW3.out,←hBB];exact Blk.new _ _ _
    ·rw [←HW3.out];exact Upd.refl.alloc _
    ·rw [←HW3.out,←hBB];simp
   have HI0:=h_ hI0;have hmm:=@run_makeMap Tryz.prog
   go_upto_region 5 with fail
   rw [HW3.out];clear hI0;go_wp2_with fail
   go_loopg [8,30] 65 (fun gg _ s30 wr=>∃j:Nat,Hid (gg=65 - j)∧j≤65∧s30=.int .i64 j∧Hid (CkI w2 wr B B j))
   case atStart=>exact ⟨0,rfl,by omega,rfl,HI0.out⟩
   case round =>
    obtain ⟨j,Hg,hj,rfl,HIj⟩:=hrel;by_cases hlt:j<65
    ·have hcj:wr.cell? ⟨B,j,none⟩=some (.map none):=by
      rw [HIj.out.arr.cell,arrM_get hlt,if_neg (Nat.lt_irrefl _)]
     have hfj:=HIj.out.arr.frozen j;have hBl:=HIj.out.arr.lt;have hj0:(0:Int)≤(j:Int):=by omega
     have hj1:(j:Int)<65:=by omega
     go_wp2_with fail
     go_roundg (65 - (j+1))
     case measure=>rw [Hg.out];omega
     case rel=>exact ⟨j+1,rfl,by omega,by go_num,HIj.out.step hlt⟩
    ·obtain rfl:j=65:=by omega
     have HS0:=h_ HIj.out.done;clear HIj hmm;go_wp2_with fail
     go_loopg [10,12,39,64] n (fun gg _ _ s39 _ wr=>∃j:Nat,Hid (gg=n - j)∧j≤n∧s39=.int .i64 j∧Hid (CkS w2 wr B B (L.take j))∧Hid (∀s∈L.take j,okS r s=true))
     case atStart=>exact ⟨0,rfl,by omega,rfl,by rw [List.take_zero];exact HS0.out,fun s hs=>(by rw [List.take_zero] at hs;cases hs)⟩
     case round =>
      clear HS0;obtain ⟨j,Hg,hj,rfl,HSj,HOK⟩:=hrel;obtain ⟨wj,rfl⟩:∃x:World,x=wr:=⟨_,rfl⟩;have HLJ:=h_ (HLV.out.upd elAS HSj.out.upd (fun i _ hi q=>by have h1:i<w.heap.size:=hi;have h2:B≤i:=q;omega));by_cases hjn:j<n
      ·have hjl:j<L.length:=by rw [Hn.out];exact hjn
       obtain ⟨b,off,el,rfl,_,_,hce,RA,rc,e1,e2,e3⟩:=HLJ.out.at_ (by decide) hjl;have k0:=hce 0 (by decide);have k1:=hce 1 (by decide);rw [e1] at k0 k1;rw [Nat.add_zero] at k0;rw [←Nat.add_assoc] at k1;have k0':wj.cell? ⟨b,off+j * 2,none⟩=some (.int .i64 L[j].at_):=k0;have k1':wj.cell? ⟨b,off+j * 2+1,none⟩=some (.slice RA L[j].bits.length rc):=k1;have hmem:=List.getElem_mem hjl;have htk:=List.take_succ_eq_append_getElem hjl;clear hce k0 k1 e1;generalize L[j]=s at *;obtain ⟨bn,Hbn⟩:=nm s.bits.length;rw [Hbn.out] at k1' e2;obtain ⟨at_,Hat⟩:=nm s.at_;rw [Hat.out] at k0';obtain ⟨cb,hcb⟩:∃c,wj.heap.size=c:=⟨_,rfl⟩;obtain ⟨W5,HW5⟩:=nm (wj.alloc (.cells #[.int .i64 at_,.slice RA bn rc] 122));have uu5:Upd Non wj W5:=by rw [←HW5.out];exact Upd.refl.alloc _
       have hb5:Blk W5 cb 122 #[.int .i64 at_,.slice RA bn rc]:=by rw [←HW5.out,←hcb];exact Blk.new _ _ _
       have HS5:=h_ (HSj.out.non uu5);have z0:=hb5.cell 0;have z1:=hb5.cell 1;have z18:=u_ x18 HS5.out.upd (by have:=HA.out.inF;omega);have hj0:(0:Int)≤(j:Int):=by omega
       have hjn':(j:Int)<(n:Int):=by omega
       have HSL:=h_ (e3.upd uu5 (fun _ _ _ f=>f));have HB5:=h_ hb5;have HMM:=h_ hmem;have HTK:Hid (L.take (j+1)=L.take j++[s]):=htk;clear hmem htk e3 hb5 uu5 hjl;by_cases h1:at_<0
       ·have t1:decide (at_<0)=true:=dT_ h1;have HNO:Hid (chF r L=false):=chF_bad HMM.out (okS_no (by rw [Hat.out];omega))
        go_upto_region 13 with fail
        rw [HW5.out];refine wp_region_held_drew (S:=fun w'=>w'.cell? ⟨cb,0,none⟩=some (.int .i64 at_)∧w'.cell? ⟨cb,1,none⟩=some (.slice RA bn rc)∧w'.cell? ⟨m,18,none⟩=some (.int .i64 (sn:Int))) (by kernel_rfl) ⟨z0,z1,z18⟩ (fun hHeld=>?_)
        refine wpT 0 ?_;(try simp only [y_,z_]);refine wpT 1 ?_;(try simp only [y_,z_]);refine wpT 2 ?_;(try simp only [y_,z_]);refine wpT 3 ?_;(try simp only [y_,z_]);refine wpU 4 ?_;(try simp only [y_,z_]);refine wpU 5 ?_;(try simp only [y_,z_]);refine wpU 6 ?_;(try simp only [y_,z_]);refine wpT 7 ?_;(try simp only [y_,z_]);refine wpT 8 ?_;(try simp only [y_,z_]);refine wpU 9 ?_;(try simp only [y_,z_]);refine wpU 10 ?_;(try simp only [y_,z_]);refine wpU 11 ?_;(try simp only [y_,z_]);refine wpU 12 ?_;(try simp only [y_,z_]);refine wpU 13 ?_;(try simp only [y_,z_]);refine wpU 14 ?_;(try simp only [y_,z_]);refine wpU 15 ?_;(try simp only [y_,z_]);refine wpU 16 ?_;(try simp only [y_,z_]);refine wpT 17 ?_;(try simp only [y_,z_]);refine aD_ (by kernel_rfl) ?_ _;go_wp2_with fail
        go_ret;exact ⟨by rw [HNO.out];rfl,(HU2.out.trans HS5.out.upd (fun i hi q=>by have h1:=HU2.out.size;have : B≤i:=q;omega)).drewN 1⟩
       ·have t1:decide (at_<0)=false:=dF_ h1;by_cases h2:64<at_
        ·have t2:decide (at_ > 64)=true:=dT_ h2;have HNO:Hid (chF r L=false):=chF_bad HMM.out (okS_no (by rw [Hat.out];omega))
         go_upto_region 13 with fail
         rw [HW5.out];refine wp_region_held_drew (S:=fun w'=>w'.cell? ⟨cb,0,none⟩=some (.int .i64 at_)∧w'.cell? ⟨cb,1,none⟩=some (.slice RA bn rc)∧w'.cell? ⟨m,18,none⟩=some (.int .i64 (sn:Int))) (by kernel_rfl) ⟨z0,z1,z18⟩ (fun hHeld=>?_)
         refine wpT 0 ?_;(try simp only [y_,z_]);refine wpT 1 ?_;(try simp only [y_,z_]);refine wpT 2 ?_;(try simp only [y_,z_]);refine wpT 3 ?_;(try simp only [y_,z_]);refine wpT 4 ?_;(try simp only [y_,z_]);refine wpT 5 ?_;(try simp only [y_,z_]);refine wpT 6 ?_;(try simp only [y_,z_]);refine wpT 7 ?_;(try simp only [y_,z_]);refine wpT 8 ?_;(try simp only [y_,z_]);refine wpU 9 ?_;(try simp only [y_,z_]);refine wpU 10 ?_;(try simp only [y_,z_]);refine wpU 11 ?_;(try simp only [y_,z_]);refine wpU 12 ?_;(try simp only [y_,z_]);refine wpU 13 ?_;(try simp only [y_,z_]);refine wpU 14 ?_;(try simp only [y_,z_]);refine wpU 15 ?_;(try simp only [y_,z_]);refine wpU 16 ?_;(try simp only [y_,z_]);refine wpT 17 ?_;(try simp only [y_,z_]);refine aD_ (by kernel_rfl) ?_ _;go_wp2_with fail
         go_ret;exact ⟨by rw [HNO.out];rfl,(HU2.out.trans HS5.out.upd (fun i hi q=>by have h1:=HU2.out.size;have : B≤i:=q;omega)).drewN 1⟩
        ·have t2:decide (at_ > 64)=false:=dF_ h2;by_cases h3:bn=sn
         ·have h3':sn=bn:=h3.symm;subst h3'
          go_upto_region 13 with fail
          rw [HW5.out];refine wp_region_held_drew (S:=fun w'=>w'.cell? ⟨cb,0,none⟩=some (.int .i64 at_)∧w'.cell? ⟨cb,1,none⟩=some (.slice RA sn rc)∧w'.cell? ⟨m,18,none⟩=some (.int .i64 (sn:Int))) (by kernel_rfl) ⟨z0,z1,z18⟩ (fun hHeld=>?_)
          refine wpT 0 ?_;(try simp only [y_,z_]);refine wpT 1 ?_;(try simp only [y_,z_]);refine wpT 2 ?_;(try simp only [y_,z_]);refine wpT 3 ?_;(try simp only [y_,z_]);refine wpT 4 ?_;(try simp only [y_,z_]);refine wpT 5 ?_;(try simp only [y_,z_]);refine wpT 6 ?_;(try simp only [y_,z_]);refine wpT 7 ?_;(try simp only [y_,z_]);refine wpT 8 ?_;(try simp only [y_,z_]);refine wpT 9 ?_;(try simp only [y_,z_]);refine wpT 10 ?_;(try simp only [y_,z_]);refine wpT 11 ?_;(try simp only [y_,z_]);refine wpT 12 ?_;(try simp only [y_,z_]);refine wpT 13 ?_;(try simp only [y_,z_]);refine wpT 14 ?_;(try simp only [y_,z_]);refine wpT 15 ?_;(try simp only [y_,z_]);refine wpT 16 ?_;(try simp only [y_,z_]);refine wpT 17 ?_;(try simp only [y_,z_]);refine aD_ (by kernel_rfl) ?_ _;clear hHeld;obtain ⟨k,hk⟩:∃k:Nat,at_=(k:Int):=⟨at_.toNat,by omega⟩;subst hk;have hk65:k<65:=by omega
          obtain ⟨W6,HW6⟩:=nm W5.drew;have uu6:Upd Non W5 W6:=by rw [←HW6.out];exact Upd.refl.drew
          have y0:=u_ z0 uu6 (fun f=>f);have y1:=u_ z1 uu6 (fun f=>f);have HS6:=h_ (HS5.out.non uu6);have HSL6:=h_ (HSL.out.upd uu6 (fun _ _ _ f=>f));rw [HW6.out];clear z0 z1 z18 uu6 HSL HB5;go_wp2_with fail
          go_loopg [12,64] sn (fun gg _ s64 wr=>∃i:Nat,Hid (gg=sn - i)∧i≤sn∧s64=.int .i64 i∧Hid (∀x∈s.bits.take i,x.toNat≤1)∧wr=W6)
          case atStart=>exact ⟨0,rfl,by omega,rfl,fun x hx=>(by rw [List.take_zero] at hx;cases hx),rfl⟩
          case round =>
           obtain ⟨i,Hg2,hi,rfl,HTB,rfl⟩:=hrel;by_cases hin:i<sn
           ·have hib:i<s.bits.length:=by rw [Hbn.out];exact hin
            obtain ⟨b',o',rfl,_,_,hcc⟩:=HSL6.out.at_ (k:=i) (by unfold u8s;rw [List.length_map];exact hib);have hcc':wr.cell? ⟨b',o'+i,none⟩=some (.int .u8 (s.bits[i].toNat:Int)):=by rw [hcc];unfold u8s;rw [List.getElem_map]
            have hxm:=List.getElem_mem hib;have htk2:=List.take_succ_eq_append_getElem hib;generalize s.bits[i]=x at *;have hi0:(0:Int)≤(i:Int):=by omega
            have hi1:(i:Int)<(sn:Int):=by omega
            clear hcc;by_cases hx1:x.toNat≤1
            ·have tx:decide ((x.toNat:Int) > 1)=false:=dF_ (by omega)
             have HTB2:Hid (∀y∈s.bits.take (i+1),y.toNat≤1):=fun y hy=>by
              rw [htk2,List.mem_append,List.mem_singleton] at hy;rcases hy with hy | rfl
              ·exact HTB.out y hy
              ·exact hx1
             clear hxm htk2 hx1;go_wp2_with fail
             go_roundg (sn - (i+1))
             case measure=>rw [Hg2.out];omega
             case rel=>exact ⟨i+1,rfl,by omega,by go_num,HTB2.out,rfl⟩
            ·have tx:decide ((x.toNat:Int) > 1)=true:=dT_ (by omega);have HNO:Hid (chF r L=false):=chF_bad HMM.out (okS_big hxm hx1);clear hxm htk2 hx1;go_wp2_with fail
             go_ret;exact ⟨by rw [HNO.out];rfl,HU2.out.trans HS6.out.upd (fun i hi q=>by have h1:=HU2.out.size;have : B≤i:=q;omega)⟩
           ·obtain rfl:sn=i:=by omega
            have HAL:Hid (∀x∈s.bits,x.toNat≤1):=by have:=HTB.out;rw [List.take_of_length_le (by rw [Hbn.out];exact Nat.le_refl _)] at this;exact this
            have HOKS:Hid (okS r s=true):=okS_of ⟨by rw [Hat.out];omega,by rw [Hat.out];omega,by rw [Hbn.out,Hsn.out]⟩ HAL.out;obtain ⟨wD,HwD⟩:=nm wr.drew;have uD:Upd Non wr wD:=by rw [←HwD.out];exact Upd.refl.drew
            have HSD:=h_ (HS6.out.non uD);have q0:=u_ y0 uD (fun f=>f);have q1:=u_ y1 uD (fun f=>f);have qa:wD.cell? ⟨B,k,none⟩=some (.map (some (B+1+k))):=by rw [HSD.out.arr.cell,arrM_get hk65,if_pos hk65]
            have hslD:=HSL6.out.upd uD (fun _ _ _ f=>f);have hcv:=run_rowstr (n:=sn) (c:=rc) hslD Hbn.out.symm;obtain ⟨w10,hst,hs10,hu10⟩:=SMap.store (P:=Tryz.prog) (t:=87) Tryz.underlying87 Tryz.underlying9 (HSD.out.mp k hk65) (kstr s.bits) (.bool true);have HP:=h_ (HSD.out.put hk65 Hat.out hs10 hu10)
            have hcbn:¬cb=B+1+k:=fun e=>by
             have h1:=HSD.out.mp k hk65;have h2:=World.block_lt_of_cell? wD _ q0;rw [←e] at h1;obtain ⟨es,ck,h3,_⟩:=h1;have h4:=q0;simp [World.cell?,h3] at h4
            have HQ:Hid (w10.cell? ⟨cb,0,none⟩=some (.int .i64 (k:Int))∧w10.cell? ⟨cb,1,none⟩=some (.slice RA sn rc)∧w10.cell? ⟨B,k,none⟩=some (.map (some (B+1+k)))∧(convert 84 9 (.slice RA sn rc)).run Tryz.prog w10=.ok (.string (kstr s.bits)) w10):=⟨u_ (S:=(·=B+1+k)) q0 hu10 hcbn,u_ (S:=(·=B+1+k)) q1 hu10 hcbn,u_ (S:=(·=B+1+k)) qa hu10 (by omega),run_rowstr (n:=sn) (c:=rc) (hslD.upd hu10 (fun i _ hi e=>by have h1:i<w.heap.size:=hi;omega)) Hbn.out.symm⟩
            have hk0:(0:Int)≤(k:Int):=by omega
            have hk1:(k:Int)<65:=by omega
            clear hs10 hu10 hslD uD y0 y1 hcbn;go_wp2_with fail
            refine wp_region_held_drew (S:=fun w'=>w'.cell? ⟨cb,0,none⟩=some (.int .i64 (k:Int))∧w'.cell? ⟨cb,1,none⟩=some (.slice RA sn rc)∧w'.cell? ⟨B,k,none⟩=some (.map (some (B+1+k)))∧(convert 84 9 (.slice RA sn rc)).run Tryz.prog w'=.ok (.string (kstr s.bits)) w') (by kernel_rfl) (by rw [HwD.out];exact ⟨q0,q1,qa,hcv⟩) (fun hHeld=>?_)
            rw [HwD.out] at hHeld ⊢;refine wpT 0 ?_;(try simp only [y_,z_]);refine wpT 1 ?_;(try simp only [y_,z_]);refine wpT 2 ?_;(try simp only [y_,z_]);refine wpT 3 ?_;(try simp only [y_,z_]);refine wpT 4 ?_;(try simp only [y_,z_]);refine wpT 5 ?_;(try simp only [y_,z_]);refine wpT 6 ?_;(try simp only [y_,z_]);refine aR_ (rs:=[7]) (by kernel_rfl) (by simp) ?_;refine aC_ rfl (fun K hK=>?_) aN_;go_simp;refine hK.out _ _ ?_ (fun hHeld=>?_)
            ·exact HQ.out
            clear hK K;(try simp only [y_,z_]);refine aD_ (by kernel_rfl) ?_ _;clear hHeld;go_wp2_with fail
            go_roundg (n - (j+1))
            case measure=>rw [Hg.out];omega
            case rel=>exact ⟨j+1,rfl,by omega,by go_num,by rw [HTK.out];exact HP.out,fun s' hs'=>by
             rw [HTK.out,List.mem_append,List.mem_singleton] at hs';rcases hs' with hs' | rfl
             ·exact HOK.out s' hs'
             ·exact HOKS.out⟩
         ·have t3:((bn:Int) != (sn:Int))=true:=by simp;omega
          have HNO:Hid (chF r L=false):=chF_bad HMM.out (okS_no (by rw [Hbn.out,Hsn.out];omega))
          go_upto_region 13 with fail
          rw [HW5.out];refine wp_region_held_drew (S:=fun w'=>w'.cell? ⟨cb,0,none⟩=some (.int .i64 at_)∧w'.cell? ⟨cb,1,none⟩=some (.slice RA bn rc)∧w'.cell? ⟨m,18,none⟩=some (.int .i64 (sn:Int))) (by kernel_rfl) ⟨z0,z1,z18⟩ (fun hHeld=>?_)
          refine wpT 0 ?_;(try simp only [y_,z_]);refine wpT 1 ?_;(try simp only [y_,z_]);refine wpT 2 ?_;(try simp only [y_,z_]);refine wpT 3 ?_;(try simp only [y_,z_]);refine wpT 4 ?_;(try simp only [y_,z_]);refine wpT 5 ?_;(try simp only [y_,z_]);refine wpT 6 ?_;(try simp only [y_,z_]);refine wpT 7 ?_;(try simp only [y_,z_]);refine wpT 8 ?_;(try simp only [y_,z_]);refine wpT 9 ?_;(try simp only [y_,z_]);refine wpT 10 ?_;(try simp only [y_,z_]);refine wpT 11 ?_;(try simp only [y_,z_]);refine wpT 12 ?_;(try simp only [y_,z_]);refine wpT 13 ?_;(try simp only [y_,z_]);refine wpT 14 ?_;(try simp only [y_,z_]);refine wpT 15 ?_;(try simp only [y_,z_]);refine wpT 16 ?_;(try simp only [y_,z_]);refine wpT 17 ?_;(try simp only [y_,z_]);refine aD_ (by kernel_rfl) ?_ _;go_wp2_with fail
          go_ret;exact ⟨by rw [HNO.out];rfl,(HU2.out.trans HS5.out.upd (fun i hi q=>by have h1:=HU2.out.size;have : B≤i:=q;omega)).drewN 1⟩
      ·obtain rfl:n=j:=by omega
       have hfull:L.take n=L:=List.take_of_length_le (by rw [Hn.out];exact Nat.le_refl _);rw [hfull] at HSj HOK;have CIj:=h_ (CI.out wj (hBB ▸ HSj.out.upd));clear hfull CI HLJ;go_wp2_with fail
       refine CIj.out.mono ?_;rintro e w4 ⟨A0,c0,rfl,hE0,_,uu4⟩;obtain ⟨n0,Hn0⟩:=nm (2 ^ gR r);rw [Hn0.out] at hE0 ⊢;have HE0:=h_ hE0;have HS4:=h_ (HSj.out.non uu4);have hn0:n0=(initsF r).length:=by rw [initsF_len,Hn0.out]
       have HN0:=h_ hn0;have hn064:n0≤64:=by rw [←Hn0.out];exact Nat.le_trans (Nat.pow_le_pow_right (by decide) hg6) (by decide)
       have qa0:w4.cell? ⟨B,0,none⟩=some (.map (some (B+1))):=by rw [HS4.out.arr.cell,arrM_get (by decide),if_pos (by decide)]
       have HM0:Hid (SMap w4 (B+1) (seenA L 0)):=HS4.out.mp 0 (by decide);clear hE0 uu4 hn0 HSj CIj;go_wp2_with fail
       go_loopg [14,82] n0 (fun gg _ s82 wr=>∃j:Nat,Hid (gg=n0 - j)∧j≤n0∧s82=.int .i64 j∧Hid (∀b∈(initsF r).take j,(⟨0,bbs b⟩:AS)∈L)∧wr=w4)
       case atStart=>exact ⟨0,rfl,by omega,rfl,fun b hb=>(by rw [List.take_zero] at hb;cases hb),rfl⟩
       case round =>
        obtain ⟨j,Hg2,hj2,rfl,HIN,rfl⟩:=hrel;by_cases hjn2:j<n0
        ·have hjl:j<(initsF r).length:=by rw [←HN0.out];exact hjn2
         obtain ⟨g,RA,rc,rfl,hcell,_,hsl⟩:=rows_at HE0.out (i:=j) (by rw [List.length_map];exact hjl);rw [List.getElem_map] at hcell hsl;have hbm:=List.getElem_mem hjl;have htk:=List.take_succ_eq_append_getElem hjl;generalize (initsF r)[j]=b at *;obtain ⟨bl,Hbl⟩:=nm (bbs b).length;rw [Hbl.out] at hcell;have hcv:=run_rowstr (n:=bl) (c:=rc) hsl Hbl.out.symm;have hlk:=SMap.look1 (P:=Tryz.prog) (t:=87) Tryz.underlying87 Tryz.underlying9 (z:=.bool false) (by kernel_rfl) HM0.out (kstr (bbs b));rw [seenA_get] at hlk;have hj0:(0:Int)≤(j:Int):=by omega
         have hj1:(j:Int)<(n0:Int):=by omega
         by_cases hin:(⟨((0:Nat):Int),bbs b⟩:AS)∈L
         ·rw [dT_ hin] at hlk
          have HIN2:Hid (∀b∈(initsF r).take (j+1),(⟨0,bbs b⟩:AS)∈L):=fun b' hb'=>by
           rw [htk,List.mem_append,List.mem_singleton] at hb';rcases hb' with hb' | rfl
           ·exact HIN.out b' hb'
           ·exact hin
          clear hbm htk hin hsl;go_wp2_with fail
          go_roundg (n0 - (j+1))
          case measure=>rw [Hg2.out];omega
          case rel=>exact ⟨j+1,rfl,by omega,by go_num,HIN2.out,rfl⟩
         ·rw [dF_ hin] at hlk;have HNO:Hid (chF r L=false):=chF_init hbm hin;clear hbm htk hin hsl;go_wp2_with fail
          go_ret;exact ⟨by rw [HNO.out];rfl,HU2.out.trans HS4.out.upd (fun i hi q=>by have h1:=HU2.out.size;have : B≤i:=q;omega)⟩
        ·obtain rfl:n0=j:=by omega
         obtain ⟨w4,rfl⟩:∃x:World,x=wr:=⟨_,rfl⟩
         have HINI:Hid (∀b∈initsF r,(⟨0,bbs b⟩:AS)∈L):=by
          have:=HIN.out;rw [List.take_of_length_le (by rw [←HN0.out];exact Nat.le_refl _)] at this;exact this
         clear HIN qa0 HM0 HE0;go_wp2_with fail
         go_loopg [16,17,95] n (fun gg _ _ s95 wr=>∃j:Nat,Hid (gg=n - j)∧j≤n∧s95=.int .i64 j∧Hid (CkS w2 wr B B L)∧Hid (∀s∈L.take j,nextS r L s=true))
         case atStart=>exact ⟨0,rfl,by omega,rfl,HS4.out,fun s hs=>(by rw [List.take_zero] at hs;cases hs)⟩
         case round =>
          clear HS4;obtain ⟨j,Hg3,hj3,rfl,HSj,HNX⟩:=hrel;obtain ⟨wj,rfl⟩:∃x:World,x=wr:=⟨_,rfl⟩;have HLJ:=h_ (HLV.out.upd elAS HSj.out.upd (fun i _ hi q=>by have h1:i<w.heap.size:=hi;have h2:B≤i:=q;omega));by_cases hjn3:j<n
          ·have hjl:j<L.length:=by rw [Hn.out];exact hjn3
           obtain ⟨b,off,el,rfl,_,_,hce,RA,rc,e1,e2,e3⟩:=HLJ.out.at_ (by decide) hjl;have k0:=hce 0 (by decide);have k1:=hce 1 (by decide);rw [e1] at k0 k1;rw [Nat.add_zero] at k0;rw [←Nat.add_assoc] at k1;have k0':wj.cell? ⟨b,off+j * 2,none⟩=some (.int .i64 L[j].at_):=k0;have k1':wj.cell? ⟨b,off+j * 2+1,none⟩=some (.slice RA L[j].bits.length rc):=k1;have hmem:=List.getElem_mem hjl;have hok:=okS_at (HOK.out _ hmem);have htk:=List.take_succ_eq_append_getElem hjl;clear hce k0 k1 e1;generalize L[j]=s at *;obtain ⟨⟨ha0,ha1,hbl⟩,hbb⟩:=hok;obtain ⟨k,hk⟩:∃k:Nat,s.at_=(k:Int):=⟨s.at_.toNat,by omega⟩;have hbl2:s.bits.length=sn:=by rw [hbl,Hsn.out]
           rw [hbl2] at k1' e2;rw [hk] at k0';have hk64:k≤64:=by omega
           obtain ⟨ob,Hob⟩:=nm (ubs s.bits);have hob:bbs ob=s.bits:=by rw [←Hob.out];exact bbs_ubs hbb
           have hol:ob.length=sn:=by rw [←hbl2,←hob];unfold bbs;rw [List.length_map]
           have HNS:Hid (nextS r L s=if k=64 then safeF r ob else (succsF r k ob).all fun b=>decide (⟨((k+1:Nat):Int),bbs b⟩∈L)):=by
            show _=_;unfold nextS;rw [Hob.out,hk,Int.toNat_natCast];by_cases e:k=64
            ·rw [if_pos e,if_pos (by omega)]
            ·rw [if_neg e,if_neg (by omega)];rfl
           obtain ⟨cb,hcb⟩:∃c,wj.heap.size=c:=⟨_,rfl⟩;obtain ⟨W5,HW5⟩:=nm (wj.alloc (.cells #[.int .i64 (k:Int),.slice RA sn rc] 122));have uu5:Upd Non wj W5:=by rw [←HW5.out];exact Upd.refl.alloc _
           have hb5:Blk W5 cb 122 #[.int .i64 (k:Int),.slice RA sn rc]:=by rw [←HW5.out,←hcb];exact Blk.new _ _ _
           have HS5:=h_ (HSj.out.non uu5);have z0:=hb5.cell 0;have z1:=hb5.cell 1;have hj0:(0:Int)≤(j:Int):=by omega
           have hjn':(j:Int)<(n:Int):=by omega
           have HSL:Hid (Sl W5 (fun i=>i<w.heap.size) RA (b8s ob)):=by show Sl _ _ _ _;rw [b8s_u8s,hob];exact e3.upd uu5 (fun _ _ _ f=>f)
           have HMM:=h_ hmem;have HTK:Hid (L.take (j+1)=L.take j++[s]):=htk;have HOL:=h_ hol;have HRC:=h_ e2;have HNO:Hid (nextS r L s=false→∀w',Upd (B≤·) w2 w'→chF r L=false∧Upd Non w w'):=fun h w' uu=>⟨chF_next hmem h,HU2.out.trans uu (fun i hi q=>by have h1:=HU2.out.size;have : B≤i:=q;omega)⟩
           have HYES:Hid (nextS r L s=true→∀s'∈L.take (j+1),nextS r L s'=true):=fun h s' hs'=>by
            rw [htk,List.mem_append,List.mem_singleton] at hs';rcases hs' with hs' | rfl
            ·exact HNX.out s' hs'
            ·exact h
           clear hmem htk e3 hb5 uu5 hjl hob hol e2 hbl hbl2 hbb ha0 ha1 hk
           go_upto_region 32 with fail
           rw [HW5.out];by_cases h64:k=64
           ·subst h64;have HNS2:Hid (nextS r L s=safeF r ob):=by show _=_;rw [HNS.out,if_pos rfl]
            have hA5:=HA.out.upd (G:=fun i=>i<w2.heap.size) HS5.out.upd (fun i _ hi q=>by have : B≤i:=q;omega) (fun _ _ q=>q);have hG5:=HG.out.upd HS5.out.upd (fun i z hb q=>by have h1:=hb.lt;have : B≤i:=q;omega);have CS:=h_ (aSafe_c (bc:=rc) hA5 (by have h1:=hG5.1;rw [gposR_len] at h1;have h2:=(gR6_of Hap.out).1;omega) hG5.1 hG5.2 (by rw [Hsn.out];omega) HSL.out (by rw [HOL.out,Hsn.out]) (fun q hq=>by rw [HOL.out,←Hsn.out];exact gposR_lt q hq))
            rw [HOL.out] at CS;unfold pp at CS;obtain ⟨sf,Hsf⟩:=nm (safeF r ob);rw [Hsf.out] at CS HNS2;clear hA5 hG5 HNS;go_wp2_with fail
            refine CS.out.mono ?_;rintro e w9 ⟨rfl,uu9⟩;have HS9:=h_ (HS5.out.non uu9);have z0':=u_ z0 uu9 (fun f=>f)
            cases sf with
            | false =>
             go_wp2_with fail
             go_ret;obtain ⟨h1,h2⟩:=HNO.out HNS2.out _ HS9.out.upd;exact ⟨by rw [h1];rfl,h2⟩
            | true =>
             have HY:=h_ (HYES.out HNS2.out);go_wp2_with fail
             go_loopg [17] 0 (fun _ s17 wr=>s17=.int .i64 0∧wr=w9)
             case atStart=>exact ⟨rfl,rfl⟩
             case round =>
              obtain ⟨rfl,rfl⟩:=hrel;go_wp2_with fail
              go_roundg (n - (j+1))
              case measure=>rw [Hg3.out];omega
              case rel=>exact ⟨j+1,rfl,by omega,by go_num,HS9.out,HY.out⟩
           ·have hk6:k<64:=by omega
            have HNS2:Hid (nextS r L s=(succsF r k ob).all fun b=>decide (⟨((k+1:Nat):Int),bbs b⟩∈L)):=by show _=_;rw [HNS.out,if_neg h64]
            have tk:((k:Int)==64)=false:=by simp;omega
            have tk2:decide ((k:Int)<64)=true:=dT_ (by omega);clear HNS;go_wp2_with fail
            go_loopg [17] H (fun gg s17 wr=>∃h:Nat,Hid (gg=H - h)∧h≤H∧s17=.int .i64 h∧Hid (∀b∈(succsF r k ob).take h,(⟨((k+1:Nat):Int),bbs b⟩:AS)∈L)∧Hid (CkS w2 wr B B L)∧Hid (Upd Non W5 wr))
            case atStart=>exact ⟨0,rfl,by omega,rfl,fun b hb=>(by rw [List.take_zero] at hb;cases hb),HS5.out,Upd.refl⟩
            case round =>
             obtain ⟨h,Hg4,hh,rfl,HIN,HSh,HUh⟩:=hrel;obtain ⟨wh,rfl⟩:∃x:World,x=wr:=⟨_,rfl⟩;have y0:=u_ z0 HUh.out (fun f=>f);have y1:=u_ z1 HUh.out (fun f=>f);have cv:=u_ c12' HSh.out.upd (by have:=HRB2.out;omega);by_cases hlth:h<H
             ·have th:(h:Int)<(H:Int):=by omega
              obtain ⟨wD,HwD⟩:=nm wh.drew;have uD:Upd Non wh wD:=by rw [←HwD.out];exact Upd.refl.drew
              have HSD:=h_ (HSh.out.non uD);have hAh:=HA.out.upd (G:=fun i=>i<w2.heap.size) HSD.out.upd (fun i _ hi q=>by have : B≤i:=q;omega) (fun _ _ q=>q);have CN:=h_ (aNext_c (bc:=rc) (k:=k) (h:=h) hAh HR.out (by rw [Hsn.out];omega) (HSL.out.upd (HUh.out.then_non uD) (fun _ _ _ f=>f)) (by rw [HOL.out,Hsn.out]) (by rw [HOL.out];exact HRC.out) hk6 (by omega))
              rw [HOL.out,Hsn.out] at CN;unfold pp at CN;have ya:wh.cell? ⟨B,k+1,none⟩=some (.map (some (B+1+(k+1)))):=by rw [HSh.out.arr.cell,arrM_get (by omega),if_pos (by omega)]
              have q1:IntKind.i64.wrap ((k:Int)+1)=(k:Int)+1:=i64w_of (by unfold I64;omega);have q2:(0:Int)≤(k:Int)+1:=by omega
              have q3:(k:Int)+1<65:=by omega
              have q4:((k:Int)+1).toNat=k+1:=by omega
              clear hAh
              go_upto_region 37 with fail
              refine wp_region_held_drew (S:=fun w'=>w'.cell? ⟨cb,0,none⟩=some (.int .i64 (k:Int))∧w'.cell? ⟨cb,1,none⟩=some (.slice RA sn rc)∧w'.cell? ⟨B,k+1,none⟩=some (.map (some (B+1+(k+1))))) (by kernel_rfl) ⟨y0,y1,ya⟩ (fun hHeld=>?_)
              rw [HwD.out] at hHeld ⊢;refine wpT 0 ?_;(try simp only [y_,z_]);refine wpT 1 ?_;(try simp only [y_,z_]);refine wpT 2 ?_;(try simp only [y_,z_]);refine wpT 3 ?_;(try simp only [y_,z_]);refine wpT 4 ?_;(try simp only [y_,z_]);refine wpT 5 ?_;(try simp only [y_,z_]);refine wpT 6 ?_;(try simp only [y_,z_]);refine wpT 7 ?_;(try simp only [y_,z_]);refine wpT 8 ?_;(try simp only [y_,z_]);refine wpT 9 ?_;(try simp only [y_,z_]);refine wpT 10 ?_;(try simp only [y_,z_]);refine aR_ (rs:=[11]) (by kernel_rfl) (by simp) ?_;refine aC_ rfl (fun K hK=>?_) aN_;go_simp;refine CN.out.mono ?_;rintro e w9 ⟨AX,cX,rfl,hoX,hatX,uX⟩;go_wp2_with fail
              refine hK.out _ _ ?_ (fun hHeld=>?_)
              ·exact ⟨u_ (S:=Non) hHeld.1 uX (fun f=>f),u_ (S:=Non) hHeld.2.1 uX (fun f=>f),u_ (S:=Non) hHeld.2.2 uX (fun f=>f)⟩
              clear hK K;(try simp only [y_,z_]);have HS9:=h_ (HSD.out.non uX);obtain ⟨x,Hx⟩:=nm (succF k h.testBit r ob);rw [Hx.out] at hoX;have hsup:=applF_sup Hap.out;have hxl:x.length=sn:=by rw [←Hx.out,←Hsn.out];exact succF_len hsup.1 hsup.2 k _ (by rw [HOL.out,Hsn.out])
              have hxb:(bbs x).length=sn:=by unfold bbs;rw [List.length_map,hxl]
              have hcv:=run_rowstr (n:=sn) (c:=cX) (l:=bbs x) (by have:=hoX.sl;rw [b8s_u8s] at this;exact this) hxb.symm;have hlk:=SMap.look1 (P:=Tryz.prog) (t:=87) Tryz.underlying87 Tryz.underlying9 (z:=.bool false) (by kernel_rfl) (HS9.out.mp (k+1) (by omega)) (kstr (bbs x))
              rw [seenA_get] at hlk
              have HTK3:Hid ((succsF r k ob).take (h+1)=(succsF r k ob).take h++[x]):=by
               show _=_;have hl:h<(succsF r k ob).length:=by rw [succsF_len,HVN.out,HH.out];exact hlth
               rw [List.take_succ_eq_append_getElem hl,←Hx.out]
               congr 2
               simp [succsF]
              have hxm:x∈succsF r k ob:=by
               rw [←Hx.out];unfold succsF;rw [List.mem_map];exact ⟨h,by rw [List.mem_range,HVN.out,HH.out];exact hlth,rfl⟩
              have HU9:Hid (Upd Non W5 w9):=(HUh.out.then_non uD).then_non uX;have HXM:=h_ hxm;clear hoX hatX uX hsup hxl hxb hxm CN uD;refine aR_ (rs:=[12]) (by kernel_rfl) (by simp) ?_;refine aC_ rfl (fun K hK=>?_) aN_;go_simp;refine hK.out _ _ ?_ (fun hHeld=>?_)
              ·exact hHeld
              clear hK K;(try simp only [y_,z_]);by_cases hin:(⟨((k+1:Nat):Int),bbs x⟩:AS)∈L
              ·rw [dT_ hin] at hlk
               have HIN2:Hid (∀b∈(succsF r k ob).take (h+1),(⟨((k+1:Nat):Int),bbs b⟩:AS)∈L):=fun b' hb'=>by
                rw [HTK3.out,List.mem_append,List.mem_singleton] at hb';rcases hb' with hb' | rfl
                ·exact HIN.out b' hb'
                ·exact hin
               clear hin;refine aR_ (rs:=[13]) (by kernel_rfl) (by simp) ?_;refine aC_ rfl (fun K hK=>?_) aN_;go_simp;refine hK.out _ _ ?_ (fun hHeld=>?_)
               ·exact hHeld
               clear hK K;(try simp only [y_,z_]);refine wpT 14 ?_;(try simp only [y_,z_]);refine aD_ (by kernel_rfl) ?_ _;clear hHeld;go_wp2_with fail
               go_roundg (H - (h+1))
               case measure=>rw [Hg4.out];omega
               case rel=>exact ⟨h+1,rfl,by omega,by go_num,HIN2.out,HS9.out,HU9.out⟩
              ·rw [dF_ hin] at hlk
               have HF:Hid (nextS r L s=false):=by
                show _=_;rw [HNS2.out,Bool.eq_false_iff];intro q;rw [List.all_eq_true] at q;exact hin (of_decide_eq_true (q x HXM.out))
               clear hin;refine aR_ (rs:=[13]) (by kernel_rfl) (by simp) ?_;refine aC_ rfl (fun K hK=>?_) aN_;go_simp;refine hK.out _ _ ?_ (fun hHeld=>?_)
               ·exact hHeld
               clear hK K;(try simp only [y_,z_]);refine wpT 14 ?_;(try simp only [y_,z_]);refine aD_ (by kernel_rfl) ?_ _;clear hHeld;go_wp2_with fail
               go_ret;obtain ⟨h1,h2⟩:=HNO.out HF.out _ HS9.out.upd;exact ⟨by rw [h1];rfl,h2⟩
             ·obtain rfl:H=h:=by omega
              have hfull:(succsF r k ob).take H=succsF r k ob:=List.take_of_length_le (by rw [succsF_len,HVN.out,HH.out];exact Nat.le_refl _);have HY:=h_ (HYES.out (by rw [HNS2.out,List.all_eq_true];intro b hb;exact dT_ (HIN.out b (by rw [hfull];exact hb))));clear hfull;go_wp2_with fail
              go_roundg (n - (j+1))
              case measure=>rw [Hg3.out];omega
              case rel=>exact ⟨j+1,rfl,by omega,by go_num,HSh.out,HY.out⟩
          ·obtain rfl:n=j:=by omega
           have HYES:Hid (chF r L=true):=chF_iff.2 ⟨Hap.out,by rw [Hn.out];omega,HOK.out,HINI.out,by have:=HNX.out;rw [List.take_of_length_le (by rw [Hn.out];exact Nat.le_refl _)] at this;exact this⟩
           go_wp2_with fail
           go_ret;exact ⟨by rw [HYES.out];rfl,HU2.out.trans HSj.out.upd (fun i hi q=>by have h1:=HU2.out.size;have : B≤i:=q;omega)⟩
def qv (n:Int):Pt:=.mk n 0 0 0 []
def q2 (k:Int) (a b:Pt):Pt:=.mk 0 k 0 0 [a,b]
def q1c (n:Int):Pt:=.mk 0 1 n 0 []
def exL1:Pt:=q2 4 (qv 1) (qv 2)
def exR1:Pt:=q2 4 (q2 11 (qv 1) (qv 2)) (q2 12 (q2 9 (qv 1) (qv 2)) (q1c 1))
def exA:Rl:=⟨⟨#[114]⟩,exL1,exR1,[],2,0⟩
def exB:Rl:=⟨⟨#[102]⟩,exL1,q2 10 (qv 1) (qv 2),[],2,0⟩
def exS:List (List Bool):=[[false,false,false,false],[true,false,true,false],[true,true,false,false]]
theorem exA_appl:applF exA=true:=by decide +kernel
theorem exB_appl:applF exB=true:=by decide +kernel
theorem exA_closed:∀k,k<64→∀b∈exS,∀h,h<4→succF k h.testBit exA b∈exS:=by decide +kernel
theorem exA_init:∀b∈initsF exA,b∈exS:=by decide +kernel
theorem exA_safe:∀b∈exS,safeF exA b=true:=by decide +kernel
theorem exA_lvl:∀k,k≤64→∀b∈lvl exA k,b∈exS
 | 0,_,b,hb=>exA_init b (lvl_init.1 hb)
 | k+1,hk,b,hb=>by
  obtain ⟨a,ha,hb⟩:=lvl_succ.1 hb;have h1:=exA_lvl k (by omega) a ha;unfold succsF at hb;obtain ⟨h,hh,rfl⟩:=List.mem_map.1 hb;exact exA_closed k (by omega) a h1 h (by have:=List.mem_range.1 hh;exact this)
theorem nodup_len:∀{l S:List (List Bool)},l.Nodup→(∀x∈l,x∈S)→l.length≤S.length
 | [],_,_,_=>Nat.zero_le _
 | a::l,S,h,hs=>by
  rw [List.nodup_cons] at h;have h1:=nodup_len (S:=S.erase a) h.2 (fun x hx=>(List.mem_erase_of_ne (show x≠a from fun e=>h.1 (e ▸ hx))).2 (hs x (by simp [hx])));have h2:=hs a (by simp);rw [List.length_erase_of_mem h2] at h1;have h3:=List.length_pos_of_mem h2;rw [List.length_cons];omega
theorem exA_len:∀n,n≤65→n≤(lvls exA n).length∧(lvls exA n).length≤3 * n
 | 0,_=>⟨Nat.zero_le _,Nat.le_refl _⟩
 | n+1,hn=>by
  obtain ⟨h1,h2⟩:=exA_len n (by omega);rw [lvls_succ,List.length_append,List.length_map];have h3:(lvl exA n).length≤3:=nodup_len (S:=exS) (srt_nodup (lvl_srt exA n)) (fun b hb=>exA_lvl n (by omega) b hb);have h4:0<(lvl exA n).length:=List.length_pos_iff.2 (lvl_ne exA n);omega
theorem exA_aut:autF exA=some (lvls exA 65)∧64<(lvls exA 65).length∧(lvls exA 65).length≤4096:=by
 obtain ⟨h1,h2⟩:=exA_len 65 (Nat.le_refl _);exact ⟨autF_some.2 ⟨exA_appl,by omega,fun b hb=>exA_safe b (exA_lvl 64 (Nat.le_refl _) b hb),rfl⟩,by omega,by omega⟩
theorem exB_aut:autF exB=none:=by
 have h:(lvl exB 64).all (safeF exB)=false:=by decide +kernel
 unfold autF;rw [if_neg];rintro ⟨_,_,q⟩;rw [h] at q;cases q
theorem exA_check:chF exA ((lvls exA 65).map asE)=true:=ch_aut exA_aut.1 (fun _=>Iff.rfl) exA_aut.2.2
theorem exA_none:chF exA []=false:=by decide +kernel
end Go.Proofs.YtifhejahbbnkiaaGreat
namespace Go.Proofs.YtifhejahbbnkiaaGreat
open Go
section
variable {P:Program} {ops:Array Oper} {Q:Exit→Act→World→Prop} {md:Region.Mode} {S:World→Prop}
def mkA (a:Act) (ds:List Nat) (g:Nat→Value):Act:={ a with tmps:=ds.foldl (fun x t=>x.setIfInBounds t (g t)) a.tmps }
theorem fold_get (g:Nat→Value):∀(ds:List Nat) (x:Array Value) (t:Nat),(ds.foldl (fun x t=>x.setIfInBounds t (g t)) x)[t]?=if t∈ds∧t<x.size then some (g t) else x[t]?
 | [],x,t=>by simp
 | d::ds,x,t=>by
  rw [List.foldl_cons,fold_get g ds];by_cases h:t<x.size
  ·by_cases h1:t∈ds
   ·rw [if_pos ⟨h1,by simpa using h⟩,if_pos ⟨by simp [h1],h⟩]
   ·rw [if_neg (fun q=>h1 q.1)];by_cases e:d=t
    ·subst e;rw [if_pos ⟨by simp,h⟩];simp [h]
    ·rw [if_neg (fun q=>by simp [Ne.symm e,h1] at q),Array.getElem?_setIfInBounds_ne e]
  ·rw [if_neg (fun q=>h (by simpa using q.2)),if_neg (fun q=>h q.2),Array.getElem?_eq_none (by simp;omega),Array.getElem?_eq_none (by omega)]
theorem mkA_eq {a a0:Act} {ds:List Nat} (h1:a.defers=a0.defers) (h2:a.tmps.size=a0.tmps.size) (h3:∀t,t ∉ ds→a.tmps[t]?=a0.tmps[t]?):a=mkA a0 ds (fun t=>a.tmps.getD t undef):=by
 obtain ⟨tm,df⟩:=a;obtain ⟨tm0,df0⟩:=a0;dsimp only at h1 h2 h3;subst h1;unfold mkA
 congr 1
 refine Array.ext_getElem? fun t=>?_
 rw [fold_get];by_cases h:t∈ds∧t<tm0.size
 ·rw [if_pos h];have : t<tm.size:=by omega
  simp [this]
 ·rw [if_neg h];by_cases q:t∈ds
  ·have : ¬t<tm0.size:=fun r=>h ⟨q,r⟩
   simp only [] at *;rw [Array.getElem?_eq_none (by omega),Array.getElem?_eq_none (by omega)]
  ·exact h3 t q
def depsOf (md:Region.Mode) (opens:List Nat) (o:Oper):List Nat:=((o.after.toList.filter (Region.binds md)).map (·.on)).filter opens.contains
def updG (g:Nat→Value) (d:Option Nat) (v:Value):Nat→Value:=fun t=>if some t=d then v else g t
def StepF (P:Program) (md:Region.Mode) (ops:Array Oper) (Q:Exit→Act→World→Prop) (S:World→Prop) (a0:Act) (w0:World) (opens ds:List Nat) (R:World→World→Prop) (V:Nat→(Nat→Value)→World→Prop) (own:Nat→(Nat→Value)→Nat→Prop) (i:Nat):Prop :=
 ∀o,ops[i]?=some o→∀g w,R w0 w→S w→(∀j,(depsOf md opens o).contains j=true→V j g w)→∀K:Act→World→Prop,
  Shut (∀v w',R w w'→S w'→V i (updG g o.dst v) w'→(∀k,own i (updG g o.dst v) k→w.heap.size≤k∧k<w'.heap.size)→K ((mkA a0 ds g).put o.dst v) w')→if Region.wanted o (yielded ops (mkA a0 ds g).tmps)=true then Oper.wp P o (mkA a0 ds g) w K Q else K ((mkA a0 ds g).put o.dst undef) w
theorem StepF.of {a0:Act} {w0:World} {opens ds:List Nat} {R:World→World→Prop} {V:Nat→(Nat→Value)→World→Prop} {own:Nat→(Nat→Value)→Nat→Prop} {i:Nat} {o:Oper} (ho:ops[i]?=some o)
  (h:∀g w,R w0 w→S w→(∀j,(depsOf md opens o).contains j=true→V j g w)→∀K:Act→World→Prop,
   Shut (∀v w',R w w'→S w'→V i (updG g o.dst v) w'→(∀k,own i (updG g o.dst v) k→w.heap.size≤k∧k<w'.heap.size)→K ((mkA a0 ds g).put o.dst v) w')→if Region.wanted o (yielded ops (mkA a0 ds g).tmps)=true then Oper.wp P o (mkA a0 ds g) w K Q else K ((mkA a0 ds g).put o.dst undef) w) :
  StepF P md ops Q S a0 w0 opens ds R V own i:=fun o' ho'=>by
 rw [ho] at ho';injection ho' with ho'
 subst ho';exact h
def reachB (md:Region.Mode) (ops:Array Oper) (opens:List Nat):Nat→Nat→Nat→Bool
 | 0,r,i=>match ops[r]? with
  | none=>false
  | some o=>(depsOf md opens o).contains i
 | n+1,r,i=>match ops[r]? with
  | none=>false
  | some o=>(depsOf md opens o).contains i || (depsOf md opens o).any fun j=>reachB md ops opens n j i
def okF (md:Region.Mode) (ops:Array Oper) (listed:Array Bool) (n:Nat) (opens ds:List Nat) (sl:Nat→List Nat):Bool :=
 decide (listed.size=ops.size)&&opens.all (fun i=>decide (i<ops.size)&&!listed.getD i true) &&
 (List.range ops.size).all (fun i=>listed.getD i true || opens.contains i || (match ops[i]? with | none=>false | some o=>o.after.toList.any fun e=>Region.binds md e&&!listed.getD e.on false&&!opens.contains e.on) || opens.all (reachB md ops opens opens.length i)) &&
 opens.all (fun i=>match ops[i]? with
  | none=>false
  | some o=>(match o.dst with | none=>true | some d=>ds.contains d&&decide (d<n))&&(depsOf md opens o).all (fun j=>decide (j<i))&&(o.after.toList.all fun e=>!Region.binds md e || opens.contains e.on || listed.getD e.on false) &&
   opens.all (fun j=>i==j || (match ops[j]? with
    | none=>false
    | some o'=>match o'.dst with
     | none=>true
     | some d=>!(sl i).contains d || (depsOf md opens o).contains j)))
theorem reach_listed {opens:List Nat} {listed:Array Bool} (hdep:∀i∈opens,∀o,ops[i]?=some o→listed.getD i false=true→∀j,(depsOf md opens o).contains j=true→listed.getD j false=true) :
  ∀(n r i:Nat),(∀o,ops[r]?=some o→∀j,(depsOf md opens o).contains j=true→listed.getD j false=true)→reachB md ops opens n r i=true→listed.getD i false=true
 | 0,r,i,hr,h=>by
  unfold reachB at h
  cases ho:ops[r]? with
  | none=>rw [ho] at h;cases h
  | some o=>rw [ho] at h;exact hr o ho i h
 | n+1,r,i,hr,h=>by
  unfold reachB at h
  cases ho:ops[r]? with
  | none=>rw [ho] at h;cases h
  | some o =>
   rw [ho] at h;simp only [Bool.or_eq_true,List.any_eq_true] at h;rcases h with h | ⟨j,hj,h⟩
   ·exact hr o ho i h
   ·have hjc:(depsOf md opens o).contains j=true:=by simpa using hj
    have hjo:j∈opens:=by unfold depsOf at hj;simp at hj;exact hj.2
    exact reach_listed hdep n j i (fun o' ho' k hk=>hdep j hjo o' ho' (hr o ho j hjc) k hk) h
theorem wpAnyH_facts {a0:Act} {w0:World} {listed0:Array Bool} {fuel:Nat} (opens ds:List Nat) (sl:Nat→List Nat) (R:World→World→Prop) (V:Nat→(Nat→Value)→World→Prop) (own:Nat→(Nat→Value)→Nat→Prop)
  (hok:okF md ops listed0 a0.tmps.size opens ds sl=true) (hnd:opens.Nodup) (hS:S w0) (Rr:R w0 w0) (Rt:∀w w',R w0 w→R w w'→R w0 w')
  (stable:∀i∈opens,∀g g' w w',R w0 w→R w w'→(∀t∈sl i,g' t=g t)→V i g w→V i g' w')
  (Rsz:∀w w',R w w'→w.heap.size≤w'.heap.size) (ostable:∀i∈opens,∀g g',(∀t∈sl i,g' t=g t)→∀k,own i g' k→own i g k)
  (step:∀i∈opens,StepF P md ops Q S a0 w0 opens ds R V own i)
  (fin:∀g w,R w0 w→S w→(∀i∈opens,V i g w)→(∀i∈opens,∀j∈opens,i≠j→∀k,own i g k→¬own j g k)→wpAnyH P md ops Q S fuel (opens.foldl (fun l i=>l.setIfInBounds i true) listed0) (mkA a0 ds g) w):wpAnyH P md ops Q S (fuel+opens.length) listed0 a0 w0:=by
 unfold okF at hok;simp only [Bool.and_eq_true,decide_eq_true_eq,List.all_eq_true,List.mem_range] at hok;obtain ⟨⟨⟨hsz,hop⟩,hrest⟩,hop2⟩:=hok;have hlt:∀i∈opens,i<ops.size:=fun i hi=>(hop i hi).1
 suffices ∀(n:Nat) (listed:Array Bool) (a:Act) (w:World),listed.size=ops.size→(∀i,i ∉ opens→listed[i]?=listed0[i]?)→(opens.filter fun i=>!listed.getD i false).length=n →
   a.defers=a0.defers→a.tmps.size=a0.tmps.size→(∀t,t ∉ ds→a.tmps[t]?=a0.tmps[t]?)→R w0 w→S w→(∀i∈opens,listed.getD i false=true→V i (fun t=>a.tmps.getD t undef) w) →
   (∀i∈opens,listed.getD i false=true→∀k,own i (fun t=>a.tmps.getD t undef) k→k<w.heap.size)→(∀i∈opens,∀j∈opens,listed.getD i false=true→listed.getD j false=true→i≠j→∀k,own i (fun t=>a.tmps.getD t undef) k→¬own j (fun t=>a.tmps.getD t undef) k) →
   (∀i∈opens,∀o,ops[i]?=some o→listed.getD i false=true→∀j,(depsOf md opens o).contains j=true→listed.getD j false=true)→wpAnyH P md ops Q S (fuel+n) listed a w by
  have hun0:∀i∈opens,listed0.getD i false=false:=fun i hi=>by
   have:=(hop i hi).2;have h2:=hlt i hi;simp [hsz,h2] at this ⊢;exact this
  refine this opens.length listed0 a0 w0 hsz (fun _ _=>rfl) ?_ rfl rfl (fun _ _=>rfl) Rr hS (fun i hi h=>?_) (fun i hi h=>?_) (fun i hi j _ h=>?_) (fun i hi o _ h=>?_)
  ·rw [List.filter_eq_self.2 fun i hi=>by simp [hun0 i hi]]
  ·rw [hun0 i hi] at h;cases h
  ·rw [hun0 i hi] at h;cases h
  ·rw [hun0 i hi] at h;cases h
  ·rw [hun0 i hi] at h;cases h
 intro n
 induction n with
 | zero =>
  intro listed a w hs hl hf hd ht hold hR hS hV hO hD hdep
  have hall:∀i∈opens,listed.getD i false=true:=fun i hi=>by
   have:=List.eq_nil_of_length_eq_zero hf;have:=List.filter_eq_nil_iff.1 this i hi;simpa using this
  have hfold:∀(l:List Nat) (x:Array Bool) (i:Nat),(l.foldl (fun l i=>l.setIfInBounds i true) x)[i]?=if i∈l∧i<x.size then some true else x[i]?:=by
   intro l
   induction l with
   | nil=>intro x i;simp
   | cons d l ihl =>
    intro x i;rw [List.foldl_cons,ihl];by_cases h:i<x.size
    ·by_cases h1:i∈l
     ·rw [if_pos ⟨h1,by simpa using h⟩,if_pos ⟨by simp [h1],h⟩]
     ·rw [if_neg (fun q=>h1 q.1)];by_cases e:d=i
      ·subst e;rw [if_pos ⟨by simp,h⟩];simp [h]
      ·rw [if_neg (fun q=>by simp [Ne.symm e,h1] at q),Array.getElem?_setIfInBounds_ne e]
    ·rw [if_neg (fun q=>h (by simpa using q.2)),if_neg (fun q=>h q.2),Array.getElem?_eq_none (by simp;omega),Array.getElem?_eq_none (by omega)]
  have heq:listed=opens.foldl (fun l i=>l.setIfInBounds i true) listed0:=by
   refine Array.ext_getElem? fun i=>?_
   rw [hfold];by_cases h:i∈opens
   ·have h1:=hall i h;have h2:=hlt i h;rw [if_pos ⟨h,by omega⟩];have : i<listed.size:=by omega
    simp [this] at h1 ⊢;exact h1
   ·rw [if_neg (fun q=>h q.1)];exact hl i h
  rw [heq,mkA_eq hd ht hold];exact fin _ w hR hS (fun i hi=>hV i hi (hall i hi)) (fun i hi j hj=>hD i hi j hj (hall i hi) (hall j hj))
 | succ n ih =>
  intro listed a w hs hl hf hd ht hold hR hS hV hO hD hdep
  have hl':∀i,i ∉ opens→∀d,listed.getD i d=listed0.getD i d:=fun i hi d=>by
   have:=hl i hi;simp only [Array.getD_eq_getD_getElem?,this]
  have hrdy:∀i∈opens,listed.getD i false≠true→∃k,k∈Region.ready md ops listed:=by
   suffices ∀m i,i≤m→i∈opens→listed.getD i false≠true→∃k,k∈Region.ready md ops listed from fun i hi hn=>this i i (Nat.le_refl _) hi hn
   intro m
   induction m with
   | zero =>
    intro i him hi hn;have hb:=hop2 i hi
    cases ho:ops[i]? with
    | none=>rw [ho] at hb;simp at hb
    | some o =>
     rw [ho] at hb;simp only [Bool.and_eq_true,List.all_eq_true,decide_eq_true_eq] at hb;refine ⟨i,mem_ready.2 ⟨?_,o,ho,fun e he hbi=>?_⟩⟩
     ·have:=hlt i hi;simp [hs,this] at hn ⊢;exact hn
     ·by_cases q:e.on∈opens
      ·have:=hb.1.1.2 e.on (by unfold depsOf;simp;exact ⟨⟨e,⟨he,hbi⟩,rfl⟩,q⟩);omega
      ·have h3:=hb.1.2 e (by simpa using he);rw [hl' _ q];simpa [hbi,q] using h3
   | succ m ihm =>
    intro i him hi hn;have hb:=hop2 i hi
    cases ho:ops[i]? with
    | none=>rw [ho] at hb;simp at hb
    | some o =>
     rw [ho] at hb;simp only [Bool.and_eq_true,List.all_eq_true,decide_eq_true_eq] at hb;by_cases hex:∃j,(depsOf md opens o).contains j=true∧listed.getD j false≠true
     ·obtain ⟨j,hj,hjn⟩:=hex;have hjm:j∈depsOf md opens o:=by simpa using hj
      have h4:=hb.1.1.2 j hjm;exact ihm j (by omega) (by unfold depsOf at hjm;simp at hjm;exact hjm.2) hjn
     ·refine ⟨i,mem_ready.2 ⟨?_,o,ho,fun e he hbi=>?_⟩⟩
      ·have:=hlt i hi;simp [hs,this] at hn ⊢;exact hn
      ·by_cases q:e.on∈opens
       ·exact Decidable.byContradiction fun hne=>hex ⟨e.on,by unfold depsOf;simp;exact ⟨⟨e,⟨he,hbi⟩,rfl⟩,q⟩,hne⟩
       ·have h3:=hb.1.2 e (by simpa using he);rw [hl' _ q];simpa [hbi,q] using h3
  have hleft:∃i∈opens,listed.getD i false≠true:=by
   have hne:(opens.filter fun i=>!listed.getD i false)≠[]:=fun q=>by rw [q] at hf;simp at hf
   obtain ⟨i,hi⟩:=List.exists_mem_of_ne_nil _ hne;have:=List.mem_filter.1 hi;exact ⟨i,this.1,by simpa using this.2⟩
  obtain ⟨i0,hi0,hn0⟩:=hleft;refine ⟨fun hr=>?_,fun i hi=>?_⟩
  ·obtain ⟨k,hk⟩:=hrdy i0 hi0 hn0;rw [hr] at hk;cases hk
  ·obtain ⟨h1,o,ho,hall⟩:=mem_ready.1 hi
   have hi2:i<ops.size:=by
    rcases Nat.lt_or_ge i ops.size with q | q
    ·exact q
    ·rw [Array.getElem?_eq_none q] at ho;cases ho
   have hun:listed.getD i false=false:=by simp [hs,hi2] at h1 ⊢;exact h1
   have hdl:∀j,(depsOf md opens o).contains j=true→listed.getD j false=true:=fun j hj=>by
    unfold depsOf at hj;simp at hj;obtain ⟨⟨e,⟨he,hb⟩,rfl⟩,_⟩:=hj;exact hall e (by simpa using he) hb
   have hio:i∈opens:=Decidable.byContradiction fun q=>by
    have h3:=hrest i hi2;have h4:listed0.getD i true=false:=by rw [←hl' i q];exact h1
    simp only [h4,Bool.false_or,Bool.or_eq_true,List.all_eq_true] at h3;rcases h3 with (h3 | h3) | h3
    ·exact q (by simpa using h3)
    ·rw [ho] at h3;simp only [List.any_eq_true,Bool.and_eq_true,Bool.not_eq_true'] at h3;obtain ⟨e,he,⟨hb,h5⟩,h6⟩:=h3;have h7:=hall e (by simpa using he) hb;rw [hl' e.on (by simpa using h6),h5] at h7;cases h7
    ·exact hn0 (reach_listed hdep opens.length i i0 (fun o' ho'=>by rw [ho] at ho';injection ho' with ho';subst ho';exact hdl) (h3 i0 hi0))
   have hdo:∀j,(depsOf md opens o).contains j=true→j∈opens:=fun j hj=>by
    unfold depsOf at hj;simp at hj;exact hj.2
   have hb:=hop2 i hio;rw [ho] at hb;simp only [Bool.and_eq_true,List.all_eq_true,decide_eq_true_eq] at hb;have hmk:=mkA_eq hd ht hold;refine wpOp_step ho fun K' hK=>?_
   have hst:=step i hio o ho (fun t=>a.tmps.getD t undef) w hR hS (fun j hj=>hV j (hdo j hj) (hdl j hj)) K' (fun v w' hRw hSw hVi hOi=>?_)
   ·rw [←hmk] at hst;exact hst
   ·rw [←hmk];refine hK _ _ ⟨hSw,?_⟩;have hR2:=Rt w w' hR hRw
    have hsame:∀t,some t≠o.dst→(a.put o.dst v).tmps[t]?=a.tmps[t]?:=fun t h=>by
     cases hod:o.dst with
     | none=>rfl
     | some d=>exact Array.getElem?_setIfInBounds_ne (by rintro rfl;exact h hod.symm)
    have hget:(fun t=>(a.put o.dst v).tmps.getD t undef)=updG (fun t=>a.tmps.getD t undef) o.dst v:=by
     funext t
     unfold updG;by_cases q:some t=o.dst
     ·rw [if_pos q];have hb2:=hb.1.1.1;rw [←q] at hb2;simp only [Bool.and_eq_true,decide_eq_true_eq] at hb2;rw [←q];have : t<a.tmps.size:=by rw [ht];exact hb2.2
      show (a.tmps.setIfInBounds t v).getD t undef=v;simp [this]
     ·rw [if_neg q];have:=hsame t q;simp only [Array.getD_eq_getD_getElem?,this]
    have hsl:∀j∈opens,i≠j→listed.getD j false=true→∀t∈sl j,updG (fun t=>a.tmps.getD t undef) o.dst v t=(fun t=>a.tmps.getD t undef) t:=fun j hj q hjl t htj=>by
     unfold updG;by_cases r:some t=o.dst
     ·exfalso
      have hbj:=hop2 j hj
      cases hoj:ops[j]? with
      | none=>rw [hoj] at hbj;simp at hbj
      | some oj =>
       rw [hoj] at hbj;simp only [Bool.and_eq_true,List.all_eq_true] at hbj;have h5:=hbj.2 i hio;rw [ho] at h5;simp only [←r] at h5;have hne:(j==i)=false:=by simp [Ne.symm q]
       have hc:(sl j).contains t=true:=by simpa using htj
       rw [hne,hc] at h5;simp only [Bool.false_or,Bool.not_true] at h5;have:=hdep j hj oj hoj hjl i h5;rw [this] at hun;cases hun
     ·rw [if_neg r]
    refine ih (listed.setIfInBounds i true) (a.put o.dst v) w' (by simpa using hs) (fun j hj=>?_) ?_ ?_ ?_ (fun t ht2=>?_) hR2 hSw (fun j hj hjl=>?_) (fun j hj hjl k hk=>?_) (fun j hj m hm hjl hml hjm k hk hk2=>?_) (fun j hj o' ho' hjl k hk=>?_)
    ·rw [Array.getElem?_setIfInBounds_ne (fun q=>hj (by rw [←q];exact hio))];exact hl j hj
    ·have hsub:(opens.filter fun j=>!(listed.setIfInBounds i true).getD j false)=((opens.filter fun j=>!listed.getD j false).erase i):=by
      rw [List.Nodup.erase_eq_filter (hnd.filter _),List.filter_filter];refine List.filter_congr fun j hj=>?_
      by_cases q:i=j
      ·subst q;simp [hs,hi2]
      ·rw [getD_set_ne false q];simp [Ne.symm q]
     rw [hsub];have hm:i∈(opens.filter fun j=>!listed.getD j false):=List.mem_filter.2 ⟨hio,by simp [hun]⟩;rw [List.length_erase_of_mem hm,hf];rfl
    ·cases o.dst <;> exact hd
    ·cases o.dst with
     | none=>exact ht
     | some d=>simpa [Act.put] using ht
    ·rw [hsame t (fun q=>?_)]
     ·exact hold t ht2
     ·have hb2:=hb.1.1.1;rw [←q] at hb2;simp only [Bool.and_eq_true] at hb2;exact ht2 (by simpa using hb2.1)
    ·rw [hget];by_cases q:i=j
     ·subst q;exact hVi
     ·rw [getD_set_ne false q] at hjl;exact stable j hj _ _ w w' hR hRw (hsl j hj q hjl) (hV j hj hjl)
    ·rw [hget] at hk;by_cases q:i=j
     ·subst q;exact (hOi k hk).2
     ·rw [getD_set_ne false q] at hjl;exact Nat.lt_of_lt_of_le (hO j hj hjl k (ostable j hj _ _ (hsl j hj q hjl) k hk)) (Rsz w w' hRw)
    ·rw [hget] at hk hk2;by_cases q:i=j
     ·subst q;rw [getD_set_ne false hjm] at hml;have h1:=(hOi k hk).1;have h2:=hO m hm hml k (ostable m hm _ _ (hsl m hm hjm hml) k hk2);omega
     ·rw [getD_set_ne false q] at hjl;have hk3:=ostable j hj _ _ (hsl j hj q hjl) k hk;by_cases q2:i=m
      ·subst q2;have h1:=(hOi k hk2).1;have h2:=hO j hj hjl k hk3;omega
      ·rw [getD_set_ne false q2] at hml;exact hD j hj m hm hjl hml hjm k hk3 (ostable m hm _ _ (hsl m hm q2 hml) k hk2)
    ·by_cases q:i=j
     ·subst q;rw [ho] at ho';injection ho' with ho'
      subst ho';exact getD_set_true (hdl k hk)
     ·rw [getD_set_ne false q] at hjl;exact getD_set_true (hdep j hj o' ho' hjl k hk)
end
end Go.Proofs.YtifhejahbbnkiaaGreat
