/-
  Lemmas and walks that the claim rests on, part 5 (packed by a program).
-/
import Derived.Test.YtblkgjdhaibhgaaGreatV4
import Derived.Test.YtblkgjdhaibhgaaGreatV3
import Derived.Test.YtblkgjdhaibhgaaGreatV1
namespace Go.Proofs.YtblkgjdhaibhgaaGreat
open Go.RowKit
def ClsI {α:Type} (w:World) (p g:Nat) (t:TypeId) (A:Option Addr) (c:Nat) (L:List Tok) (x:St) (o:Option (α×PS)) (P:α→Int→Prop) (e:Ending) (w':World):Prop :=
 ∃(b:Bool) (k:Int) (x2:St),e=.returned (.bool b)∧Blk w' g t #[.int .i64 k]∧RdS w' p A c L x2∧Keeps w p x x2∧Upd (fun k=>x.own p k∨k=g) w w'∧(b=true→∃v ps,o=some (v,ps)∧P v k∧x2.vs=ps.vs∧x2.ms=ps.ms)∧(b=false→o=none)
set_option maxRecDepth 100000 in
set_option maxHeartbeats 4000000 in
theorem rNumber1_c {w:World} {p g:Nat} {A:Option Addr} {c:Nat} {L:List Tok} {x:St} (h:RdS w p A c L x) (s:Bs) (hs:s.length≤1000000) (k0:Int) (hg:Blk w g 2 #[.int .i64 k0]) (hgo:¬x.own p g) (hpg:p<g) :
  Calls Tryz.prog 123 #[.string (kstr s),.pointer (some ⟨g,0,none⟩)] w (ClsI w p g 2 A c L x ((decF s).map fun n=>(n,psOf x)) (fun v k=>v=k)):=by
 have CW:=h_ (wParse_c s w hs);obtain ⟨o,Ho⟩:=nm (decF s);rw [Ho.out] at CW ⊢;obtain ⟨str,Hstr⟩:=nm (kstr s);rw [Hstr.out] at CW ⊢;obtain ⟨n,Hn⟩:=nm (o.getD 0);obtain ⟨b,Hb⟩:=nm o.isSome;rw [Hn.out,Hb.out] at CW;have y0:=hg.cell 0;have f0:=hg.frozen 0;have H:=h_ h;have HG:=h_ hg;clear h hg;go_enter Tryz.func123,Tryz.ntmps123;go_wp2_with fail
 refine CW.out.mono ?_;rintro e w1 ⟨rfl,rfl⟩;go_wp2_with fail
 go_ret;have us:=updCell w1 g 0 (.int .i64 n);refine ⟨b,n,x,rfl,by simpa using HG.out.set_ 0 (.int .i64 n),H.out.upd us (fun k _ e=>by subst e;exact ⟨hpg,fun r=>hgo (.inr (.inl r)),fun r=>hgo (.inr (.inr r))⟩),Keeps.refl,us.mono (fun _ _ q=>.inr q),fun q=>?_,fun q=>?_⟩
 ·cases o with
  | none=>rw [←Hb.out] at q;cases q
  | some m=>exact ⟨m,psOf x,rfl,Hn.out,rfl,rfl⟩
 ·cases o with
  | none=>rfl
  | some m=>rw [←Hb.out] at q;cases q
theorem varF_right (s:Bs) (c:Nat) (l:Bs):(varF s c l false).2=l:=by
 unfold varF
 split
 ·split
  ·unfold lookF
   split
   ·rfl
   ·split
    ·rename_i h;cases h
    ·rfl
  ·rfl
 ·rfl
set_option maxRecDepth 100000 in
set_option maxHeartbeats 4000000 in
theorem rPatternVar1_c {w:World} {p g bx:Nat} {A:Option Addr} {c:Nat} {L:List Tok} {x:St} (h:RdS w p A c L x) (hl:x.left=false) (hv:x.vs.length≤100000) (s:Bs) (hs:s.length≤1000000) (k0:Int) (hg:Blk w g 3 #[.int .i64 k0]) (hx:Blk w bx 54 #[.pointer (some ⟨p,0,none⟩)]) (hgo:¬x.own p g) (hxo:¬x.own p bx) (hpg:p<g) :
  Calls Tryz.prog 122 #[.string (kstr s),.pointer (some ⟨bx,0,none⟩),.pointer (some ⟨g,0,none⟩)] w (ClsI w p g 3 A c L x (if 0<(varF s 63 (psOf x).vs false).1 then some ((varF s 63 (psOf x).vs false).1,psOf x) else none) (fun (v:Nat) k=>k=(v:Int))):=by
 have CV:=h_ (fun w' (hy:RdS w' p A c L x)=>rVarV_c hy hv s 63 hs);rw [show ((63:UInt8).toNat:Int)=63 from rfl,show (63:UInt8).toNat=63 from rfl,hl,varF_right] at CV;rw [show (psOf x).vs=x.vs from rfl];obtain ⟨V,HV⟩:=nm (varF s 63 x.vs false).1;rw [HV.out] at CV ⊢;obtain ⟨str,Hstr⟩:=nm (kstr s);rw [Hstr.out] at CV ⊢;have d0:=hx.cell 0;have HX:=h_ hx;have HG:=h_ hg;obtain ⟨wD,HwD⟩:=nm w.drew;have uD:Upd Non w wD:=by rw [←HwD.out];exact Upd.refl.drew
 have C1:=h_ (CV.out wD (h.non uD));clear h hg hx;go_enter Tryz.func122,Tryz.ntmps122
 go_upto_region 1 with fail
 refine wp_region_held_drew (S:=fun w'=>w'.cell? ⟨bx,0,none⟩=some (.pointer (some ⟨p,0,none⟩))) (by kernel_rfl) (by rw [HwD.out];exact u_ d0 uD (fun f=>f)) (fun hHeld=>?_)
 rw [HwD.out] at hHeld ⊢;refine wpT 0 ?_;(try simp only [y_,z_]);refine wpT 1 ?_;(try simp only [y_,z_]);refine wpT 2 ?_;(try simp only [y_,z_]);refine wpT 3 ?_;(try simp only [y_,z_]);refine wpT 4 ?_;(try simp only [y_,z_]);refine aR_ (rs:=[5]) (by kernel_rfl) (by simp) ?_;refine aC_ rfl (fun K hK=>?_) aN_;go_simp;refine C1.out.mono ?_;rintro e w2 ⟨rfl,y,hy,hy1,hy2,hk,hu⟩;go_wp2_with fail
 have d2:=u_ (u_ d0 uD (fun f=>f)) hu hxo;refine hK.out _ _ ?_ (fun hHeld=>?_)
 ·exact d2
 clear hK K;(try simp only [y_,z_]);have hg2:=(HG.out.upd uD (fun f=>f)).upd hu hgo;have y0:=hg2.cell 0;have f0:=hg2.frozen 0;have HY:=h_ hy;have HK:=h_ hk;have HU:=h_ hu;have HG2:=h_ hg2;have H1:=h_ hy1;have H2:=h_ hy2;clear hy hk hu hg2 hy1 hy2;refine aR_ (rs:=[6]) (by kernel_rfl) (by simp) ?_;refine aC_ rfl (fun K hK=>?_) aN_;go_simp;have us:=updCell w2 g 0 (.int .i64 (V:Int));have hb3:Blk (w2.setCell ⟨g,0,none⟩ (.int .i64 (V:Int))) g 3 #[.int .i64 (V:Int)]:=by simpa using HG2.out.set_ 0 (.int .i64 (V:Int))
 have hgb:bx≠g:=(((HX.out.upd uD (fun f=>f)).upd HU.out hxo).ne_ HG2.out (by decide));refine hK.out _ _ ?_ (fun hHeld=>?_)
 ·exact u_ d2 us hgb
 clear hK K;(try simp only [y_,z_]);refine aD_ (by kernel_rfl) ?_ _;have y1:=hb3.cell 0;have HB3:=h_ hb3;clear hb3 y0 f0 d2 d0 hHeld
 have hyo:¬y.own p g:=fun q=>by
  rcases HK.out.own g q with r | r
  ·exact hgo r
  ·have:=HG.out.lt;have:=uD.size;omega
 have HYO:=h_ hyo;clear hyo;by_cases hp:0<V
 ·have fp:decide ((0:Int)<(V:Int))=true:=dT_ (by omega);go_wp2_with fail
  go_ret;refine ⟨_,V,y,rfl,HB3.out,HY.out.upd us (fun k _ e=>by subst e;exact ⟨hpg,fun r=>HYO.out (.inr (.inl r)),fun r=>HYO.out (.inr (.inr r))⟩),⟨HK.out.i,HK.out.why,HK.out.ea,HK.out.left,fun j hj=>(HK.out.own j hj).imp_right (fun q=>Nat.le_trans uD.size q)⟩,((uD.mono (fun _ _ f=>f.elim)).trans HU.out (fun _ _ q=>.inl q)).trans us (fun _ _ q=>.inr q),fun q=>?_,fun q=>?_⟩
  ·exact ⟨V,psOf x,rfl,rfl,H1.out,H2.out⟩
  ·cases q
 ·have fp:decide ((0:Int)<(V:Int))=false:=dF_ (by omega);have HP:=h_ hp;clear hp;go_wp2_with fail
  go_ret;refine ⟨_,V,y,rfl,HB3.out,HY.out.upd us (fun k _ e=>by subst e;exact ⟨hpg,fun r=>HYO.out (.inr (.inl r)),fun r=>HYO.out (.inr (.inr r))⟩),⟨HK.out.i,HK.out.why,HK.out.ea,HK.out.left,fun j hj=>(HK.out.own j hj).imp_right (fun q=>Nat.le_trans uD.size q)⟩,((uD.mono (fun _ _ f=>f.elim)).trans HU.out (fun _ _ q=>.inl q)).trans us (fun _ _ q=>.inr q),fun q=>?_,fun q=>?_⟩
  ·cases q
  ·rfl
def IntP {α:Type} (T:List (Bs×Nat)) (w:World) (p:Nat) (A:Option Addr) (c:Nat) (L:List Tok) (x:St) (r:Except Er (α×PS)) (P:α→Int→Prop) (e:Ending) (w':World):Prop :=
 ∃(k:Int) (y:St),e=.returned (.int .i64 k)∧RdS w' p A c L y∧Good T y∧y.left=x.left∧(∀k,y.own p k→x.own p k∨w.heap.size≤k)∧Upd (x.own p) w w'∧ResS x y r (fun v=>P v k∧x.i+1≤y.i)
theorem hcfN:∀(args:Array Value) (w:World),(callFunc 123 args).run Tryz.prog w=.ok (.enter 123 args) w:=fun args w=>by
 simp [callFunc,Tryz.func123,Tryz.f123]
theorem hcfV:∀(args:Array Value) (w:World),(callFunc 122 args).run Tryz.prog w=.ok (.enter 122 args) w:=fun args w=>by
 simp [callFunc,Tryz.func122,Tryz.f122]
set_option maxRecDepth 100000 in
set_option maxHeartbeats 4000000 in
theorem rNumber_c {L:List Tok} {T:List (Bs×Nat)} {fin:Nat} (hL:LOk L T fin) {w:World} {p:Nat} {A:Option Addr} {c:Nat} {x:St} (h:RdS w p A c L x) (hx:Good T x) :
  Calls Tryz.prog 101 #[.pointer (some ⟨p,0,none⟩)] w (IntP T w p A c L x (numbF T fin (psOf x)) (fun v k=>v=k)):=by
 obtain ⟨W1,HW1⟩:=nm (w.alloc (.cells #[.int .i64 0] 2));have u1:Upd Non w W1:=by rw [←HW1.out];exact Upd.refl.alloc _
 have b1:Blk W1 w.heap.size 2 #[.int .i64 0]:=by rw [←HW1.out];exact Blk.new _ _ _
 have hpw:p<w.heap.size:=h.blk.lt;have hown:∀j,x.own p j→j<w.heap.size:=fun j hj=>h.lt hj
 have y0:=b1.cell 0;have f0:=b1.frozen 0;obtain ⟨W2,HW2⟩:=nm (W1.setCell ⟨w.heap.size,0,none⟩ (.int .i64 0));have b2:Blk W2 w.heap.size 2 #[.int .i64 0]:=by rw [←HW2.out];simpa using b1.set_ 0 (.int .i64 0)
 have u2:Upd Non w W2:=u1.trans (by rw [←HW2.out];exact updCell _ _ _ _) (fun i hi e=>by omega);have e1:=HW1.out;have e2:=HW2.out;have s2:=u2.size;have h1:=h.non u2
 have CW:=h_ (rWordG_c hL h1 hx 123 #[.pointer (some ⟨w.heap.size,0,none⟩)] hcfN (fun k:Int=>#[.int .i64 k]) 0 b2 hpw (fun s y=>(decF s).map fun n=>(n,y)) (fun v k=>v=k)
  (fun s ps v y q=>by
   cases hd:decF s with
   | none=>rw [hd] at q;cases q
   | some n=>rw [hd] at q;simp only [Option.map_some] at q;injection q with q;injection q with _ q;subst q;exact ⟨Nat.le_succ _,Nat.le_succ _⟩)
  (fun s w1 _ hs _ u01=>rNumber1_c (h1.non u01) s (by omega) 0 (b2.upd u01 (fun f=>f)) (fun q=>by have:=hown _ q;omega) hpw))
 have HU2:=h_ u2;clear h h1 b1 b2 u1 u2;go_enter Tryz.func101,Tryz.ntmps101;go_wp2_with fail
 refine CW.out.mono ?_;rintro e w3 hw3;have HW3:=h_ hw3;clear hw3 CW y0 f0 e1 e2;obtain ⟨k,y,ts,tp,ev,_,hb3,hy3,hg3,hl3,ho3,hu3,hr3⟩:=HW3.out;subst ev;have y1:=hb3.cell 0;have HY:=h_ hy3;have HG:=h_ hg3;have HL:=h_ hl3;have HO:=h_ ho3;have HU:=h_ hu3;have HR:=h_ hr3;clear hb3 hy3 hg3 hl3 ho3 hu3 hr3 HW3;go_wp2_with fail
 go_ret;exact ⟨k,y,rfl,HY.out,HG.out,HL.out,fun j hj=>(HO.out j hj).imp_right (fun q=>by omega),(HU2.out.mono (fun _ _ f=>f.elim)).trans HU.out (fun j hj q=>by rcases q with q | q;exact q;omega),HR.out⟩
set_option maxRecDepth 100000 in
set_option maxHeartbeats 4000000 in
theorem rPatternVar_c {L:List Tok} {T:List (Bs×Nat)} {fin:Nat} (hL:LOk L T fin) {w:World} {p:Nat} {A:Option Addr} {c:Nat} {x:St} (h:RdS w p A c L x) (hx:Good T x) (hlf:x.left=false) :
  Calls Tryz.prog 100 #[.pointer (some ⟨p,0,none⟩)] w (IntP T w p A c L x (pvarF T fin (psOf x)) (fun (v:Nat) k=>k=(v:Int))):=by
 obtain ⟨W0,HW0⟩:=nm (w.alloc (.cells #[.pointer (some ⟨p,0,none⟩)] 54));have u0:Upd Non w W0:=by rw [←HW0.out];exact Upd.refl.alloc _
 have b0:Blk W0 w.heap.size 54 #[.pointer (some ⟨p,0,none⟩)]:=by rw [←HW0.out];exact Blk.new _ _ _
 have s0:W0.heap.size=w.heap.size+1:=by rw [←HW0.out];simp
 obtain ⟨W1,HW1⟩:=nm (W0.alloc (.cells #[.int .i64 0] 3));have u1:Upd Non W0 W1:=by rw [←HW1.out];exact Upd.refl.alloc _
 have b1:Blk W1 (w.heap.size+1) 3 #[.int .i64 0]:=by rw [←HW1.out,←s0];exact Blk.new _ _ _
 have s1:W1.heap.size=w.heap.size+2:=by rw [←HW1.out];simp [s0]
 have hpw:p<w.heap.size:=h.blk.lt;have hown:∀j,x.own p j→j<w.heap.size:=fun j hj=>h.lt hj
 have y0:=b1.cell 0;have f0:=b1.frozen 0;obtain ⟨W2,HW2⟩:=nm (W1.setCell ⟨w.heap.size+1,0,none⟩ (.int .i64 0));have b2:Blk W2 (w.heap.size+1) 3 #[.int .i64 0]:=by rw [←HW2.out];simpa using b1.set_ 0 (.int .i64 0)
 have u2:Upd (·=w.heap.size+1) W1 W2:=by rw [←HW2.out];exact updCell _ _ _ _
 have bb:Blk W2 w.heap.size 54 #[.pointer (some ⟨p,0,none⟩)]:=(b0.upd u1 (fun f=>f)).upd u2 (by omega);have u2:Upd Non w W2:=(u0.then_non u1).trans u2 (fun i hi e=>by omega);have e0:=HW0.out;have e1:=HW1.out;have e2:=HW2.out;have s2:=u2.size;have h1:=h.non u2;have d0:=bb.cell 0;have CW:Hid (x.why=0→x.vs.length≤100000):=fun q=>by have:=hx.2 q;have:=hx.1;have:=hL.lt;have:=hL.len;omega
 have CW:=h_ (rWordG_c hL h1 hx 122 #[.pointer (some ⟨w.heap.size,0,none⟩),.pointer (some ⟨w.heap.size+1,0,none⟩)] hcfV (fun k:Int=>#[.int .i64 k]) 0 b2 (by omega) (fun s y=>if 0<(varF s 63 y.vs false).1 then some ((varF s 63 y.vs false).1,y) else none) (fun (v:Nat) k=>k=(v:Int))
  (fun s ps v y q=>by
   split at q
   ·injection q with q;injection q with _ q;subst q;exact ⟨Nat.le_succ _,Nat.le_succ _⟩
   ·cases q)
  (fun s w1 _ hs h00 u01=>rPatternVar1_c (h1.non u01) hlf (CW.out h00) s (by omega) 0 (b2.upd u01 (fun f=>f)) (bb.upd u01 (fun f=>f)) (fun q=>by have:=hown _ q;omega) (fun q=>by have:=hown _ q;omega) (by omega)))
 have HU2:=h_ u2;clear h h1 b0 b1 b2 bb u0 u1 u2;go_enter Tryz.func100,Tryz.ntmps100;go_wp2_with fail
 refine CW.out.mono ?_;rintro e w3 hw3;have HW3:=h_ hw3;clear hw3 CW y0 f0 e0 e1 e2 d0;obtain ⟨k,y,ts,tp,ev,_,hb3,hy3,hg3,hl3,ho3,hu3,hr3⟩:=HW3.out;subst ev;have y1:=hb3.cell 0;have HY:=h_ hy3;have HG:=h_ hg3;have HL:=h_ hl3;have HO:=h_ ho3;have HU:=h_ hu3;have HR:=h_ hr3;clear hb3 hy3 hg3 hl3 ho3 hu3 hr3 HW3;go_wp2_with fail
 go_ret;exact ⟨k,y,rfl,HY.out,HG.out,HL.out,fun j hj=>(HO.out j hj).imp_right (fun q=>by omega),(HU2.out.mono (fun _ _ f=>f.elim)).trans HU.out (fun j hj q=>by rcases q with q | q;exact q;omega),HR.out⟩
theorem lookF_right (l:Bs) (c:UInt8):(lookF l c false).2=l:=by
 unfold lookF
 split
 ·rfl
 ·split
  ·rename_i h;cases h
  ·rfl
def ivF (s:Bs) (x:PS):Option (Nat×PS):=match s with
 | [c]=>if isLw c=true∧0<(lookF x.ms c false).1 then some ((lookF x.ms c false).1,x) else none
 | _=>none
theorem ivF_none {s:Bs} (h:s.length≠1) (x:PS):ivF s x=none:=by
 unfold ivF
 split
 ·simp at h
 ·rfl
set_option maxRecDepth 100000 in
set_option maxHeartbeats 4000000 in
theorem rImmVar1_c {w:World} {p g bx:Nat} {A:Option Addr} {c:Nat} {L:List Tok} {x:St} (h:RdS w p A c L x) (hv:x.ms.length≤100000) (s:Bs) (hs:s.length≤1000000) (hg:Blk w g 3 #[.int .i64 0]) (hx:Blk w bx 54 #[.pointer (some ⟨p,0,none⟩)]) (hgo:¬x.own p g) (hxo:¬x.own p bx) (hpg:p<g) :
  Calls Tryz.prog 121 #[.string (kstr s),.pointer (some ⟨bx,0,none⟩),.pointer (some ⟨g,0,none⟩)] w (ClsI w p g 3 A c L x (ivF s (psOf x)) (fun (v:Nat) k=>k=(v:Int))):=by
 have hz:(kstr s).size=s.length:=kstr_size s;have d0:=hx.cell 0;have y0:=hg.cell 0;have f0:=hg.frozen 0;have HX:=h_ hx;have HG:=h_ hg;have H:=h_ h;have fz:decide ((0:Int)<0)=false:=by decide
 clear h hx hg;by_cases h1:s.length=1
 ·match s,h1 with
  | [ch],_ =>
   have i0:=fun W=>run_at_str hz (show 0<1 by omega) W
   rw [kx_kstr,show ([ch]:Bs).getD 0 0=ch from rfl,show ((0:Nat):Int)=0 from rfl] at i0;rw [show ([ch]:Bs).length=1 from rfl] at hz;have HV:Hid (ivF [ch] (psOf x)=if isLw ch=true∧0<(lookF x.ms ch false).1 then some ((lookF x.ms ch false).1,psOf x) else none):=rfl;obtain ⟨str,Hstr⟩:=nm (kstr [ch]);rw [Hstr.out] at hz i0 ⊢;rw [HV.out];have CL:=h_ (rIsLower_c ch w);obtain ⟨lw,Hlw⟩:=nm (isLw ch);rw [Hlw.out] at CL ⊢
   cases lw with
   | false =>
    rw [if_neg (fun q=>by cases q.1)];clear HV;go_enter Tryz.func121,Tryz.ntmps121;go_wp2_with fail
    refine CL.out.mono ?_;rintro e w1 ⟨rfl,rfl⟩;go_wp2_with fail
    go_ret;exact ⟨false,0,x,rfl,HG.out,H.out,Keeps.refl,Upd.refl,(fun q=>by cases q),(fun _=>rfl)⟩
   | true =>
    obtain ⟨V,HVV⟩:=nm (lookF x.ms ch false).1;have hnv:=lookF_right x.ms ch;obtain ⟨wD,HwD⟩:=nm w.drew;have uD:Upd Non w wD:=by rw [←HwD.out];exact Upd.refl.drew
    have C1:=h_ (rLookM_c (H.out.non uD) hv ch false);rw [HVV.out,hnv] at C1;rw [HVV.out];obtain ⟨o,Ho⟩:=nm (if true=true∧0<V then some (V,psOf x) else none);rw [Ho.out];clear HV hnv;go_enter Tryz.func121,Tryz.ntmps121;go_wp2_with fail
    refine CL.out.mono ?_;rintro e w1 ⟨rfl,rfl⟩
    go_upto_region 2 with fail
    refine wp_region_held_drew (S:=fun w'=>w'.cell? ⟨bx,0,none⟩=some (.pointer (some ⟨p,0,none⟩))) (by kernel_rfl) (by rw [HwD.out];exact u_ d0 uD (fun f=>f)) (fun hHeld=>?_)
    rw [HwD.out] at hHeld ⊢;refine wpT 0 ?_;(try simp only [y_,z_]);refine wpT 1 ?_;(try simp only [y_,z_]);refine wpT 2 ?_;(try simp only [y_,z_]);refine wpT 3 ?_;(try simp only [y_,z_]);refine wpT 4 ?_;(try simp only [y_,z_]);refine aR_ (rs:=[5]) (by kernel_rfl) (by simp) ?_;refine aC_ rfl (fun K hK=>?_) aN_;go_simp;refine C1.out.mono ?_;rintro e w2 ⟨rfl,y,hy,hy1,hy2,hk,hu⟩;go_wp2_with fail
    have d2:=u_ (u_ d0 uD (fun f=>f)) hu hxo;refine hK.out _ _ ?_ (fun hHeld=>?_)
    ·exact d2
    clear hK K;(try simp only [y_,z_]);have hg2:=(HG.out.upd uD (fun f=>f)).upd hu hgo;have k0:=hg2.cell 0;have f2:=hg2.frozen 0;have HY:=h_ hy;have HK:=h_ hk;have HU:=h_ hu;have HG2:=h_ hg2;have H1:=h_ hy1;have H2:=h_ hy2;clear hy hk hu hg2 hy1 hy2 y0 f0;refine aR_ (rs:=[6]) (by kernel_rfl) (by simp) ?_;refine aC_ rfl (fun K hK=>?_) aN_;go_simp;have us:=updCell w2 g 0 (.int .i64 (V:Int));have hb3:Blk (w2.setCell ⟨g,0,none⟩ (.int .i64 (V:Int))) g 3 #[.int .i64 (V:Int)]:=by simpa using HG2.out.set_ 0 (.int .i64 (V:Int))
    have hgb:bx≠g:=(((HX.out.upd uD (fun f=>f)).upd HU.out hxo).ne_ HG2.out (by decide));refine hK.out _ _ ?_ (fun hHeld=>?_)
    ·exact u_ d2 us hgb
    clear hK K;(try simp only [y_,z_]);refine aD_ (by kernel_rfl) ?_ _;have y1:=hb3.cell 0;have HB3:=h_ hb3;clear hb3 k0 f2 d2 d0 hHeld
    have hyo:¬y.own p g:=fun q=>by
     rcases HK.out.own g q with r | r
     ·exact hgo r
     ·have:=HG.out.lt;have:=uD.size;omega
    have HYO:=h_ hyo;clear hyo;by_cases hp:0<V
    ·have fp:decide ((0:Int)<(V:Int))=true:=dT_ (by omega);go_wp2_with fail
     go_ret;refine ⟨_,V,y,rfl,HB3.out,HY.out.upd us (fun k _ e=>by subst e;exact ⟨hpg,fun r=>HYO.out (.inr (.inl r)),fun r=>HYO.out (.inr (.inr r))⟩),⟨HK.out.i,HK.out.why,HK.out.ea,HK.out.left,fun j hj=>(HK.out.own j hj).imp_right (fun q=>Nat.le_trans uD.size q)⟩,((uD.mono (fun _ _ f=>f.elim)).trans HU.out (fun _ _ q=>.inl q)).trans us (fun _ _ q=>.inr q),fun q=>?_,fun q=>?_⟩
     ·exact ⟨V,psOf x,by rw [←Ho.out,if_pos ⟨trivial,hp⟩],rfl,H2.out,H1.out⟩
     ·cases q
    ·have fp:decide ((0:Int)<(V:Int))=false:=dF_ (by omega);have HP:=h_ hp;clear hp;go_wp2_with fail
     go_ret;refine ⟨false,V,y,by rw [dF_ HP.out];rfl,HB3.out,HY.out.upd us (fun k _ e=>by subst e;exact ⟨hpg,fun r=>HYO.out (.inr (.inl r)),fun r=>HYO.out (.inr (.inr r))⟩),⟨HK.out.i,HK.out.why,HK.out.ea,HK.out.left,fun j hj=>(HK.out.own j hj).imp_right (fun q=>Nat.le_trans uD.size q)⟩,((uD.mono (fun _ _ f=>f.elim)).trans HU.out (fun _ _ q=>.inl q)).trans us (fun _ _ q=>.inr q),fun q=>?_,fun q=>?_⟩
     ·cases q
     ·rw [←Ho.out,if_neg (fun q=>HP.out q.2)]
 ·rw [ivF_none h1];have fl:(((s.length:Nat):Int)==1)=false:=by simp;omega
  obtain ⟨str,Hstr⟩:=nm (kstr s);rw [Hstr.out] at hz ⊢;obtain ⟨n,Hn⟩:=nm s.length;rw [Hn.out] at hz fl;have HN:=h_ h1;clear h1;go_enter Tryz.func121,Tryz.ntmps121;go_wp2_with fail
  go_ret;exact ⟨false,0,x,rfl,HG.out,H.out,Keeps.refl,Upd.refl,(fun q=>by cases q),(fun _=>rfl)⟩
theorem hcfI:∀(args:Array Value) (w:World),(callFunc 121 args).run Tryz.prog w=.ok (.enter 121 args) w:=fun args w=>by
 simp [callFunc,Tryz.func121,Tryz.f121]
set_option maxRecDepth 100000 in
set_option maxHeartbeats 4000000 in
theorem rImmVar_c {L:List Tok} {T:List (Bs×Nat)} {fin:Nat} (hL:LOk L T fin) {w:World} {p:Nat} {A:Option Addr} {c:Nat} {x:St} (h:RdS w p A c L x) (hx:Good T x) :
  Calls Tryz.prog 99 #[.pointer (some ⟨p,0,none⟩)] w (IntP T w p A c L x (ivarF T fin (psOf x)) (fun (v:Nat) k=>k=(v:Int))):=by
 obtain ⟨W0,HW0⟩:=nm (w.alloc (.cells #[.pointer (some ⟨p,0,none⟩)] 54));have u0:Upd Non w W0:=by rw [←HW0.out];exact Upd.refl.alloc _
 have b0:Blk W0 w.heap.size 54 #[.pointer (some ⟨p,0,none⟩)]:=by rw [←HW0.out];exact Blk.new _ _ _
 have s0:W0.heap.size=w.heap.size+1:=by rw [←HW0.out];simp
 obtain ⟨W1,HW1⟩:=nm (W0.alloc (.cells #[.int .i64 0] 3));have u1:Upd Non W0 W1:=by rw [←HW1.out];exact Upd.refl.alloc _
 have b1:Blk W1 (w.heap.size+1) 3 #[.int .i64 0]:=by rw [←HW1.out,←s0];exact Blk.new _ _ _
 have s1:W1.heap.size=w.heap.size+2:=by rw [←HW1.out];simp [s0]
 have hpw:p<w.heap.size:=h.blk.lt;have hown:∀j,x.own p j→j<w.heap.size:=fun j hj=>h.lt hj
 have y0:=b1.cell 0;have f0:=b1.frozen 0;obtain ⟨W2,HW2⟩:=nm (W1.setCell ⟨w.heap.size+1,0,none⟩ (.int .i64 0));have b2:Blk W2 (w.heap.size+1) 3 #[.int .i64 0]:=by rw [←HW2.out];simpa using b1.set_ 0 (.int .i64 0)
 have u2:Upd (·=w.heap.size+1) W1 W2:=by rw [←HW2.out];exact updCell _ _ _ _
 have bb:Blk W2 w.heap.size 54 #[.pointer (some ⟨p,0,none⟩)]:=(b0.upd u1 (fun f=>f)).upd u2 (by omega);have u2:Upd Non w W2:=(u0.then_non u1).trans u2 (fun i hi e=>by omega);have e0:=HW0.out;have e1:=HW1.out;have e2:=HW2.out;have s2:=u2.size;have h1:=h.non u2;have d0:=bb.cell 0;have CW:Hid (x.why=0→x.ms.length≤100000):=fun q=>by have:=hx.2 q;have:=hx.1;have:=hL.lt;have:=hL.len;omega
 have CW:=h_ (rWordG_c hL h1 hx 121 #[.pointer (some ⟨w.heap.size,0,none⟩),.pointer (some ⟨w.heap.size+1,0,none⟩)] hcfI (fun k:Int=>#[.int .i64 k]) 0 b2 (by omega) ivF (fun (v:Nat) k=>k=(v:Int))
  (fun s ps v y q=>by
   unfold ivF at q
   split at q
   ·split at q
    ·injection q with q;injection q with _ q;subst q;exact ⟨Nat.le_succ _,Nat.le_succ _⟩
    ·cases q
   ·cases q)
  (fun s w1 _ hs h00 u01=>rImmVar1_c (h1.non u01) (CW.out h00) s (by omega) (b2.upd u01 (fun f=>f)) (bb.upd u01 (fun f=>f)) (fun q=>by have:=hown _ q;omega) (fun q=>by have:=hown _ q;omega) (by omega)))
 have HU2:=h_ u2;clear h h1 b0 b1 b2 bb u0 u1 u2;go_enter Tryz.func99,Tryz.ntmps99;go_wp2_with fail
 refine CW.out.mono ?_;rintro e w3 hw3;have HW3:=h_ hw3;clear hw3 CW y0 f0 e0 e1 e2 d0;obtain ⟨k,y,ts,tp,ev,_,hb3,hy3,hg3,hl3,ho3,hu3,hr3⟩:=HW3.out;subst ev;have y1:=hb3.cell 0;have HY:=h_ hy3;have HG:=h_ hg3;have HL:=h_ hl3;have HO:=h_ ho3;have HU:=h_ hu3;have HR:=h_ hr3;clear hb3 hy3 hg3 hl3 ho3 hu3 hr3 HW3;go_wp2_with fail
 go_ret;exact ⟨k,y,rfl,HY.out,HG.out,HL.out,fun j hj=>(HO.out j hj).imp_right (fun q=>by omega),(HU2.out.mono (fun _ _ f=>f.elim)).trans HU.out (fun j hj q=>by rcases q with q | q;exact q;omega),HR.out⟩
theorem condL_len:condL.length=6:=rfl
set_option maxRecDepth 100000 in
theorem condNames_c (w:World):Calls Tryz.prog 77 #[] w fun e w'=>e=.returned (.slice (some ⟨w.heap.size,0,none⟩) 6 6)∧Sl w' (fun _=>True) (some ⟨w.heap.size,0,none⟩) (sCells condL)∧Sl w' (fun k=>k=w.heap.size) (some ⟨w.heap.size,0,none⟩) (sCells condL)∧Upd Non w w':=by
 go_enter Tryz.func77,Tryz.ntmps77;go_wp2_with fail
 go_ret;exact ⟨rfl,Sl.new' w _ _ rfl,Sl.new w _ (sCells condL),Upd.refl.alloc _⟩
def kndF:List Bs→Bs→Nat→Nat→Nat
 | [],_,_,a=>a
 | n::l,s,i,a=>kndF l s (i+1) (if n=s then i+1 else a)
theorem kndF_step {l:List Bs} {k:Nat} (h:k<l.length) (s:Bs) (i a:Nat):kndF (l.drop k) s i a=kndF (l.drop (k+1)) s (i+1) (if l[k]=s then i+1 else a):=by
 rw [List.drop_eq_getElem_cons h];rfl
theorem knd_eq (s:Bs):kndF condL s 0 0=((findL condL s 0).map (·+1)).getD 0:=by
 by_cases h:s∈condL
 ·have h2:∀x∈condL,kndF condL x 0 0=((findL condL x 0).map (·+1)).getD 0:=by decide +kernel
  exact h2 s h
 ·have h1:∀(l:List Bs) (i:Nat),s ∉ l→kndF l s i 0=0∧findL l s i=none:=by
   intro l
   induction l with
   | nil=>intro i _;exact ⟨rfl,rfl⟩
   | cons n l ih =>
    intro i hn;have hne:¬n=s:=fun e=>hn (by rw [e];exact List.mem_cons_self)
    have:=ih (i+1) (fun q=>hn (List.mem_cons_of_mem _ q));simp only [kndF,findL,if_neg hne];exact this
  obtain ⟨e1,e2⟩:=h1 condL 0 h;rw [e1,e2];rfl
def knF (s:Bs) (x:PS):Option (Nat×PS):=(findL condL s 0).map fun i=>(i+1,x)
def cdc (k:Int):Array Value:=#[.int .i64 k,.int .i64 0,.int .i64 0,.int .i64 0]
def ClsK (w:World) (p g:Nat) (A:Option Addr) (c:Nat) (L:List Tok) (x:St) (o:Option (Nat×PS)) (e:Ending) (w':World):Prop :=
 ∃(b:Bool) (k:Int) (x2:St),e=.returned (.bool b)∧Blk w' g 69 (cdc k)∧RdS w' p A c L x2∧Keeps w p x x2∧Upd (fun k=>x.own p k∨k=g) w w'∧(b=true→∃v ps,o=some (v,ps)∧k=(v:Int)∧x2.vs=ps.vs∧x2.ms=ps.ms)∧(b=false→o=none)
set_option maxRecDepth 100000 in
set_option maxHeartbeats 4000000 in
theorem rCond1_c {w:World} {p g:Nat} {A:Option Addr} {c:Nat} {L:List Tok} {x:St} (h:RdS w p A c L x) (s:Bs) (hg:Blk w g 69 (cdc 0)) (hgo:¬x.own p g) (hpg:p<g) :
  Calls Tryz.prog 98 #[.string (kstr s),.pointer (some ⟨g,0,none⟩)] w (ClsK w p g A c L x (knF s (psOf x))):=by
 have C:=h_ (condNames_c w);obtain ⟨o,Ho⟩:=nm (knF s (psOf x));rw [Ho.out];obtain ⟨V,HV⟩:=nm (kndF condL s 0 0);have H:=h_ h;have HG:=h_ hg;have hgw:=hg.lt;obtain ⟨str,Hstr⟩:=nm (kstr s);rw [Hstr.out];clear h hg;go_enter Tryz.func98,Tryz.ntmps98;go_wp2_with fail
 refine C.out.mono ?_;rintro e W ⟨rfl,_,hs,hu⟩;clear C;have HG1:=h_ (HG.out.upd hu (fun f=>f));have HU:=h_ hu;go_wp2_with fail
 obtain ⟨A',HA⟩:=nm (some (⟨w.heap.size,0,none⟩:Addr));rw [HA.out] at hs ⊢;clear hu
 go_loopg [8] 6 (fun g1 i wr=>∃(k a:Nat),Hid (g1=6 - k)∧k≤6∧i=.int .i64 k∧Hid (V=kndF (condL.drop k) s k a)∧Hid (Blk wr g 69 (cdc a))∧Upd (·=g) W wr)
 case atStart=>exact ⟨0,0,rfl,by omega,rfl,HV.out.symm,HG1.out,Upd.refl⟩
 case round =>
  obtain ⟨k,a,Hg,hk,rfl,HK,HB,hu1⟩:=hrel;by_cases hlt:k<6
  ·have ti:decide ((k:Int)<6)=true:=dT_ (by omega);have hkl:k<condL.length:=hlt;have hs1:=hs.upd hu1 (fun j _ e q=>by omega);obtain ⟨b,o',rfl,hFb,_,hc⟩:=hs1.at_ (k:=k) (by simpa [sCells] using hkl);have HF:=h_ (kndF_step hkl s k a);have hc2:wr.cell? ⟨b,o'+k,none⟩=some (.string (kstr condL[k])):=by rw [hc];simp [sCells]
   generalize condL[k]=nk at hc2 HF;have hq:((kstr nk).toList==str.toList)=decide (nk=s):=by rw [←Hstr.out,str_beq]
   obtain ⟨nks,Hnks⟩:=nm (kstr nk);rw [Hnks.out] at hc2 hq;have hb:=HB.out;unfold cdc at hb;have y0:=hb.cell 0;have f0:=hb.frozen 0;have hw1:IntKind.i64.wrap (1+(k:Int))=1+(k:Int):=i64w_of (by unfold I64;omega);have hw2:wrap64 (1+(k:Int))=1+(k:Int):=wrap64_of (by unfold I64;omega);clear hc hs1 hb hFb;by_cases he:nk=s
   ·rw [dT_ he] at hq;have HK2:Hid (V=kndF (condL.drop (k+1)) s (k+1) (k+1)):=by show _=_;rw [HK.out,HF.out,if_pos he]
    clear he HF HK;go_wp2_with fail
    go_roundg (6 - (k+1))
    case measure=>rw [Hg.out];omega
    case rel=>exact ⟨k+1,k+1,rfl,by omega,by go_num,HK2,by have:=HB.out.set_ 0 (.int .i64 (1+(k:Int)));rw [show ((k+1:Nat):Int)=1+(k:Int) by omega];exact (by simpa [cdc] using this : Blk _ _ _ _),hu1.trans (updCell _ _ _ _) (fun _ _ q=>q)⟩
   ·rw [dF_ he] at hq;have HK2:Hid (V=kndF (condL.drop (k+1)) s (k+1) a):=by show _=_;rw [HK.out,HF.out,if_neg he]
    clear he HF HK;go_wp2_with fail
    go_roundg (6 - (k+1))
    case measure=>rw [Hg.out];omega
    case rel=>exact ⟨k+1,a,rfl,by omega,by go_num,HK2,HB.out,hu1⟩
  ·obtain rfl:k=6:=by omega
   have HR:Hid (V=a):=by show _=_;rw [HK.out,List.drop_of_length_le (by rw [condL_len];exact Nat.le_refl _)];rfl
   have HE:=h_ (knd_eq s);have hb:=HB.out;unfold cdc at hb;have y0:=hb.cell 0;have HU1:=h_ hu1;clear HK hb hu1;by_cases ha:0<a
   ·have fp:decide ((0:Int)<(a:Int))=true:=dT_ (by omega);go_wp2_with fail
    go_ret;refine ⟨true,a,x,rfl,HB.out,(H.out.non HU.out).upd HU1.out (fun k _ e=>by subst e;exact ⟨hpg,fun r=>hgo (.inr (.inl r)),fun r=>hgo (.inr (.inr r))⟩),Keeps.refl,(HU.out.mono (fun _ _ f=>f.elim)).trans HU1.out (fun _ _ q=>.inr q),fun _=>?_,fun q=>by cases q⟩
    have h1:=HE.out;rw [HV.out,HR.out] at h1
    cases hf:findL condL s 0 with
    | none=>rw [hf] at h1;simp at h1;omega
    | some i =>
     rw [hf] at h1;exact ⟨i+1,psOf x,by rw [←Ho.out];unfold knF;rw [hf];rfl,by rw [h1];rfl,rfl,rfl⟩
   ·have HP:=h_ ha;obtain rfl:a=0:=by omega
    have fp:decide ((0:Int)<((0:Nat):Int))=false:=by decide
    go_wp2_with fail
    go_ret;refine ⟨false,0,x,rfl,HB.out,(H.out.non HU.out).upd HU1.out (fun k _ e=>by subst e;exact ⟨hpg,fun r=>hgo (.inr (.inl r)),fun r=>hgo (.inr (.inr r))⟩),Keeps.refl,(HU.out.mono (fun _ _ f=>f.elim)).trans HU1.out (fun _ _ q=>.inr q),fun q=>(by cases q),fun _=>?_⟩
    have h1:=HE.out;rw [HV.out,HR.out] at h1
    cases hf:findL condL s 0 with
    | none=>rw [←Ho.out];unfold knF;rw [hf];rfl
    | some i=>rw [hf] at h1;simp at h1
structure LocS (m:Nat) (w0 w:World) (p:Nat) (A:Option Addr) (c:Nat) (L:List Tok) (x y:St):Prop where
 rd:RdS w p A c L y
 own:∀k,y.own p k→x.own p k∨w0.heap.size+m≤k
 xlt:∀k,x.own p k→k<w0.heap.size
 upd:Upd (x.own p) w0 w
 le:w0.heap.size+m≤w.heap.size
section
variable {m:Nat} {w0 w w':World} {p:Nat} {A:Option Addr} {c:Nat} {L:List Tok} {x y y':St}
theorem LocS.not (h:LocS m w0 w p A c L x y) {b:Nat} (h1:w0.heap.size≤b) (h2:b<w0.heap.size+m):¬y.own p b:=fun q=>by
 rcases h.own b q with r | r
 ·have:=h.xlt b r;omega
 ·omega
theorem LocS.call (h:LocS m w0 w p A c L x y) (hr:RdS w' p A c L y') (ho:∀k,y'.own p k→y.own p k∨w.heap.size≤k) (u:Upd (y.own p) w w'):LocS m w0 w' p A c L x y':=by
 have hl:=h.le;refine ⟨hr,fun k q=>?_,h.xlt,h.upd.trans u (fun k hk q=>?_),Nat.le_trans hl u.size⟩
 ·rcases ho k q with r | r
  ·exact h.own k r
  ·exact .inr (by omega)
 ·rcases h.own k q with r | r
  ·exact r
  ·omega
theorem LocS.keep (h:LocS m w0 w p A c L x y) (u:Upd (y.own p) w w') {b:Nat} (h1:w0.heap.size≤b) (h2:b<w0.heap.size+m) {t:TypeId} {cs:Array Value} (hb:Blk w b t cs):Blk w' b t cs:=hb.upd u (h.not h1 h2)
theorem LocS.loc (h:LocS m w0 w p A c L x y) {b:Nat} (u:Upd (·=b) w w') (h1:w0.heap.size≤b) (h2:b<w0.heap.size+m):LocS m w0 w' p A c L x y:=by
 have hn:=h.not h1 h2;have hp:=h.xlt p (.inl rfl);exact ⟨h.rd.upd u (fun k _ e=>by subst e;exact ⟨by omega,fun r=>hn (.inr (.inl r)),fun r=>hn (.inr (.inr r))⟩),h.own,h.xlt,h.upd.trans u (fun k hk e=>by omega),Nat.le_trans h.le u.size⟩
end
def set4 (w:World) (g:Nat) (a b c d:Value):World:=(((w.setCell ⟨g,0,none⟩ a).setCell ⟨g,1,none⟩ b).setCell ⟨g,2,none⟩ c).setCell ⟨g,3,none⟩ d
theorem set4_blk {w:World} {g:Nat} {t:TypeId} {x0 x1 x2 x3:Value} (h:Blk w g t #[x0,x1,x2,x3]) (a b c d:Value):Blk (set4 w g a b c d) g t #[a,b,c,d]:=by
 have h1:=(((h.set_ 0 a).set_ 1 b).set_ 2 c).set_ 3 d;simpa [set4] using h1
theorem set4_upd (w:World) (g:Nat) (a b c d:Value):Upd (·=g) w (set4 w g a b c d) :=
 (((Upd.refl.setCell (S:=(·=g)) (p:=⟨g,0,none⟩) (.inl rfl) _).setCell (p:=⟨g,1,none⟩) (.inl rfl) _).setCell (p:=⟨g,2,none⟩) (.inl rfl) _).setCell (p:=⟨g,3,none⟩) (.inl rfl) _
theorem set4_eq (w:World) (g:Nat) (a b c d:Value):(((w.setCell ⟨g,0,none⟩ a).setCell ⟨g,1,none⟩ b).setCell ⟨g,2,none⟩ c).setCell ⟨g,3,none⟩ d=set4 w g a b c d:=rfl
def CdR (T:List (Bs×Nat)) (fin:Nat) (z u:St) (k b n:Int):Prop :=
 (k=2∨k=3→b=0∧ResS z u (numbF T fin (psOf z)) (fun v=>v=n∧z.i+1≤u.i))∧(k=4→n=0∧ResS z u (pvarF T fin (psOf z)) (fun (v:Nat)=>b=(v:Int)∧z.i+1≤u.i)) ∧
 (k=5∨k=6→n=0∧ResS z u (ivarF T fin (psOf z)) (fun (v:Nat)=>b=(v:Int)∧z.i+1≤u.i))∧(k=1→b=0∧n=0∧u=z)∧(z.why≠0→u.why=z.why∧u.ea=z.ea)
theorem kind_le {T:List (Bs×Nat)} {fin:Nat} {x y:PS} {v:Nat} (h:kindF T fin x=.ok (v,y)):1≤v∧v≤6:=by
 have hf:∀(l:List Bs) (s:Bs) (i j:Nat),findL l s i=some j→i≤j∧j<i+l.length:=by
  intro l
  induction l with
  | nil=>intro s i j h;cases h
  | cons n l ih =>
   intro s i j h;simp only [findL] at h
   split at h
   ·injection h with h;subst h;simp
   ·have:=ih s (i+1) j h;simp only [List.length_cons];omega
 unfold kindF at h;rw [wrd_eq] at h
 split at h
 ·split at h
  ·rename_i a y' h2;injection h with h;injection h with h _;subst h
   cases hd:findL condL _ 0 with
   | none=>rw [hd] at h2;cases h2
   | some j =>
    rw [hd] at h2;simp only [Option.map_some] at h2;injection h2 with h2;injection h2 with h2 _;subst h2
    have:=hf _ _ _ _ hd;rw [condL_len] at this;omega
  ·cases h
 ·cases h
theorem pcond_fin {T:List (Bs×Nat)} {fin:Nat} {x y z u:St} {k a b n:Int} (h1:ResS x y (kindF T fin (psOf x)) (fun (v:Nat)=>k=(v:Int)∧x.i+1≤y.i))
  (h2:ResS y z (if k=6 then ivarF T fin (psOf y) else pvarF T fin (psOf y)) (fun (v:Nat)=>a=(v:Int)∧y.i+1≤z.i)) (h3:CdR T fin z u k b n) :
  ResS x u (pcondF T fin (psOf x)) (fun v=>v=⟨k,a,b,n⟩∧x.i+1≤u.i):=by
 obtain ⟨g1,g2,g3,g4,he⟩:=h3
 have he1:y.why≠0→u.why=y.why∧u.ea=y.ea:=fun q=>by
  have e1:=h2.2 q;have e2:=he (by rw [e1.1];exact q);exact ⟨e2.1.trans e1.1,e2.2.trans e1.2⟩
 refine ⟨fun h0=>?_,fun h0=>?_⟩
 ·have k1:=h1.1 h0;unfold pcondF
  cases hk:kindF T fin (psOf x) with
  | error e =>
   rw [hk] at k1;have hn:y.why≠0:=by rw [k1.1];exact wrdF_err hk
   exact ⟨(he1 hn).1.trans k1.1,(he1 hn).2.trans k1.2⟩
  | ok v =>
   obtain ⟨v,ps⟩:=v;have hv:=kind_le hk;rw [hk] at k1;obtain ⟨hy0,rfl,rfl,hi1⟩:=k1;dsimp only;have k2:=h2.1 hy0
   have e6:(if ((v:Nat):Int)=6 then ivarF T fin (psOf y) else pvarF T fin (psOf y))=(if v=6 then ivarF T fin (psOf y) else pvarF T fin (psOf y)):=by
    by_cases q:v=6
    ·rw [if_pos q,if_pos (by omega)]
    ·rw [if_neg q,if_neg (by omega)]
   rw [e6] at k2
   cases hA:(if v=6 then ivarF T fin (psOf y) else pvarF T fin (psOf y)) with
   | error e =>
    rw [hA] at k2
    have hn:z.why≠0:=by
     rw [k2.1]
     split at hA
     ·exact wrdF_err hA
     ·exact wrdF_err hA
    exact ⟨(he hn).1.trans k2.1,(he hn).2.trans k2.2⟩
   | ok va =>
    obtain ⟨va,ps⟩:=va;rw [hA] at k2;obtain ⟨hz0,rfl,rfl,hi2⟩:=k2;dsimp only;by_cases c1:v=1
    ·obtain ⟨rfl,rfl,rfl⟩:=g4 (by omega);subst c1;rw [if_pos rfl];exact ⟨hz0,rfl,rfl,by omega⟩
    ·rw [if_neg c1];by_cases c2:v=2∨v=3
     ·obtain ⟨rfl,r⟩:=g1 (by omega);have r:=r.1 hz0;rw [if_pos c2]
      cases hN:numbF T fin (psOf z) with
      | error e=>rw [hN] at r;exact r
      | ok v2=>rw [hN] at r;obtain ⟨r0,r1,r2,r3⟩:=r;exact ⟨r0,r1,by rw [r2],by omega⟩
     ·rw [if_neg c2];by_cases c4:v=4
      ·obtain ⟨rfl,r⟩:=g2 (by omega);have r:=r.1 hz0;rw [if_pos c4]
       cases hN:pvarF T fin (psOf z) with
       | error e=>rw [hN] at r;exact r
       | ok v2=>rw [hN] at r;obtain ⟨r0,r1,r2,r3⟩:=r;exact ⟨r0,r1,by rw [r2,c4];rfl,by omega⟩
      ·obtain ⟨rfl,r⟩:=g3 (by omega);have r:=r.1 hz0;rw [if_neg c4]
       cases hN:ivarF T fin (psOf z) with
       | error e=>rw [hN] at r;exact r
       | ok v2=>rw [hN] at r;obtain ⟨r0,r1,r2,r3⟩:=r;exact ⟨r0,r1,by rw [r2],by omega⟩
 ·have k1:=h1.2 h0;have hn:y.why≠0:=by rw [k1.1];exact h0
  exact ⟨(he1 hn).1.trans k1.1,(he1 hn).2.trans k1.2⟩
structure CdFm (c:Cd):Prop where
 k0:1≤c.kind
 k1:c.kind≤6
 a0:0<c.a
 a1:c.a≤100
 b0:4≤c.kind→0<c.b
 b1:4≤c.kind→c.b≤100
 n0:-9223372036854775808≤c.n
 n1:c.n≤9223372036854775807
theorem fmtC_len {c:Cd} (h:CdFm c):(fmtC c).length≤40:=by
 have e1:=condNm_len c.kind;have e2:=textF_len ⟨h.n0,h.n1⟩;unfold fmtC;simp only [List.length_append,List.length_singleton]
 have : (if c.kind=1 then vnF c.a else if c.kind=4 then vnF c.a++[32]++vnF c.b else if c.kind=5 then vnF c.a++[32]++inF c.b else if c.kind=6 then inF c.a++[32]++inF c.b else vnF c.a++[32]++textF c.n).length≤24:=by
  repeat' split
  all_goals simp [vnF,inF]
  all_goals omega
 omega
theorem catF {a b c:Bs}:(kstr a++kstr b++({ data:=#[32] }:ByteArray))++kstr c=kstr (a++(b++[32]++c)):=by
 rw [show ({ data:=#[32] }:ByteArray)=kstr [32] from rfl,kstr_app,kstr_app,kstr_app];simp
set_option maxRecDepth 100000 in
set_option maxHeartbeats 2000000 in
theorem rFormatCond_c (c:Cd) (h:CdFm c) (w:World):Calls Tryz.prog 33 #[.agg #[.int .i64 c.kind,.int .i64 c.a,.int .i64 c.b,.int .i64 c.n]] w fun e w'=>e=.returned (.string (kstr (fmtC c)))∧Upd Non w w':=by
 obtain ⟨W,HW⟩:=nm (w.alloc (.cells #[.int .i64 c.kind,.int .i64 c.a,.int .i64 c.b,.int .i64 c.n] 69));have hU:Upd Non w W:=by rw [←HW.out];exact Upd.refl.alloc _
 have hb:Blk W w.heap.size 69 #[.int .i64 c.kind,.int .i64 c.a,.int .i64 c.b,.int .i64 c.n]:=by rw [←HW.out];exact Blk.new _ _ _
 have e0:=HW.out;have HU:=h_ hU;have HB:=h_ hb;have H:=h_ h;have c0:=hb.cell 0;have C:=h_ (fun W=>condNames_c W);have hk0:=h.k0;have hk1:=h.k1;have HF:Hid (fmtC c=(condNm c.kind++[32])++(if c.kind=1 then vnF c.a else if c.kind=4 then vnF c.a++[32]++vnF c.b else if c.kind=5 then vnF c.a++[32]++inF c.b else if c.kind=6 then inF c.a++[32]++inF c.b else vnF c.a++[32]++textF c.n)):=rfl
 obtain ⟨res,Hres⟩:=nm (fmtC c);rw [Hres.out] at HF ⊢;have hzn:(kstr (condNm c.kind)).size≤7:=ksz (condNm_len _);have hz3:(kstr (condNm c.kind++[32])).size≤8:=ksz (by have:=condNm_len c.kind;simp;omega);have h3:kstr (condNm c.kind)++({ data:=#[32] }:ByteArray)=kstr (condNm c.kind++[32]):=kstr_app _ [32];obtain ⟨j,hj⟩:∃j:Nat,c.kind=1+j:=⟨(c.kind - 1).toNat,by omega⟩;have hj6:j<6:=by omega
 have hjl:j<condL.length:=hj6
 have HN:Hid (condNm c.kind=condL[j]):=by
  show _=_;unfold condNm;rw [show (c.kind - 1).toNat=j by omega,List.getD,List.getElem?_eq_getElem hjl,Option.getD_some]
 have tj:1+(j:Int) - 1=(j:Int):=by omega
 have hwj:IntKind.i64.wrap (j:Int)=(j:Int):=by
  simp [IntKind.wrap,IntKind.bits,IntKind.signed];omega
 have hlt6:(j:Int)<6:=by omega
 have HJ:=h_ hj;obtain ⟨ns,Hns⟩:=nm (kstr (condNm c.kind));obtain ⟨s3,Hs3⟩:=nm (kstr (condNm c.kind++[32]));rw [Hns.out] at hzn h3;rw [Hs3.out] at hz3 h3;rw [hj] at c0 e0;rw [hj];clear hU hb h hj hk0 hk1;go_enter Tryz.func33,Tryz.ntmps33
 go_upto_region 1 with fail
 go_cut [3] (fun s wx=>s=.string s3∧Upd Non W wx)
 case first =>
  obtain ⟨wD,HwD⟩:=nm W.drew;have uD:Upd Non W wD:=by rw [←HwD.out];exact Upd.refl.drew
  refine wp_region_held_drew (S:=fun w'=>w'.cell? ⟨w.heap.size,0,none⟩=some (.int .i64 (1+(j:Int)))) (by kernel_rfl) (by rw [HwD.out];exact u_ c0 uD (fun f=>f)) (fun hHeld=>?_)
  rw [HwD.out] at hHeld ⊢;have hq1:¬(9223372036854775807<ns.size+1):=by omega
  refine wpT 1 ?_;(try simp only [y_,z_]);refine wpT 2 ?_;(try simp only [y_,z_]);refine wpT 3 ?_;(try simp only [y_,z_]);refine aR_ (rs:=[0]) (by kernel_rfl) (by simp) ?_;refine aC_ rfl (fun K hK=>?_) aN_;go_simp;refine (C.out _).mono ?_;rintro e w3 ⟨rfl,hs,_,u3⟩;have h3u:Upd Non W w3:=uD.then_non u3;obtain ⟨b,o,e,_,_,hc⟩:=hs.at_ (k:=j) (by simpa [sCells] using hjl);injection e with e
  injection e with e1 e2
  subst e1 e2;have hc2:w3.cell? ⟨wD.heap.size,j,none⟩=some (.string ns):=by rw [Nat.zero_add] at hc;rw [hc,←Hns.out,HN.out];simp [sCells]
  clear hs hc;go_wp2_with fail
  refine hK.out _ _ ?_ (fun hHeld=>?_)
  ·exact u_ c0 h3u (fun f=>f)
  clear hK K;(try simp only [y_,z_]);refine wpT 4 ?_;(try simp only [y_,z_]);refine aR_ (rs:=[5]) (by kernel_rfl) (by simp) ?_;refine aC_ rfl (fun K hK=>?_) aN_;go_simp;refine hK.out _ _ ?_ (fun hHeld=>?_)
  ·exact u_ c0 h3u (fun f=>f)
  clear hK K;(try simp only [y_,z_]);refine wpT 6 ?_;(try simp only [y_,z_]);refine wpT 7 ?_;(try simp only [y_,z_]);refine aD_ (by kernel_rfl) ?_ _;go_wp2_with fail
  go_meet
  case rel=>exact ⟨rfl,h3u⟩
 case rest =>
  obtain ⟨rfl,hwc⟩:=hcut;have HU:=h_ (HU.out.then_non hwc);have hb2:=HB.out.upd hwc (fun f=>f);have d0:=hb2.cell 0;have d1:=hb2.cell 1;have d2:=hb2.cell 2;have d3:=hb2.cell 3;clear c0 e0 hb2 hwc tj hlt6 hwj h3 hzn HN hjl C;obtain ⟨w2,rfl⟩:∃v:World,v=wc:=⟨_,rfl⟩;rw [HJ.out] at d0 HF;rcases (by omega:j=0∨j=3∨j=4∨j=5∨j=1∨j=2) with rfl | rfl | rfl | rfl | rfl | rfl
  ·have d0:w2.cell? ⟨w.heap.size,0,none⟩=some (.int .i64 1):=d0;have HR:Hid (res=(condNm (1+(0:Nat))++[32])++vnF c.a):=by show _=_;rw [HF.out];rfl
   have C1:=h_ (fun W=>rVarName_c c.a H.out.a0 H.out.a1 W);have hz1:(kstr (vnF c.a)).size≤24:=ksz (by simp [vnF])
   have HE:Hid (s3++kstr (vnF c.a)=kstr res):=by
    show _=_;rw [HR.out,←Hs3.out,HJ.out];exact kstr_app _ _
   obtain ⟨p1,Hp1⟩:=nm (kstr (vnF c.a));rw [Hp1.out] at C1 hz1 HE;obtain ⟨ca,Hca⟩:=nm c.a;rw [Hca.out] at d1 C1;clear d2 d3;go_wp2_with fail
   refine (C1.out _).mono ?_;rintro e w3 ⟨rfl,u3⟩;go_wp2_with fail
   go_ret;exact ⟨by rw [←HE.out];rfl,HU.out.then_non u3⟩
  ·have d0:w2.cell? ⟨w.heap.size,0,none⟩=some (.int .i64 4):=d0;have HR:Hid (res=(condNm (1+(3:Nat))++[32])++(vnF c.a++[32]++vnF c.b)):=by show _=_;rw [HF.out];rfl
   have C1:=h_ (fun W=>rVarName_c c.a H.out.a0 H.out.a1 W);have C2:=h_ (fun W=>rVarName_c c.b (H.out.b0 (by have:=HJ.out;omega)) (H.out.b1 (by have:=HJ.out;omega)) W);have hz1:(kstr (vnF c.a)).size≤24:=ksz (by simp [vnF]);have hz2:(kstr (vnF c.b)).size≤24:=ksz (by simp [vnF])
   have HE:Hid ((s3++kstr (vnF c.a)++({ data:=#[32] }:ByteArray))++kstr (vnF c.b)=kstr res):=by
    show _=_;rw [HR.out,←Hs3.out,HJ.out];exact catF
   obtain ⟨p1,Hp1⟩:=nm (kstr (vnF c.a));obtain ⟨p2,Hp2⟩:=nm (kstr (vnF c.b));rw [Hp1.out] at C1 hz1 HE;rw [Hp2.out] at C2 hz2 HE;obtain ⟨ca,Hca⟩:=nm c.a;obtain ⟨cb,Hcb⟩:=nm c.b;rw [Hca.out] at d1 C1;rw [Hcb.out] at d2 C2
   go_upto_region 6 with fail
   obtain ⟨wD,HwD⟩:=nm w2.drew;have uD:Upd Non w2 wD:=by rw [←HwD.out];exact Upd.refl.drew
   refine wp_region_held_drew (S:=fun w'=>w'.cell? ⟨w.heap.size,1,none⟩=some (.int .i64 ca)∧w'.cell? ⟨w.heap.size,2,none⟩=some (.int .i64 cb)) (by kernel_rfl) (by rw [HwD.out];exact ⟨u_ d1 uD (fun f=>f),u_ d2 uD (fun f=>f)⟩) (fun hHeld=>?_)
   skip;rw [HwD.out] at hHeld ⊢;have hq1:¬(9223372036854775807<s3.size+p1.size):=by omega
   have hq2:¬(9223372036854775807<s3.size+p1.size+1):=by omega
   have hq3:¬(9223372036854775807<s3.size+p1.size+1+p2.size):=by omega
   refine wpT 0 ?_;(try simp only [y_,z_]);refine wpT 1 ?_;(try simp only [y_,z_]);refine wpT 2 ?_;(try simp only [y_,z_]);refine wpT 6 ?_;(try simp only [y_,z_]);refine wpT 7 ?_;(try simp only [y_,z_]);refine aR_ (rs:=[3]) (by kernel_rfl) (by simp) ?_;refine aC_ rfl (fun K hK=>?_) aN_;go_simp;refine (C1.out _).mono ?_;rintro e w3 ⟨rfl,u3⟩;have h3:Upd Non w2 w3:=uD.then_non u3;go_wp2_with fail
   refine hK.out _ _ ?_ (fun hHeld=>?_)
   ·exact ⟨u_ d1 h3 (fun f=>f),u_ d2 h3 (fun f=>f)⟩
   clear hK K;(try simp only [y_,z_]);refine wpT 4 ?_;(try simp only [y_,z_]);refine wpT 5 ?_;(try simp only [y_,z_]);refine aR_ (rs:=[8]) (by kernel_rfl) (by simp) ?_;refine aC_ rfl (fun K hK=>?_) aN_;go_simp;refine (C2.out _).mono ?_;rintro e w4 ⟨rfl,u4⟩;have h4:Upd Non w2 w4:=h3.then_non u4;go_wp2_with fail
   refine hK.out _ _ ?_ (fun hHeld=>?_)
   ·exact ⟨u_ d1 h4 (fun f=>f),u_ d2 h4 (fun f=>f)⟩
   clear hK K;(try simp only [y_,z_]);refine wpT 9 ?_;(try simp only [y_,z_]);refine wpT 10 ?_;(try simp only [y_,z_]);refine aD_ (by kernel_rfl) ?_ _;go_wp2_with fail
   go_ret;exact ⟨by rw [←HE.out];rfl,HU.out.then_non h4⟩
  ·have d0:w2.cell? ⟨w.heap.size,0,none⟩=some (.int .i64 5):=d0;have HR:Hid (res=(condNm (1+(4:Nat))++[32])++(vnF c.a++[32]++inF c.b)):=by show _=_;rw [HF.out];rfl
   have C1:=h_ (fun W=>rVarName_c c.a H.out.a0 H.out.a1 W);have C2:=h_ (fun W=>rImmName_c c.b (H.out.b0 (by have:=HJ.out;omega)) (H.out.b1 (by have:=HJ.out;omega)) W);have hz1:(kstr (vnF c.a)).size≤24:=ksz (by simp [vnF]);have hz2:(kstr (inF c.b)).size≤24:=ksz (by simp [inF])
   have HE:Hid ((s3++kstr (vnF c.a)++({ data:=#[32] }:ByteArray))++kstr (inF c.b)=kstr res):=by
    show _=_;rw [HR.out,←Hs3.out,HJ.out];exact catF
   obtain ⟨p1,Hp1⟩:=nm (kstr (vnF c.a));obtain ⟨p2,Hp2⟩:=nm (kstr (inF c.b));rw [Hp1.out] at C1 hz1 HE;rw [Hp2.out] at C2 hz2 HE;obtain ⟨ca,Hca⟩:=nm c.a;obtain ⟨cb,Hcb⟩:=nm c.b;rw [Hca.out] at d1 C1;rw [Hcb.out] at d2 C2
   go_upto_region 8 with fail
   obtain ⟨wD,HwD⟩:=nm w2.drew;have uD:Upd Non w2 wD:=by rw [←HwD.out];exact Upd.refl.drew
   refine wp_region_held_drew (S:=fun w'=>w'.cell? ⟨w.heap.size,1,none⟩=some (.int .i64 ca)∧w'.cell? ⟨w.heap.size,2,none⟩=some (.int .i64 cb)) (by kernel_rfl) (by rw [HwD.out];exact ⟨u_ d1 uD (fun f=>f),u_ d2 uD (fun f=>f)⟩) (fun hHeld=>?_)
   skip;rw [HwD.out] at hHeld ⊢;have hq1:¬(9223372036854775807<s3.size+p1.size):=by omega
   have hq2:¬(9223372036854775807<s3.size+p1.size+1):=by omega
   have hq3:¬(9223372036854775807<s3.size+p1.size+1+p2.size):=by omega
   refine wpT 0 ?_;(try simp only [y_,z_]);refine wpT 1 ?_;(try simp only [y_,z_]);refine wpT 2 ?_;(try simp only [y_,z_]);refine wpT 6 ?_;(try simp only [y_,z_]);refine wpT 7 ?_;(try simp only [y_,z_]);refine aR_ (rs:=[3]) (by kernel_rfl) (by simp) ?_;refine aC_ rfl (fun K hK=>?_) aN_;go_simp;refine (C1.out _).mono ?_;rintro e w3 ⟨rfl,u3⟩;have h3:Upd Non w2 w3:=uD.then_non u3;go_wp2_with fail
   refine hK.out _ _ ?_ (fun hHeld=>?_)
   ·exact ⟨u_ d1 h3 (fun f=>f),u_ d2 h3 (fun f=>f)⟩
   clear hK K;(try simp only [y_,z_]);refine wpT 4 ?_;(try simp only [y_,z_]);refine wpT 5 ?_;(try simp only [y_,z_]);refine aR_ (rs:=[8]) (by kernel_rfl) (by simp) ?_;refine aC_ rfl (fun K hK=>?_) aN_;go_simp;refine (C2.out _).mono ?_;rintro e w4 ⟨rfl,u4⟩;have h4:Upd Non w2 w4:=h3.then_non u4;go_wp2_with fail
   refine hK.out _ _ ?_ (fun hHeld=>?_)
   ·exact ⟨u_ d1 h4 (fun f=>f),u_ d2 h4 (fun f=>f)⟩
   clear hK K;(try simp only [y_,z_]);refine wpT 9 ?_;(try simp only [y_,z_]);refine wpT 10 ?_;(try simp only [y_,z_]);refine aD_ (by kernel_rfl) ?_ _;go_wp2_with fail
   go_ret;exact ⟨by rw [←HE.out];rfl,HU.out.then_non h4⟩
  ·have d0:w2.cell? ⟨w.heap.size,0,none⟩=some (.int .i64 6):=d0;have HR:Hid (res=(condNm (1+(5:Nat))++[32])++(inF c.a++[32]++inF c.b)):=by show _=_;rw [HF.out];rfl
   have C1:=h_ (fun W=>rImmName_c c.a H.out.a0 H.out.a1 W);have C2:=h_ (fun W=>rImmName_c c.b (H.out.b0 (by have:=HJ.out;omega)) (H.out.b1 (by have:=HJ.out;omega)) W);have hz1:(kstr (inF c.a)).size≤24:=ksz (by simp [inF]);have hz2:(kstr (inF c.b)).size≤24:=ksz (by simp [inF])
   have HE:Hid ((s3++kstr (inF c.a)++({ data:=#[32] }:ByteArray))++kstr (inF c.b)=kstr res):=by
    show _=_;rw [HR.out,←Hs3.out,HJ.out];exact catF
   obtain ⟨p1,Hp1⟩:=nm (kstr (inF c.a));obtain ⟨p2,Hp2⟩:=nm (kstr (inF c.b));rw [Hp1.out] at C1 hz1 HE;rw [Hp2.out] at C2 hz2 HE;obtain ⟨ca,Hca⟩:=nm c.a;obtain ⟨cb,Hcb⟩:=nm c.b;rw [Hca.out] at d1 C1;rw [Hcb.out] at d2 C2
   go_upto_region 10 with fail
   obtain ⟨wD,HwD⟩:=nm w2.drew;have uD:Upd Non w2 wD:=by rw [←HwD.out];exact Upd.refl.drew
   refine wp_region_held_drew (S:=fun w'=>w'.cell? ⟨w.heap.size,1,none⟩=some (.int .i64 ca)∧w'.cell? ⟨w.heap.size,2,none⟩=some (.int .i64 cb)) (by kernel_rfl) (by rw [HwD.out];exact ⟨u_ d1 uD (fun f=>f),u_ d2 uD (fun f=>f)⟩) (fun hHeld=>?_)
   skip;rw [HwD.out] at hHeld ⊢;have hq1:¬(9223372036854775807<s3.size+p1.size):=by omega
   have hq2:¬(9223372036854775807<s3.size+p1.size+1):=by omega
   have hq3:¬(9223372036854775807<s3.size+p1.size+1+p2.size):=by omega
   refine wpT 0 ?_;(try simp only [y_,z_]);refine wpT 1 ?_;(try simp only [y_,z_]);refine wpT 2 ?_;(try simp only [y_,z_]);refine wpT 6 ?_;(try simp only [y_,z_]);refine wpT 7 ?_;(try simp only [y_,z_]);refine aR_ (rs:=[3]) (by kernel_rfl) (by simp) ?_;refine aC_ rfl (fun K hK=>?_) aN_;go_simp;refine (C1.out _).mono ?_;rintro e w3 ⟨rfl,u3⟩;have h3:Upd Non w2 w3:=uD.then_non u3;go_wp2_with fail
   refine hK.out _ _ ?_ (fun hHeld=>?_)
   ·exact ⟨u_ d1 h3 (fun f=>f),u_ d2 h3 (fun f=>f)⟩
   clear hK K;(try simp only [y_,z_]);refine wpT 4 ?_;(try simp only [y_,z_]);refine wpT 5 ?_;(try simp only [y_,z_]);refine aR_ (rs:=[8]) (by kernel_rfl) (by simp) ?_;refine aC_ rfl (fun K hK=>?_) aN_;go_simp;refine (C2.out _).mono ?_;rintro e w4 ⟨rfl,u4⟩;have h4:Upd Non w2 w4:=h3.then_non u4;go_wp2_with fail
   refine hK.out _ _ ?_ (fun hHeld=>?_)
   ·exact ⟨u_ d1 h4 (fun f=>f),u_ d2 h4 (fun f=>f)⟩
   clear hK K;(try simp only [y_,z_]);refine wpT 9 ?_;(try simp only [y_,z_]);refine wpT 10 ?_;(try simp only [y_,z_]);refine aD_ (by kernel_rfl) ?_ _;go_wp2_with fail
   go_ret;exact ⟨by rw [←HE.out];rfl,HU.out.then_non h4⟩
  ·have d0:w2.cell? ⟨w.heap.size,0,none⟩=some (.int .i64 2):=d0;have HR:Hid (res=(condNm (1+(1:Nat))++[32])++(vnF c.a++[32]++textF c.n)):=by show _=_;rw [HF.out];rfl
   have C1:=h_ (fun W=>rVarName_c c.a H.out.a0 H.out.a1 W);have C2:=h_ (fun W=>wText_c c.n H.out.n0 H.out.n1 W);have hz1:(kstr (vnF c.a)).size≤24:=ksz (by simp [vnF]);have hz2:(kstr (textF c.n)).size≤24:=ksz (by have:=textF_len ⟨H.out.n0,H.out.n1⟩;omega)
   have HE:Hid ((s3++kstr (vnF c.a)++({ data:=#[32] }:ByteArray))++kstr (textF c.n)=kstr res):=by
    show _=_;rw [HR.out,←Hs3.out,HJ.out];exact catF
   obtain ⟨p1,Hp1⟩:=nm (kstr (vnF c.a));obtain ⟨p2,Hp2⟩:=nm (kstr (textF c.n));rw [Hp1.out] at C1 hz1 HE;rw [Hp2.out] at C2 hz2 HE;obtain ⟨ca,Hca⟩:=nm c.a;obtain ⟨cb,Hcb⟩:=nm c.n;rw [Hca.out] at d1 C1;rw [Hcb.out] at d3 C2
   go_upto_region 11 with fail
   obtain ⟨wD,HwD⟩:=nm w2.drew;have uD:Upd Non w2 wD:=by rw [←HwD.out];exact Upd.refl.drew
   refine wp_region_held_drew (S:=fun w'=>w'.cell? ⟨w.heap.size,1,none⟩=some (.int .i64 ca)∧w'.cell? ⟨w.heap.size,3,none⟩=some (.int .i64 cb)) (by kernel_rfl) (by rw [HwD.out];exact ⟨u_ d1 uD (fun f=>f),u_ d3 uD (fun f=>f)⟩) (fun hHeld=>?_)
   have d2:=d3;rw [HwD.out] at hHeld ⊢;have hq1:¬(9223372036854775807<s3.size+p1.size):=by omega
   have hq2:¬(9223372036854775807<s3.size+p1.size+1):=by omega
   have hq3:¬(9223372036854775807<s3.size+p1.size+1+p2.size):=by omega
   refine wpT 0 ?_;(try simp only [y_,z_]);refine wpT 1 ?_;(try simp only [y_,z_]);refine wpT 2 ?_;(try simp only [y_,z_]);refine wpT 6 ?_;(try simp only [y_,z_]);refine wpT 7 ?_;(try simp only [y_,z_]);refine aR_ (rs:=[3]) (by kernel_rfl) (by simp) ?_;refine aC_ rfl (fun K hK=>?_) aN_;go_simp;refine (C1.out _).mono ?_;rintro e w3 ⟨rfl,u3⟩;have h3:Upd Non w2 w3:=uD.then_non u3;go_wp2_with fail
   refine hK.out _ _ ?_ (fun hHeld=>?_)
   ·exact ⟨u_ d1 h3 (fun f=>f),u_ d2 h3 (fun f=>f)⟩
   clear hK K;(try simp only [y_,z_]);refine wpT 4 ?_;(try simp only [y_,z_]);refine wpT 5 ?_;(try simp only [y_,z_]);refine aR_ (rs:=[8]) (by kernel_rfl) (by simp) ?_;refine aC_ rfl (fun K hK=>?_) aN_;go_simp;refine (C2.out _).mono ?_;rintro e w4 ⟨rfl,u4⟩;have h4:Upd Non w2 w4:=h3.then_non u4;go_wp2_with fail
   refine hK.out _ _ ?_ (fun hHeld=>?_)
   ·exact ⟨u_ d1 h4 (fun f=>f),u_ d2 h4 (fun f=>f)⟩
   clear hK K;(try simp only [y_,z_]);refine wpT 9 ?_;(try simp only [y_,z_]);refine wpT 10 ?_;(try simp only [y_,z_]);refine aD_ (by kernel_rfl) ?_ _;go_wp2_with fail
   go_ret;exact ⟨by rw [←HE.out];rfl,HU.out.then_non h4⟩
  ·have d0:w2.cell? ⟨w.heap.size,0,none⟩=some (.int .i64 3):=d0;have HR:Hid (res=(condNm (1+(2:Nat))++[32])++(vnF c.a++[32]++textF c.n)):=by show _=_;rw [HF.out];rfl
   have C1:=h_ (fun W=>rVarName_c c.a H.out.a0 H.out.a1 W);have C2:=h_ (fun W=>wText_c c.n H.out.n0 H.out.n1 W);have hz1:(kstr (vnF c.a)).size≤24:=ksz (by simp [vnF]);have hz2:(kstr (textF c.n)).size≤24:=ksz (by have:=textF_len ⟨H.out.n0,H.out.n1⟩;omega)
   have HE:Hid ((s3++kstr (vnF c.a)++({ data:=#[32] }:ByteArray))++kstr (textF c.n)=kstr res):=by
    show _=_;rw [HR.out,←Hs3.out,HJ.out];exact catF
   obtain ⟨p1,Hp1⟩:=nm (kstr (vnF c.a));obtain ⟨p2,Hp2⟩:=nm (kstr (textF c.n));rw [Hp1.out] at C1 hz1 HE;rw [Hp2.out] at C2 hz2 HE;obtain ⟨ca,Hca⟩:=nm c.a;obtain ⟨cb,Hcb⟩:=nm c.n;rw [Hca.out] at d1 C1;rw [Hcb.out] at d3 C2
   go_upto_region 11 with fail
   obtain ⟨wD,HwD⟩:=nm w2.drew;have uD:Upd Non w2 wD:=by rw [←HwD.out];exact Upd.refl.drew
   refine wp_region_held_drew (S:=fun w'=>w'.cell? ⟨w.heap.size,1,none⟩=some (.int .i64 ca)∧w'.cell? ⟨w.heap.size,3,none⟩=some (.int .i64 cb)) (by kernel_rfl) (by rw [HwD.out];exact ⟨u_ d1 uD (fun f=>f),u_ d3 uD (fun f=>f)⟩) (fun hHeld=>?_)
   have d2:=d3;rw [HwD.out] at hHeld ⊢;have hq1:¬(9223372036854775807<s3.size+p1.size):=by omega
   have hq2:¬(9223372036854775807<s3.size+p1.size+1):=by omega
   have hq3:¬(9223372036854775807<s3.size+p1.size+1+p2.size):=by omega
   refine wpT 0 ?_;(try simp only [y_,z_]);refine wpT 1 ?_;(try simp only [y_,z_]);refine wpT 2 ?_;(try simp only [y_,z_]);refine wpT 6 ?_;(try simp only [y_,z_]);refine wpT 7 ?_;(try simp only [y_,z_]);refine aR_ (rs:=[3]) (by kernel_rfl) (by simp) ?_;refine aC_ rfl (fun K hK=>?_) aN_;go_simp;refine (C1.out _).mono ?_;rintro e w3 ⟨rfl,u3⟩;have h3:Upd Non w2 w3:=uD.then_non u3;go_wp2_with fail
   refine hK.out _ _ ?_ (fun hHeld=>?_)
   ·exact ⟨u_ d1 h3 (fun f=>f),u_ d2 h3 (fun f=>f)⟩
   clear hK K;(try simp only [y_,z_]);refine wpT 4 ?_;(try simp only [y_,z_]);refine wpT 5 ?_;(try simp only [y_,z_]);refine aR_ (rs:=[8]) (by kernel_rfl) (by simp) ?_;refine aC_ rfl (fun K hK=>?_) aN_;go_simp;refine (C2.out _).mono ?_;rintro e w4 ⟨rfl,u4⟩;have h4:Upd Non w2 w4:=h3.then_non u4;go_wp2_with fail
   refine hK.out _ _ ?_ (fun hHeld=>?_)
   ·exact ⟨u_ d1 h4 (fun f=>f),u_ d2 h4 (fun f=>f)⟩
   clear hK K;(try simp only [y_,z_]);refine wpT 9 ?_;(try simp only [y_,z_]);refine wpT 10 ?_;(try simp only [y_,z_]);refine aD_ (by kernel_rfl) ?_ _;go_wp2_with fail
   go_ret;exact ⟨by rw [←HE.out];rfl,HU.out.then_non h4⟩
def CondP (T:List (Bs×Nat)) (w:World) (p:Nat) (A:Option Addr) (c:Nat) (L:List Tok) (x:St) (r:Except Er (Cd×PS)) (e:Ending) (w':World):Prop :=
 ∃(cd:Cd) (y:St),e=.returned (.agg #[.int .i64 cd.kind,.int .i64 cd.a,.int .i64 cd.b,.int .i64 cd.n])∧RdS w' p A c L y∧Good T y∧y.left=x.left∧(∀k,y.own p k→x.own p k∨w.heap.size≤k)∧Upd (x.own p) w w'∧ResS x y r (fun v=>v=cd∧x.i+1≤y.i)
theorem hcfC:∀(args:Array Value) (w:World),(callFunc 98 args).run Tryz.prog w=.ok (.enter 98 args) w:=fun args w=>by
 simp [callFunc,Tryz.func98,Tryz.f98]
set_option maxRecDepth 100000 in
set_option maxHeartbeats 4000000 in
theorem rCond_c {L:List Tok} {T:List (Bs×Nat)} {fin:Nat} (hL:LOk L T fin) {w:World} {p:Nat} {A:Option Addr} {c:Nat} {x:St} (h:RdS w p A c L x) (hx:Good T x) (hlf:x.left=false) :
  Calls Tryz.prog 65 #[.pointer (some ⟨p,0,none⟩)] w (CondP T w p A c L x (pcondF T fin (psOf x))):=by
 obtain ⟨W1,HW1⟩:=nm (w.alloc (.cells #[.int .i64 0,.int .i64 0,.int .i64 0,.int .i64 0] 69));have u1:Upd Non w W1:=by rw [←HW1.out];exact Upd.refl.alloc _
 have b1:Blk W1 w.heap.size 69 (cdc 0):=by rw [←HW1.out];exact Blk.new _ _ _
 have s1:W1.heap.size=w.heap.size+1:=by rw [←HW1.out];simp
 obtain ⟨W2,HW2⟩:=nm (W1.alloc (.cells #[.int .i64 0,.int .i64 0,.int .i64 0,.int .i64 0] 69));have u2:Upd Non W1 W2:=by rw [←HW2.out];exact Upd.refl.alloc _
 have b2:Blk W2 (w.heap.size+1) 69 (cdc 0):=by rw [←HW2.out,←s1];exact Blk.new _ _ _
 have s2:W2.heap.size=w.heap.size+2:=by rw [←HW2.out];simp [s1]
 have b1:=b1.upd u2 (fun f=>f);have u2:=u1.then_non u2;have hpw:p<w.heap.size:=h.blk.lt;have hown:∀j,x.own p j→j<w.heap.size:=fun j hj=>h.lt hj
 have h2:=h.non u2;have HS:Hid (LocS 2 w W2 p A c L x x):=⟨h2,fun k q=>.inl q,hown,u2.mono (fun _ _ f=>f.elim),by omega⟩
 have CW:=h_ (rWordG_c hL h2 hx 98 #[.pointer (some ⟨w.heap.size+1,0,none⟩)] hcfC cdc 0 b2 (by omega) knF (fun (v:Nat) k=>k=(v:Int))
  (fun s ps v y q=>by
   unfold knF at q
   cases hf:findL condL s 0 with
   | none=>rw [hf] at q;cases q
   | some i=>rw [hf] at q;simp only [Option.map_some] at q;injection q with q;injection q with _ q;subst q;exact ⟨Nat.le_succ _,Nat.le_succ _⟩)
  (fun s w1 _ _ _ u01=>rCond1_c (h2.non u01) s (b2.upd u01 (fun f=>f)) (fun q=>by have:=hown _ q;omega) (by omega)))
 have e1:=HW1.out;have e2:=HW2.out;have HB1:=h_ b1;clear h h2 b1 b2 u1 u2 HW1 HW2;go_enter Tryz.func65,Tryz.ntmps65;go_wp2_with fail
 refine CW.out.mono ?_;rintro e w3 hw3;have HW3:=h_ hw3;clear hw3 CW e1 e2;obtain ⟨k,y,ts,tp,ev,_,hb3,hy3,hg3,hl3,ho3,hu3,hr3⟩:=HW3.out;subst ev;have hle3:=hu3.size
 have HS3:Hid (LocS 2 w w3 p A c L x y):=⟨hy3,fun j q=>by
  rcases ho3 j q with r | r
  ·exact .inl r
  ·exact .inr (by omega),hown,HS.out.upd.trans hu3 (fun j hj q=>by rcases q with q | q;exact q;omega),by omega⟩
 have HP3:Hid (Blk w3 (w.heap.size+1) 69 #[.int .i64 k,.int .i64 0,.int .i64 0,.int .i64 0]):=hb3
 have HR3:=h_ (HB1.out.upd hu3 (fun q=>by
  rcases q with q | q
  ·have:=hown _ q;omega
  ·omega))
 have HLY:Hid (y.left=false):=hl3.trans hlf;have HGY:=h_ hg3;have HRY:Hid (ResS x y (kindF T fin (psOf x)) (fun (v:Nat)=>k=(v:Int)∧x.i+1≤y.i)):=hr3;have z0:=HP3.out.cell 0;clear hb3 hy3 hg3 hl3 ho3 hu3 hr3 HW3 HS HB1;by_cases h6:k=6
 ·subst h6;have CA:=h_ (rImmVar_c hL HS3.out.rd HGY.out);go_wp2_with fail
  refine CA.out.mono ?_;rintro e w4 hw4;have HW4:=h_ hw4;clear hw4 CA;obtain ⟨a,z,ev,hz4,hgz,hlz,hoz,huz,hrz⟩:=HW4.out;subst ev;have HS4:=h_ (HS3.out.call hz4 hoz huz);have hb4:=HS3.out.keep huz (b:=w.heap.size+1) (by omega) (by omega) HP3.out;have HR4:=h_ (HS3.out.keep huz (b:=w.heap.size) (by omega) (by omega) HR3.out);have HGZ:=h_ hgz;have HLZ:Hid (z.left=false):=hlz.trans HLY.out;have HRZ:=h_ hrz;have v1:=hb4.cell 1;have vf:=hb4.frozen 1;obtain ⟨w5,Hw5⟩:=nm (w4.setCell ⟨w.heap.size+1,1,none⟩ (.int .i64 a));have e5:=Hw5.out;have u5:Upd (·=w.heap.size+1) w4 w5:=by rw [←e5];exact updCell _ _ _ _
  have hb5:Blk w5 (w.heap.size+1) 69 #[.int .i64 6,.int .i64 a,.int .i64 0,.int .i64 0]:=by rw [←e5];simpa using hb4.set_ 1 (.int .i64 a)
  have HS5:=h_ (HS4.out.loc u5 (by omega) (by omega));have HR5:=h_ (HR4.out.upd u5 (by omega));have v0:=hb5.cell 0;have HP5:=h_ hb5;clear hz4 hgz hlz hoz huz hrz hb4 hb5 HW4;have HRZ:Hid (ResS y z (if (6:Int)=6 then ivarF T fin (psOf y) else pvarF T fin (psOf y)) (fun (v:Nat)=>a=(v:Int)∧y.i+1≤z.i)):=by show ResS _ _ _ _;rw [if_pos rfl];exact HRZ.out
  have CA:=h_ (rImmVar_c hL HS5.out.rd HGZ.out);go_wp2_with fail
  refine CA.out.mono ?_;rintro e w6 hw6;have HW6:=h_ hw6;clear hw6 CA e5 v1 vf z0;obtain ⟨bb,u,ev,hu6,hgu,hlu,hou,huu,hru⟩:=HW6.out;subst ev;have HS6:=h_ (HS5.out.call hu6 hou huu);have hb6:=HS5.out.keep huu (b:=w.heap.size+1) (by omega) (by omega) HP5.out;have HR6:=h_ (HS5.out.keep huu (b:=w.heap.size) (by omega) (by omega) HR5.out);have HGU:=h_ hgu;have HLU:Hid (u.left=false):=hlu.trans HLZ.out;have HRU:=h_ hru;have q1:=hb6.cell 2;have qf:=hb6.frozen 2;obtain ⟨w7,Hw7⟩:=nm (w6.setCell ⟨w.heap.size+1,2,none⟩ (.int .i64 bb));have e7:=Hw7.out;have u7:Upd (·=w.heap.size+1) w6 w7:=by rw [←e7];exact updCell _ _ _ _
  have hb7:Blk w7 (w.heap.size+1) 69 #[.int .i64 6,.int .i64 a,.int .i64 bb,.int .i64 0]:=by rw [←e7];simpa using hb6.set_ 2 (.int .i64 bb)
  have HSF:=h_ (HS6.out.loc u7 (by omega) (by omega));have HRF:=h_ (HR6.out.upd u7 (by omega));have HPF:=h_ hb7;clear hu6 hgu hlu hou huu hru hb6 hb7 HW6;have HCD:Hid (CdR T fin z u 6 bb 0):=⟨fun q=>absurd q (by omega),fun q=>absurd q (by omega),fun _=>⟨rfl,HRU.out⟩,fun q=>absurd q (by omega),HRU.out.2⟩
  have g0:=HPF.out.cell 0;have g1:=HPF.out.cell 1;have g2:=HPF.out.cell 2;have g3:=HPF.out.cell 3;have hrf:=HRF.out;unfold cdc at hrf;have r0:=hrf.cell 0;have r1:=hrf.cell 1;have r2:=hrf.cell 2;have r3:=hrf.cell 3;have rf:=hrf.frozen;have HRF2:=h_ hrf;clear hrf v0;go_wp2_with fail
  rw [set4_eq];refine bodyPost_ret (results_cell_row rfl _ _ w.heap.size 69 _ (0,0) _ rfl (set4_blk HRF2.out _ _ _ _) Tryz.underlying69 rfl (by kernel_rfl)) rfl ?_;have HSL:=HSF.out.loc (set4_upd _ w.heap.size (.int .i64 6) (.int .i64 a) (.int .i64 bb) (.int .i64 0)) (Nat.le_refl _) (by omega);exact ⟨⟨6,a,bb,0⟩,u,rfl,HSL.rd,HGU.out,by rw [HLU.out,hlf],fun j q=>(HSL.own j q).imp_right (fun r=>by omega),HSL.upd,pcond_fin HRY.out HRZ.out HCD.out⟩
 by_cases h2:k=2
 ·subst h2;have CA:=h_ (rPatternVar_c hL HS3.out.rd HGY.out HLY.out);go_wp2_with fail
  refine CA.out.mono ?_;rintro e w4 hw4;have HW4:=h_ hw4;clear hw4 CA;obtain ⟨a,z,ev,hz4,hgz,hlz,hoz,huz,hrz⟩:=HW4.out;subst ev;have HS4:=h_ (HS3.out.call hz4 hoz huz);have hb4:=HS3.out.keep huz (b:=w.heap.size+1) (by omega) (by omega) HP3.out;have HR4:=h_ (HS3.out.keep huz (b:=w.heap.size) (by omega) (by omega) HR3.out);have HGZ:=h_ hgz;have HLZ:Hid (z.left=false):=hlz.trans HLY.out;have HRZ:=h_ hrz;have v1:=hb4.cell 1;have vf:=hb4.frozen 1;obtain ⟨w5,Hw5⟩:=nm (w4.setCell ⟨w.heap.size+1,1,none⟩ (.int .i64 a));have e5:=Hw5.out;have u5:Upd (·=w.heap.size+1) w4 w5:=by rw [←e5];exact updCell _ _ _ _
  have hb5:Blk w5 (w.heap.size+1) 69 #[.int .i64 2,.int .i64 a,.int .i64 0,.int .i64 0]:=by rw [←e5];simpa using hb4.set_ 1 (.int .i64 a)
  have HS5:=h_ (HS4.out.loc u5 (by omega) (by omega));have HR5:=h_ (HR4.out.upd u5 (by omega));have v0:=hb5.cell 0;have HP5:=h_ hb5;clear hz4 hgz hlz hoz huz hrz hb4 hb5 HW4;have HRZ:Hid (ResS y z (if (2:Int)=6 then ivarF T fin (psOf y) else pvarF T fin (psOf y)) (fun (v:Nat)=>a=(v:Int)∧y.i+1≤z.i)):=by show ResS _ _ _ _;rw [if_neg (by decide)];exact HRZ.out
  have CA:=h_ (rNumber_c hL HS5.out.rd HGZ.out);go_wp2_with fail
  refine CA.out.mono ?_;rintro e w6 hw6;have HW6:=h_ hw6;clear hw6 CA e5 v1 vf z0;obtain ⟨nn,u,ev,hu6,hgu,hlu,hou,huu,hru⟩:=HW6.out;subst ev;have HS6:=h_ (HS5.out.call hu6 hou huu);have hb6:=HS5.out.keep huu (b:=w.heap.size+1) (by omega) (by omega) HP5.out;have HR6:=h_ (HS5.out.keep huu (b:=w.heap.size) (by omega) (by omega) HR5.out);have HGU:=h_ hgu;have HLU:Hid (u.left=false):=hlu.trans HLZ.out;have HRU:=h_ hru;have q1:=hb6.cell 3;have qf:=hb6.frozen 3;obtain ⟨w7,Hw7⟩:=nm (w6.setCell ⟨w.heap.size+1,3,none⟩ (.int .i64 nn));have e7:=Hw7.out;have u7:Upd (·=w.heap.size+1) w6 w7:=by rw [←e7];exact updCell _ _ _ _
  have hb7:Blk w7 (w.heap.size+1) 69 #[.int .i64 2,.int .i64 a,.int .i64 0,.int .i64 nn]:=by rw [←e7];simpa using hb6.set_ 3 (.int .i64 nn)
  have HSF:=h_ (HS6.out.loc u7 (by omega) (by omega));have HRF:=h_ (HR6.out.upd u7 (by omega));have HPF:=h_ hb7;clear hu6 hgu hlu hou huu hru hb6 hb7 HW6;have HCD:Hid (CdR T fin z u 2 0 nn):=⟨fun _=>⟨rfl,HRU.out⟩,fun q=>absurd q (by omega),fun q=>absurd q (by omega),fun q=>absurd q (by omega),HRU.out.2⟩
  have g0:=HPF.out.cell 0;have g1:=HPF.out.cell 1;have g2:=HPF.out.cell 2;have g3:=HPF.out.cell 3;have hrf:=HRF.out;unfold cdc at hrf;have r0:=hrf.cell 0;have r1:=hrf.cell 1;have r2:=hrf.cell 2;have r3:=hrf.cell 3;have rf:=hrf.frozen;have HRF2:=h_ hrf;clear hrf v0;go_wp2_with fail
  rw [set4_eq];refine bodyPost_ret (results_cell_row rfl _ _ w.heap.size 69 _ (0,0) _ rfl (set4_blk HRF2.out _ _ _ _) Tryz.underlying69 rfl (by kernel_rfl)) rfl ?_;have HSL:=HSF.out.loc (set4_upd _ w.heap.size (.int .i64 2) (.int .i64 a) (.int .i64 0) (.int .i64 nn)) (Nat.le_refl _) (by omega);exact ⟨⟨2,a,0,nn⟩,u,rfl,HSL.rd,HGU.out,by rw [HLU.out,hlf],fun j q=>(HSL.own j q).imp_right (fun r=>by omega),HSL.upd,pcond_fin HRY.out HRZ.out HCD.out⟩
 by_cases h3:k=3
 ·subst h3;have CA:=h_ (rPatternVar_c hL HS3.out.rd HGY.out HLY.out);go_wp2_with fail
  refine CA.out.mono ?_;rintro e w4 hw4;have HW4:=h_ hw4;clear hw4 CA;obtain ⟨a,z,ev,hz4,hgz,hlz,hoz,huz,hrz⟩:=HW4.out;subst ev;have HS4:=h_ (HS3.out.call hz4 hoz huz);have hb4:=HS3.out.keep huz (b:=w.heap.size+1) (by omega) (by omega) HP3.out;have HR4:=h_ (HS3.out.keep huz (b:=w.heap.size) (by omega) (by omega) HR3.out);have HGZ:=h_ hgz;have HLZ:Hid (z.left=false):=hlz.trans HLY.out;have HRZ:=h_ hrz;have v1:=hb4.cell 1;have vf:=hb4.frozen 1;obtain ⟨w5,Hw5⟩:=nm (w4.setCell ⟨w.heap.size+1,1,none⟩ (.int .i64 a));have e5:=Hw5.out;have u5:Upd (·=w.heap.size+1) w4 w5:=by rw [←e5];exact updCell _ _ _ _
  have hb5:Blk w5 (w.heap.size+1) 69 #[.int .i64 3,.int .i64 a,.int .i64 0,.int .i64 0]:=by rw [←e5];simpa using hb4.set_ 1 (.int .i64 a)
  have HS5:=h_ (HS4.out.loc u5 (by omega) (by omega));have HR5:=h_ (HR4.out.upd u5 (by omega));have v0:=hb5.cell 0;have HP5:=h_ hb5;clear hz4 hgz hlz hoz huz hrz hb4 hb5 HW4;have HRZ:Hid (ResS y z (if (3:Int)=6 then ivarF T fin (psOf y) else pvarF T fin (psOf y)) (fun (v:Nat)=>a=(v:Int)∧y.i+1≤z.i)):=by show ResS _ _ _ _;rw [if_neg (by decide)];exact HRZ.out
  have CA:=h_ (rNumber_c hL HS5.out.rd HGZ.out);go_wp2_with fail
  refine CA.out.mono ?_;rintro e w6 hw6;have HW6:=h_ hw6;clear hw6 CA e5 v1 vf z0;obtain ⟨nn,u,ev,hu6,hgu,hlu,hou,huu,hru⟩:=HW6.out;subst ev;have HS6:=h_ (HS5.out.call hu6 hou huu);have hb6:=HS5.out.keep huu (b:=w.heap.size+1) (by omega) (by omega) HP5.out;have HR6:=h_ (HS5.out.keep huu (b:=w.heap.size) (by omega) (by omega) HR5.out);have HGU:=h_ hgu;have HLU:Hid (u.left=false):=hlu.trans HLZ.out;have HRU:=h_ hru;have q1:=hb6.cell 3;have qf:=hb6.frozen 3;obtain ⟨w7,Hw7⟩:=nm (w6.setCell ⟨w.heap.size+1,3,none⟩ (.int .i64 nn));have e7:=Hw7.out;have u7:Upd (·=w.heap.size+1) w6 w7:=by rw [←e7];exact updCell _ _ _ _
  have hb7:Blk w7 (w.heap.size+1) 69 #[.int .i64 3,.int .i64 a,.int .i64 0,.int .i64 nn]:=by rw [←e7];simpa using hb6.set_ 3 (.int .i64 nn)
  have HSF:=h_ (HS6.out.loc u7 (by omega) (by omega));have HRF:=h_ (HR6.out.upd u7 (by omega));have HPF:=h_ hb7;clear hu6 hgu hlu hou huu hru hb6 hb7 HW6;have HCD:Hid (CdR T fin z u 3 0 nn):=⟨fun _=>⟨rfl,HRU.out⟩,fun q=>absurd q (by omega),fun q=>absurd q (by omega),fun q=>absurd q (by omega),HRU.out.2⟩
  have g0:=HPF.out.cell 0;have g1:=HPF.out.cell 1;have g2:=HPF.out.cell 2;have g3:=HPF.out.cell 3;have hrf:=HRF.out;unfold cdc at hrf;have r0:=hrf.cell 0;have r1:=hrf.cell 1;have r2:=hrf.cell 2;have r3:=hrf.cell 3;have rf:=hrf.frozen;have HRF2:=h_ hrf;clear hrf v0;go_wp2_with fail
  rw [set4_eq];refine bodyPost_ret (results_cell_row rfl _ _ w.heap.size 69 _ (0,0) _ rfl (set4_blk HRF2.out _ _ _ _) Tryz.underlying69 rfl (by kernel_rfl)) rfl ?_;have HSL:=HSF.out.loc (set4_upd _ w.heap.size (.int .i64 3) (.int .i64 a) (.int .i64 0) (.int .i64 nn)) (Nat.le_refl _) (by omega);exact ⟨⟨3,a,0,nn⟩,u,rfl,HSL.rd,HGU.out,by rw [HLU.out,hlf],fun j q=>(HSL.own j q).imp_right (fun r=>by omega),HSL.upd,pcond_fin HRY.out HRZ.out HCD.out⟩
 by_cases h4:k=4
 ·subst h4;have CA:=h_ (rPatternVar_c hL HS3.out.rd HGY.out HLY.out);go_wp2_with fail
  refine CA.out.mono ?_;rintro e w4 hw4;have HW4:=h_ hw4;clear hw4 CA;obtain ⟨a,z,ev,hz4,hgz,hlz,hoz,huz,hrz⟩:=HW4.out;subst ev;have HS4:=h_ (HS3.out.call hz4 hoz huz);have hb4:=HS3.out.keep huz (b:=w.heap.size+1) (by omega) (by omega) HP3.out;have HR4:=h_ (HS3.out.keep huz (b:=w.heap.size) (by omega) (by omega) HR3.out);have HGZ:=h_ hgz;have HLZ:Hid (z.left=false):=hlz.trans HLY.out;have HRZ:=h_ hrz;have v1:=hb4.cell 1;have vf:=hb4.frozen 1;obtain ⟨w5,Hw5⟩:=nm (w4.setCell ⟨w.heap.size+1,1,none⟩ (.int .i64 a));have e5:=Hw5.out;have u5:Upd (·=w.heap.size+1) w4 w5:=by rw [←e5];exact updCell _ _ _ _
  have hb5:Blk w5 (w.heap.size+1) 69 #[.int .i64 4,.int .i64 a,.int .i64 0,.int .i64 0]:=by rw [←e5];simpa using hb4.set_ 1 (.int .i64 a)
  have HS5:=h_ (HS4.out.loc u5 (by omega) (by omega));have HR5:=h_ (HR4.out.upd u5 (by omega));have v0:=hb5.cell 0;have HP5:=h_ hb5;clear hz4 hgz hlz hoz huz hrz hb4 hb5 HW4;have HRZ:Hid (ResS y z (if (4:Int)=6 then ivarF T fin (psOf y) else pvarF T fin (psOf y)) (fun (v:Nat)=>a=(v:Int)∧y.i+1≤z.i)):=by show ResS _ _ _ _;rw [if_neg (by decide)];exact HRZ.out
  have CA:=h_ (rPatternVar_c hL HS5.out.rd HGZ.out HLZ.out);go_wp2_with fail
  refine CA.out.mono ?_;rintro e w6 hw6;have HW6:=h_ hw6;clear hw6 CA e5 v1 vf z0;obtain ⟨bb,u,ev,hu6,hgu,hlu,hou,huu,hru⟩:=HW6.out;subst ev;have HS6:=h_ (HS5.out.call hu6 hou huu);have hb6:=HS5.out.keep huu (b:=w.heap.size+1) (by omega) (by omega) HP5.out;have HR6:=h_ (HS5.out.keep huu (b:=w.heap.size) (by omega) (by omega) HR5.out);have HGU:=h_ hgu;have HLU:Hid (u.left=false):=hlu.trans HLZ.out;have HRU:=h_ hru;have q1:=hb6.cell 2;have qf:=hb6.frozen 2;obtain ⟨w7,Hw7⟩:=nm (w6.setCell ⟨w.heap.size+1,2,none⟩ (.int .i64 bb));have e7:=Hw7.out;have u7:Upd (·=w.heap.size+1) w6 w7:=by rw [←e7];exact updCell _ _ _ _
  have hb7:Blk w7 (w.heap.size+1) 69 #[.int .i64 4,.int .i64 a,.int .i64 bb,.int .i64 0]:=by rw [←e7];simpa using hb6.set_ 2 (.int .i64 bb)
  have HSF:=h_ (HS6.out.loc u7 (by omega) (by omega));have HRF:=h_ (HR6.out.upd u7 (by omega));have HPF:=h_ hb7;clear hu6 hgu hlu hou huu hru hb6 hb7 HW6;have HCD:Hid (CdR T fin z u 4 bb 0):=⟨fun q=>absurd q (by omega),fun _=>⟨rfl,HRU.out⟩,fun q=>absurd q (by omega),fun q=>absurd q (by omega),HRU.out.2⟩
  have g0:=HPF.out.cell 0;have g1:=HPF.out.cell 1;have g2:=HPF.out.cell 2;have g3:=HPF.out.cell 3;have hrf:=HRF.out;unfold cdc at hrf;have r0:=hrf.cell 0;have r1:=hrf.cell 1;have r2:=hrf.cell 2;have r3:=hrf.cell 3;have rf:=hrf.frozen;have HRF2:=h_ hrf;clear hrf v0;go_wp2_with fail
  rw [set4_eq];refine bodyPost_ret (results_cell_row rfl _ _ w.heap.size 69 _ (0,0) _ rfl (set4_blk HRF2.out _ _ _ _) Tryz.underlying69 rfl (by kernel_rfl)) rfl ?_;have HSL:=HSF.out.loc (set4_upd _ w.heap.size (.int .i64 4) (.int .i64 a) (.int .i64 bb) (.int .i64 0)) (Nat.le_refl _) (by omega);exact ⟨⟨4,a,bb,0⟩,u,rfl,HSL.rd,HGU.out,by rw [HLU.out,hlf],fun j q=>(HSL.own j q).imp_right (fun r=>by omega),HSL.upd,pcond_fin HRY.out HRZ.out HCD.out⟩
 by_cases h5:k=5
 ·subst h5;have CA:=h_ (rPatternVar_c hL HS3.out.rd HGY.out HLY.out);go_wp2_with fail
  refine CA.out.mono ?_;rintro e w4 hw4;have HW4:=h_ hw4;clear hw4 CA;obtain ⟨a,z,ev,hz4,hgz,hlz,hoz,huz,hrz⟩:=HW4.out;subst ev;have HS4:=h_ (HS3.out.call hz4 hoz huz);have hb4:=HS3.out.keep huz (b:=w.heap.size+1) (by omega) (by omega) HP3.out;have HR4:=h_ (HS3.out.keep huz (b:=w.heap.size) (by omega) (by omega) HR3.out);have HGZ:=h_ hgz;have HLZ:Hid (z.left=false):=hlz.trans HLY.out;have HRZ:=h_ hrz;have v1:=hb4.cell 1;have vf:=hb4.frozen 1;obtain ⟨w5,Hw5⟩:=nm (w4.setCell ⟨w.heap.size+1,1,none⟩ (.int .i64 a));have e5:=Hw5.out;have u5:Upd (·=w.heap.size+1) w4 w5:=by rw [←e5];exact updCell _ _ _ _
  have hb5:Blk w5 (w.heap.size+1) 69 #[.int .i64 5,.int .i64 a,.int .i64 0,.int .i64 0]:=by rw [←e5];simpa using hb4.set_ 1 (.int .i64 a)
  have HS5:=h_ (HS4.out.loc u5 (by omega) (by omega));have HR5:=h_ (HR4.out.upd u5 (by omega));have v0:=hb5.cell 0;have HP5:=h_ hb5;clear hz4 hgz hlz hoz huz hrz hb4 hb5 HW4;have HRZ:Hid (ResS y z (if (5:Int)=6 then ivarF T fin (psOf y) else pvarF T fin (psOf y)) (fun (v:Nat)=>a=(v:Int)∧y.i+1≤z.i)):=by show ResS _ _ _ _;rw [if_neg (by decide)];exact HRZ.out
  have CA:=h_ (rImmVar_c hL HS5.out.rd HGZ.out);go_wp2_with fail
  refine CA.out.mono ?_;rintro e w6 hw6;have HW6:=h_ hw6;clear hw6 CA e5 v1 vf z0;obtain ⟨bb,u,ev,hu6,hgu,hlu,hou,huu,hru⟩:=HW6.out;subst ev;have HS6:=h_ (HS5.out.call hu6 hou huu);have hb6:=HS5.out.keep huu (b:=w.heap.size+1) (by omega) (by omega) HP5.out;have HR6:=h_ (HS5.out.keep huu (b:=w.heap.size) (by omega) (by omega) HR5.out);have HGU:=h_ hgu;have HLU:Hid (u.left=false):=hlu.trans HLZ.out;have HRU:=h_ hru;have q1:=hb6.cell 2;have qf:=hb6.frozen 2;obtain ⟨w7,Hw7⟩:=nm (w6.setCell ⟨w.heap.size+1,2,none⟩ (.int .i64 bb));have e7:=Hw7.out;have u7:Upd (·=w.heap.size+1) w6 w7:=by rw [←e7];exact updCell _ _ _ _
  have hb7:Blk w7 (w.heap.size+1) 69 #[.int .i64 5,.int .i64 a,.int .i64 bb,.int .i64 0]:=by rw [←e7];simpa using hb6.set_ 2 (.int .i64 bb)
  have HSF:=h_ (HS6.out.loc u7 (by omega) (by omega));have HRF:=h_ (HR6.out.upd u7 (by omega));have HPF:=h_ hb7;clear hu6 hgu hlu hou huu hru hb6 hb7 HW6;have HCD:Hid (CdR T fin z u 5 bb 0):=⟨fun q=>absurd q (by omega),fun q=>absurd q (by omega),fun _=>⟨rfl,HRU.out⟩,fun q=>absurd q (by omega),HRU.out.2⟩
  have g0:=HPF.out.cell 0;have g1:=HPF.out.cell 1;have g2:=HPF.out.cell 2;have g3:=HPF.out.cell 3;have hrf:=HRF.out;unfold cdc at hrf;have r0:=hrf.cell 0;have r1:=hrf.cell 1;have r2:=hrf.cell 2;have r3:=hrf.cell 3;have rf:=hrf.frozen;have HRF2:=h_ hrf;clear hrf v0;go_wp2_with fail
  rw [set4_eq];refine bodyPost_ret (results_cell_row rfl _ _ w.heap.size 69 _ (0,0) _ rfl (set4_blk HRF2.out _ _ _ _) Tryz.underlying69 rfl (by kernel_rfl)) rfl ?_;have HSL:=HSF.out.loc (set4_upd _ w.heap.size (.int .i64 5) (.int .i64 a) (.int .i64 bb) (.int .i64 0)) (Nat.le_refl _) (by omega);exact ⟨⟨5,a,bb,0⟩,u,rfl,HSL.rd,HGU.out,by rw [HLU.out,hlf],fun j q=>(HSL.own j q).imp_right (fun r=>by omega),HSL.upd,pcond_fin HRY.out HRZ.out HCD.out⟩
 have t2:(k==2)=false:=by simpa using h2
 have t3:(k==3)=false:=by simpa using h3
 have t4:(k==4)=false:=by simpa using h4
 have t5:(k==5)=false:=by simpa using h5
 have t6:(k==6)=false:=by simpa using h6
 have CA:=h_ (rPatternVar_c hL HS3.out.rd HGY.out HLY.out);go_wp2_with fail
 refine CA.out.mono ?_;rintro e w4 hw4;have HW4:=h_ hw4;clear hw4 CA;obtain ⟨a,z,ev,hz4,hgz,hlz,hoz,huz,hrz⟩:=HW4.out;subst ev;have HS4:=h_ (HS3.out.call hz4 hoz huz);have hb4:=HS3.out.keep huz (b:=w.heap.size+1) (by omega) (by omega) HP3.out;have HR4:=h_ (HS3.out.keep huz (b:=w.heap.size) (by omega) (by omega) HR3.out);have HGZ:=h_ hgz;have HLZ:Hid (z.left=false):=hlz.trans HLY.out;have HRZ:=h_ hrz;have v1:=hb4.cell 1;have vf:=hb4.frozen 1;obtain ⟨w5,Hw5⟩:=nm (w4.setCell ⟨w.heap.size+1,1,none⟩ (.int .i64 a));have e5:=Hw5.out;have u5:Upd (·=w.heap.size+1) w4 w5:=by rw [←e5];exact updCell _ _ _ _
 have hb5:Blk w5 (w.heap.size+1) 69 #[.int .i64 k,.int .i64 a,.int .i64 0,.int .i64 0]:=by rw [←e5];simpa using hb4.set_ 1 (.int .i64 a)
 have HS5:=h_ (HS4.out.loc u5 (by omega) (by omega));have HR5:=h_ (HR4.out.upd u5 (by omega));have v0:=hb5.cell 0;have HP5:=h_ hb5;clear hz4 hgz hlz hoz huz hrz hb4 hb5 HW4;have HRZ:Hid (ResS y z (if k=6 then ivarF T fin (psOf y) else pvarF T fin (psOf y)) (fun (v:Nat)=>a=(v:Int)∧y.i+1≤z.i)):=by show ResS _ _ _ _;rw [if_neg h6];exact HRZ.out
 have HCD:Hid (CdR T fin z z k 0 0):=⟨fun q=>absurd q (by omega),fun q=>absurd q h4,fun q=>absurd q (by omega),fun _=>⟨rfl,rfl,rfl⟩,fun _=>⟨rfl,rfl⟩⟩
 have HPF:=HP5;have HRF:=HR5;have HSF:=HS5;have HGU:=HGZ;have HLU:=HLZ;have g0:=HPF.out.cell 0;have g1:=HPF.out.cell 1;have g2:=HPF.out.cell 2;have g3:=HPF.out.cell 3;have hrf:=HRF.out;unfold cdc at hrf;have r0:=hrf.cell 0;have r1:=hrf.cell 1;have r2:=hrf.cell 2;have r3:=hrf.cell 3;have rf:=hrf.frozen;have HRF2:=h_ hrf;clear hrf v0;go_wp2_with fail
 rw [set4_eq];refine bodyPost_ret (results_cell_row rfl _ _ w.heap.size 69 _ (0,0) _ rfl (set4_blk HRF2.out _ _ _ _) Tryz.underlying69 rfl (by kernel_rfl)) rfl ?_;have HSL:=HSF.out.loc (set4_upd _ w.heap.size (.int .i64 k) (.int .i64 a) (.int .i64 0) (.int .i64 0)) (Nat.le_refl _) (by omega);exact ⟨⟨k,a,0,0⟩,z,rfl,HSL.rd,HGU.out,by rw [HLU.out,hlf],fun j q=>(HSL.own j q).imp_right (fun r=>by omega),HSL.upd,pcond_fin HRY.out HRZ.out HCD.out⟩
structure LocP (P:Nat→Prop) (w0 w:World) (p:Nat) (A:Option Addr) (c:Nat) (L:List Tok) (x y:St):Prop where
 rd:RdS w p A c L y
 own:∀k,y.own p k→x.own p k∨w0.heap.size≤k
 pr:∀k,P k→w0.heap.size≤k∧k<w.heap.size∧¬y.own p k
 xlt:∀k,x.own p k→k<w0.heap.size
 upd:Upd (x.own p) w0 w
section
variable {P P' S:Nat→Prop} {w0 w w':World} {p:Nat} {A:Option Addr} {c:Nat} {L:List Tok} {x y y':St}
theorem LocP.start (h:RdS w p A c L x):LocP (fun _=>False) w w p A c L x x:=⟨h,fun _ q=>.inl q,fun _ f=>f.elim,fun _ q=>h.lt q,Upd.refl⟩
theorem LocP.le (h:LocP P w0 w p A c L x y):w0.heap.size≤w.heap.size:=h.upd.size
theorem LocP.call (h:LocP P w0 w p A c L x y) (hr:RdS w' p A c L y') (ho:∀k,y'.own p k→y.own p k∨w.heap.size≤k) (u:Upd (y.own p) w w'):LocP P w0 w' p A c L x y':=by
 have hl:=h.le;refine ⟨hr,fun k q=>?_,fun k q=>?_,h.xlt,h.upd.trans u (fun k hk q=>?_)⟩
 ·rcases ho k q with r | r
  ·exact h.own k r
  ·exact .inr (by omega)
 ·obtain ⟨h1,h2,h3⟩:=h.pr k q;refine ⟨h1,Nat.lt_of_lt_of_le h2 u.size,fun r=>?_⟩;rcases ho k r with r | r
  ·exact h3 r
  ·omega
 ·rcases h.own k q with r | r
  ·exact r
  ·omega
theorem LocP.keep (h:LocP P w0 w p A c L x y) (u:Upd (y.own p) w w') {b:Nat} (hP:P b) {t:TypeId} {cs:Array Value} (hb:Blk w b t cs):Blk w' b t cs:=hb.upd u (h.pr b hP).2.2
theorem LocP.turn (h:LocP P w0 w p A c L x y) (u:Upd S w w') (hS:∀k,k<w.heap.size→S k→P k) (hP:∀k,P' k→P k∨(w.heap.size≤k∧k<w'.heap.size)):LocP P' w0 w' p A c L x y:=by
 have hp:=h.xlt p (.inl rfl);refine ⟨h.rd.upd u (fun k hk q=>?_),h.own,fun k q=>?_,h.xlt,h.upd.trans u (fun k hk q=>?_)⟩
 ·obtain ⟨h1,h2,h3⟩:=h.pr k (hS k hk q);exact ⟨by omega,fun r=>h3 (.inr (.inl r)),fun r=>h3 (.inr (.inr r))⟩
 ·rcases hP k q with r | r
  ·obtain ⟨h1,h2,h3⟩:=h.pr k r;exact ⟨h1,Nat.lt_of_lt_of_le h2 u.size,h3⟩
  ·exact ⟨Nat.le_trans h.le r.1,r.2,fun q=>by have:=h.rd.lt q;omega⟩
 ·have:=(h.pr k (hS k (Nat.lt_of_lt_of_le hk h.le) q)).1;omega
theorem LocP.non (h:LocP P w0 w p A c L x y) (u:Upd Non w w'):LocP P w0 w' p A c L x y:=h.turn u (fun _ _ f=>f.elim) (fun _ q=>.inl q)
def KpS (P:Nat→Prop) (n0 p:Nat) (w:World) (y:St) (q:Pt) (KA:Option Addr) (kc:Nat):Prop:=PtK w (fun k=>n0≤k∧¬y.own p k∧¬P k) q KA kc
theorem KpS.new {n0:Nat} {q:Pt} {KA:Option Addr} {kc n1:Nat} (h:PtK w (fun k=>n1≤k∧¬y.own p k) q KA kc) (hP:∀k,P k→k<n1) (hn:n0≤n1):KpS P n0 p w y q KA kc :=
 PtK.mono (fun k _ r=>⟨Nat.le_trans hn r.1,r.2,fun s=>Nat.lt_irrefl _ (Nat.lt_of_lt_of_le (hP k s) r.1)⟩) _ _ _ h
theorem KpS.call {n0:Nat} {q:Pt} {KA:Option Addr} {kc:Nat} (h:KpS P n0 p w y q KA kc) (ho:∀k,y'.own p k→y.own p k∨w.heap.size≤k) (u:Upd (y.own p) w w'):KpS P n0 p w' y' q KA kc:=by
 have h1:PtK w (fun k=>(n0≤k∧¬y.own p k∧¬P k)∧k<w.heap.size) q KA kc:=PtK.mono (fun k hk r=>⟨r,hk⟩) _ _ _ h;exact PtK.mono (fun k _ r=>⟨r.1.1,fun s=>by rcases ho k s with s | s;exact r.1.2.1 s;exact Nat.lt_irrefl _ (Nat.lt_of_lt_of_le r.2 s),r.1.2.2⟩) _ _ _ (PtK.upd u (fun k _ r=>r.1.2.1) _ _ _ h1)
theorem KpS.turn {n0:Nat} {q:Pt} {KA:Option Addr} {kc:Nat} (h:KpS P n0 p w y q KA kc) (u:Upd S w w') (hS:∀k,k<w.heap.size→S k→P k) (hP:∀k,P' k→P k∨(w.heap.size≤k∧k<w'.heap.size)):KpS P' n0 p w' y q KA kc:=by
 have h1:PtK w (fun k=>(n0≤k∧¬y.own p k∧¬P k)∧k<w.heap.size) q KA kc:=PtK.mono (fun k hk r=>⟨r,hk⟩) _ _ _ h;exact PtK.mono (fun k _ r=>⟨r.1.1,r.1.2.1,fun s=>by rcases hP k s with s | s;exact r.1.2.2 s;exact Nat.lt_irrefl _ (Nat.lt_of_lt_of_le r.2 s.1)⟩) _ _ _ (PtK.upd u (fun k hk r s=>r.1.2.2 (hS k hk s)) _ _ _ h1)
end
end Go.Proofs.YtblkgjdhaibhgaaGreat
namespace Go.Proofs.YtblkgjdhaibhgaaGreat
open Go.RowKit
set_option maxRecDepth 100000 in
theorem rItem1_c (s:ByteArray) (w:World):Calls Tryz.prog 60 #[.string s] w fun e w'=>e=.returned (.bool true)∧w'=w:=by
 go_enter Tryz.func60,Tryz.ntmps60;go_wp2_with fail
 go_ret;exact ⟨rfl,rfl⟩
theorem hcfT:∀(args:Array Value) (w:World),(callFunc 60 args).run Tryz.prog w=.ok (.enter 60 args) w:=fun args w=>by
 simp [callFunc,Tryz.func60,Tryz.f60]
def St.clear (x:St):St:={ x with va:=none,vc:=0,vs:=[],ma:=none,mc:=0,ms:=[] }
theorem clear_own (x:St) (p k:Nat):x.clear.own p k↔k=p:=⟨fun h=>by
 rcases h with h | h | h
 ·exact h
 ·exact (At.none_ h).elim
 ·exact (At.none_ h).elim,fun h=>.inl h⟩
section
variable {w:World} {p:Nat} {A:Option Addr} {c:Nat} {L:List Tok} {x:St}
theorem RdS.clear (h:RdS w p A c L x):RdS ((w.setCell ⟨p,4,none⟩ (.slice none 0 0)).setCell ⟨p,5,none⟩ (.slice none 0 0)) p A c L x.clear∧Upd (·=p) w ((w.setCell ⟨p,4,none⟩ (.slice none 0 0)).setCell ⟨p,5,none⟩ (.slice none 0 0)):=by
 have u:Upd (·=p) w ((w.setCell ⟨p,4,none⟩ (.slice none 0 0)).setCell ⟨p,5,none⟩ (.slice none 0 0)):=(updCell w p 4 _).trans (updCell _ p 5 _) (fun _ _ q=>q)
 refine ⟨⟨?_,h.tok.upd u (fun k _ hk e=>by omega),h.le,Own.none_,Own.none_,fun k q=>(At.none_ q).elim,fun k q=>(At.none_ q).elim,fun k q=>(At.none_ q).elim⟩,u⟩
 have:=(h.blk.set_ 4 (.slice none 0 0)).set_ 5 (.slice none 0 0);simpa [rcells,St.clear] using this
theorem RdS.setLeft (h:RdS w p A c L x) (b:Bool):RdS (w.setCell ⟨p,6,none⟩ (.bool b)) p A c L { x with left:=b }:=by
 refine h.set (updCell _ _ _ _) ?_ rfl rfl rfl rfl rfl rfl;have:=h.blk.set_ 6 (.bool b);simpa [rcells] using this
theorem RdS.setI (h:RdS w p A c L x) (n:Nat):RdS (w.setCell ⟨p,1,none⟩ (.int .i64 n)) p A c L { x with i:=n }:=by
 refine h.set (updCell _ _ _ _) ?_ rfl rfl rfl rfl rfl rfl;have:=h.blk.set_ 1 (.int .i64 n);simpa [rcells] using this
theorem rWordA_c {T:List (Bs×Nat)} {fin:Nat} (hL:LOk L T fin) (h:RdS w p A c L x) (hx:Good T x) {g:Nat} {t:TypeId} {cs:Array Value} (hg:Blk w g t cs) (hpg:p<g) :
  Calls Tryz.prog 62 #[.pointer (some ⟨p,0,none⟩),.func (.func 60) #[] #[]] w (WrdP T w p g t (fun _:Unit=>cs) A c L x (fun (_:Bs) _=>True) (anyF T fin (psOf x))):=by
 refine rWordG_c hL h hx 60 #[] hcfT (fun _:Unit=>cs) () hg hpg (fun s x=>some (s,x)) (fun (_:Bs) _=>True) (fun s ps v y q=>?_) (fun s w1 _ _ _ u01=>?_)
 ·injection q with q;injection q with _ q;subst q;exact ⟨Nat.le_succ _,Nat.le_succ _⟩
 ·refine (rItem1_c (kstr s) w1).mono ?_;rintro e w' ⟨rfl,rfl⟩;exact ⟨true,(),x,rfl,hg.upd u01 (fun f=>f),h.non u01,Keeps.refl,Upd.refl,(fun _=>⟨s,psOf x,rfl,trivial,rfl,rfl⟩),(fun q=>by cases q)⟩
end
end Go.Proofs.YtblkgjdhaibhgaaGreat
namespace Go.Proofs.YtblkgjdhaibhgaaGreat
open Go.RowKit
def bindE {α β:Type} (r:Except Er α) (g:α→Except Er β):Except Er β:=match r with | .error e=>.error e | .ok v=>g v
def Kept (x y:St):Prop:=x.why≠0→y.why=x.why∧y.ea=x.ea
theorem Kept.trans {x y z:St} (h:Kept x y) (k:Kept y z):Kept x z:=fun h0=>by
 have h1:=h h0;have h2:=k (by rw [h1.1];exact h0);exact ⟨h2.1.trans h1.1,h2.2.trans h1.2⟩
theorem kept_exp {L:List Tok} {y:St} {s:Bs}:Kept y (y.exp L s):=fun h=>by rw [exp_err h];exact ⟨rfl,rfl⟩
section
variable {L:List Tok} {T:List (Bs×Nat)} {fin:Nat}
theorem step_bind {α β:Type} {x y z:St} {r:Except Er (α×PS)} {P:α→Prop} {g:α×PS→Except Er (β×PS)} {Q:β→Prop} (h:ResS x y r P) (hne:∀e,r=.error e→e.1≠0) (hk:∀v,P v→y.why=0→ResS y z (g (v,psOf y)) Q) (he:Kept y z) :
  ResS x z (bindE r g) Q:=by
 refine ⟨fun h0=>?_,fun h0=>?_⟩
 ·have h1:=h.1 h0
  cases r with
  | error e =>
   have hn:y.why≠0:=by rw [h1.1];exact hne _ rfl
   exact ⟨(he hn).1.trans h1.1,(he hn).2.trans h1.2⟩
  | ok v =>
   obtain ⟨v,s⟩:=v;obtain ⟨g0,rfl,hP⟩:=h1;exact (hk v hP g0).1 g0
 ·have h1:=h.2 h0;have hn:y.why≠0:=by rw [h1.1];exact h0
  exact ⟨(he hn).1.trans h1.1,(he hn).2.trans h1.2⟩
theorem exp_bind {β:Type} {y z:St} {s:Bs} (hL:LOk L T fin) (hy:Good T y) {g:PS→Except Er (β×PS)} {Q:β→Prop} (hk:(y.exp L s).why=0→ResS (y.exp L s) z (g (psOf (y.exp L s))) Q) (he:Kept (y.exp L s) z) :
  ResS y z (bindE (expF T fin s (psOf y)) g) Q:=by
 refine ⟨fun h0=>?_,fun h0=>?_⟩
 ·have h1:=exp_res (s:=s) hL hy h0
  cases hx:expF T fin s (psOf y) with
  | error e =>
   rw [hx] at h1
   have hn:(y.exp L s).why≠0:=by
    rw [h1.1];unfold expF at hx
    split at hx
    ·cases hx
    ·injection hx with hx;subst hx;show (2:Int)≠0;decide
   exact ⟨(he hn).1.trans h1.1,(he hn).2.trans h1.2⟩
  | ok u =>
   rw [hx] at h1;obtain ⟨g0,rfl⟩:=h1;exact (hk g0).1 g0
 ·exact Kept.trans kept_exp he h0
end
section
variable (T:List (Bs×Nat)) (fin:Nat)
def rg7 (s:Bs) (l r:Pt) (cs:List Cd) (x:PS):Except Er (Rl×PS):=bindE (expF T fin [59] x) fun u=>.ok (⟨⟨s.toArray⟩,l,r,cs,u.vs.length,u.ms.length⟩,u)
def rg6 (s:Bs) (l r:Pt) (x:PS):Except Er (Rl×PS):=bindE (ifF T fin (T.length+1) x) fun v=>rg7 T fin s l r v.1 v.2
def rg5 (s:Bs) (l:Pt) (x:PS):Except Er (Rl×PS):=bindE (termF T fin false (T.length+1) x) fun v=>rg6 T fin s l v.1 v.2
def rg4 (s:Bs) (l:Pt) (x:PS):Except Er (Rl×PS):=bindE (expF T fin [61,62] x) fun u=>rg5 T fin s l u
def rg3 (s:Bs) (x:PS):Except Er (Rl×PS):=bindE (termF T fin true (T.length+1) x) fun v=>rg4 T fin s v.1 v.2
def rg2 (s:Bs) (x:PS):Except Er (Rl×PS):=bindE (expF T fin [58] x) fun u=>rg3 T fin s u
theorem ruleF_eq (x:PS):ruleF T fin x=bindE (anyF T fin { x with vs:=[],ms:=[] }) fun v=>rg2 T fin v.1 v.2:=by
 unfold ruleF bindE
 cases anyF T fin { x with vs:=[],ms:=[] } with
 | error e=>rfl
 | ok v =>
  obtain ⟨s,x1⟩:=v;dsimp only;unfold rg2 bindE
  cases expF T fin [58] x1 with
  | error e=>rfl
  | ok x2 =>
   dsimp only;unfold rg3 bindE
   cases termF T fin true (T.length+1) x2 with
   | error e=>rfl
   | ok v =>
    obtain ⟨l,x3⟩:=v;dsimp only;unfold rg4 bindE
    cases expF T fin [61,62] x3 with
    | error e=>rfl
    | ok x4 =>
     dsimp only;unfold rg5 bindE
     cases termF T fin false (T.length+1) x4 with
     | error e=>rfl
     | ok v =>
      obtain ⟨r,x5⟩:=v;dsimp only;unfold rg6 bindE
      cases ifF T fin (T.length+1) x5 with
      | error e=>rfl
      | ok v =>
       obtain ⟨cs,x6⟩:=v;dsimp only;unfold rg7 bindE;cases expF T fin [59] x6 <;> rfl
end
theorem rule_fin {L:List Tok} {T:List (Bs×Nat)} {fin:Nat} (hL:LOk L T fin) {x y1 y3 y5 y6:St} {s:Bs} {l r:Pt} {cs:List Cd} (hif:∀e,ifF T fin (T.length+1) (psOf y5)=.error e→e.1≠0)
  (h1:ResS x y1 (anyF T fin { psOf x with vs:=[],ms:=[] }) (fun v=>v=s)) (g1:Good T y1)
  (h3:ResS (y1.exp L [58]) y3 (termF T fin true (T.length+1) (psOf (y1.exp L [58]))) (fun v=>v=l)) (g3:Good T y3)
  (h5:ResS (y3.exp L [61,62]) y5 (termF T fin false (T.length+1) (psOf (y3.exp L [61,62]))) (fun v=>v=r))
  (h6:ResS y5 y6 (ifF T fin (T.length+1) (psOf y5)) (fun v=>v=cs)) (g6:Good T y6) :
  ResS x (y6.exp L [59]) (ruleF T fin (psOf x)) (fun v=>v=⟨⟨s.toArray⟩,l,r,cs,(y6.exp L [59]).vs.length,(y6.exp L [59]).ms.length⟩):=by
 have k6:Kept y6 (y6.exp L [59]):=kept_exp;have k5:Kept y5 (y6.exp L [59]):=Kept.trans h6.2 k6;have k4:Kept (y3.exp L [61,62]) (y6.exp L [59]):=Kept.trans h5.2 k5;have k3:Kept y3 (y6.exp L [59]):=Kept.trans kept_exp k4;have k2:Kept (y1.exp L [58]) (y6.exp L [59]):=Kept.trans h3.2 k3;have k1:Kept y1 (y6.exp L [59]):=Kept.trans kept_exp k2;rw [ruleF_eq];refine step_bind (g:=fun v=>rg2 T fin v.1 v.2) h1 (fun e=>wrdF_err) (fun v hv _=>?_) k1;subst hv;refine exp_bind (g:=fun u=>rg3 T fin v u) hL g1 (fun _=>?_) k2;refine step_bind (g:=fun q=>rg4 T fin v q.1 q.2) h3 (fun e=>termF_err _ _ e) (fun v1 hv _=>?_) k3;subst hv;refine exp_bind (g:=fun u=>rg5 T fin v v1 u) hL g3 (fun _=>?_) k4;refine step_bind (g:=fun q=>rg6 T fin v v1 q.1 q.2) h5 (fun e=>termF_err _ _ e) (fun v2 hv _=>?_) k5;subst hv;refine step_bind (g:=fun q=>rg7 T fin v v1 v2 q.1 q.2) h6 hif (fun v3 hv _=>?_) k6;subst hv;refine exp_bind (s:=[59]) (g:=fun u=>(.ok ((⟨⟨v.toArray⟩,v1,v2,v3,u.vs.length,u.ms.length⟩:Rl),u):Except Er (Rl×PS))) hL g6 (fun h0=>?_) (fun _=>⟨rfl,rfl⟩)
 exact ⟨fun _=>⟨h0,rfl,rfl⟩,fun h=>absurd h0 h⟩
end Go.Proofs.YtblkgjdhaibhgaaGreat
namespace Go.Proofs.YtblkgjdhaibhgaaGreat
open Go.RowKit
def ccell (c:Cd):List Value:=[.int .i64 c.kind,.int .i64 c.a,.int .i64 c.b,.int .i64 c.n]
def ccells (L:List Cd):List Value:=L.flatMap ccell
theorem ccells_snoc (L:List Cd) (c:Cd):ccells (L++[c])=ccells L++[.int .i64 c.kind,.int .i64 c.a,.int .i64 c.b,.int .i64 c.n]:=by simp [ccells,ccell]
theorem ccells_len (L:List Cd):(ccells L).length=L.length * 4:=by
 induction L with
 | nil=>rfl
 | cons c L ih=>rw [show ccells (c::L)=ccell c++ccells L from rfl,List.length_append,ih];simp [ccell];omega
theorem T_conds:SlT Tryz.prog 41 69 4 32:=by
 obtain ⟨i,h1,h2,h3,h4⟩:=info_parts (show (Tryz.prog.info? 69).map (fun i=>(i.zero,i.size,i.bytes))=some (some (.agg #[.int .i64 0,.int .i64 0,.int .i64 0,.int .i64 0]),4,32) from by kernel_rfl)
 exact ⟨Tryz.underlying41,⟨i,_,h1,h2,h3,h4,rfl⟩,by omega⟩
theorem ccells_get:∀(L:List Cd) (i:Nat) (h:i<L.length),(ccells L)[i * 4]?=some (.int .i64 L[i].kind)∧(ccells L)[i * 4+1]?=some (.int .i64 L[i].a)∧(ccells L)[i * 4+2]?=some (.int .i64 L[i].b)∧(ccells L)[i * 4+3]?=some (.int .i64 L[i].n)
 | c::L,0,_=>⟨rfl,rfl,rfl,rfl⟩
 | c::L,i+1,h=>by
  have:=ccells_get L i (by simpa using h);rw [show (i+1) * 4=i * 4+1+1+1+1 by omega];exact this
def CdO (w:World) (A:Option Addr) (c:Nat) (L:List Cd):Prop:=Own w 69 4 A L.length c (ccells L)
section
variable {w w':World} {A:Option Addr} {c:Nat} {L:List Cd} {S:Nat→Prop}
theorem CdO.none_:CdO w none 0 []:=Own.none_
theorem CdO.upd (h:CdO w A c L) (u:Upd S w w') (d:∀k,At A k→¬S k):CdO w' A c L:=Own.upd h u d
theorem CdO.lt (h:CdO w A c L) {k:Nat} (hk:At A k):k<w.heap.size:=Own.lt h hk
theorem CdO.le (h:CdO w A c L):L.length≤c:=Own.le h
theorem CdO.view (h:CdO w A c L):CondsV w (At A) A L:=by
 rcases Own.cases h with ⟨_,h0,_,_⟩ | ⟨g,cur,rfl,hb,_,_,_,ht⟩
 ·exact .inl (List.eq_nil_of_length_eq_zero h0)
 ·refine .inr ⟨g,0,rfl,At.some_.2 rfl,fun i hi=>?_⟩
  have hcell:∀j u,(ccells L)[j]?=some u→w.cell? ⟨g,j,none⟩=some u:=by
   intro j u hj;rw [hb.cell];rw [←ht,List.getElem?_take] at hj
   split at hj
   ·simpa using hj
   ·cases hj
  obtain ⟨c0,c1,c2,c3⟩:=ccells_get L i hi;rw [Nat.zero_add];exact ⟨hcell _ _ c0,hcell _ _ c1,hcell _ _ c2,hcell _ _ c3⟩
end
theorem CdO.of {w:World} {A:Option Addr} {n c:Nat} {L:List Cd} {cd:Cd} (hn:n=L.length+1) (h:Own w 69 4 A n c (ccells L++[.int .i64 cd.kind,.int .i64 cd.a,.int .i64 cd.b,.int .i64 cd.n])):CdO w A c (L++[cd]):=by
 unfold CdO;rw [ccells_snoc,List.length_append,List.length_singleton,←hn];exact h
section
variable {T:List (Bs×Nat)} {fin:Nat}
theorem pcondF_err {x:PS} {e:Er} (h:pcondF T fin x=.error e):e.1≠0:=by
 unfold pcondF at h
 split at h
 ·rename_i e' he;injection h with h;subst h;exact wrdF_err he
 ·split at h
  ·rename_i e' he;injection h with h;subst h
   split at he
   ·exact wrdF_err he
   ·exact wrdF_err he
  ·split at h
   ·cases h
   ·split at h
    ·split at h
     ·rename_i e' he;injection h with h;subst h;exact wrdF_err he
     ·cases h
    ·split at h
     ·split at h
      ·rename_i e' he;injection h with h;subst h;exact wrdF_err he
      ·cases h
     ·split at h
      ·rename_i e' he;injection h with h;subst h;exact wrdF_err he
      ·cases h
theorem condsF_err:∀(f:Nat) (x:PS) {e:Er},condsF T fin f x=.error e→e.1≠0
 | 0,x,e,h=>by unfold condsF at h;cases h
 | f+1,x,e,h=>by
  unfold condsF at h
  split at h
  ·split at h
   ·rename_i e' he;injection h with h;subst h;exact pcondF_err he
   ·split at h
    ·rename_i e' he;injection h with h;subst h;exact condsF_err f _ he
    ·cases h
  ·cases h
theorem ifF_err {f:Nat} {x:PS} {e:Er} (h:ifF T fin f x=.error e):e.1≠0:=by
 unfold ifF at h
 split at h
 ·split at h
  ·rename_i e' he;injection h with h;subst h;exact pcondF_err he
  ·split at h
   ·rename_i e' he;injection h with h;subst h;exact condsF_err f _ he
   ·cases h
 ·cases h
theorem condsF_succ (f:Nat) (x:PS):condsF T fin (f+1) x=if tkF T x.i=some [44] then (match pcondF T fin { x with i:=x.i+1 } with
   | .error e=>.error e
   | .ok (c,y)=>match condsF T fin f y with
    | .error e=>.error e
    | .ok (l,z)=>.ok (c::l,z)) else .ok ([],x):=rfl
def CdL (T:List (Bs×Nat)) (fin:Nat) (y5 y:St) (cs:List Cd) (f:Nat):Prop :=
 (y5.why=0→(y.why=0→T.length<f+y.i∧ifF T fin (T.length+1) (psOf y5)=match condsF T fin f (psOf y) with
  | .error e=>.error e
  | .ok (l,z)=>.ok (cs++l,z))∧(y.why≠0→ifF T fin (T.length+1) (psOf y5)=.error (y.why,y.ea)))∧(y5.why≠0→y.why=y5.why∧y.ea=y5.ea)
theorem CdL.first {y5 y:St} {cd:Cd} (ht:tkF T y5.i=some [105,102]) (h0:y5.why=0) (h:ResS { y5 with i:=y5.i+1 } y (pcondF T fin { psOf y5 with i:=y5.i+1 }) (fun v=>v=cd∧y5.i+1+1≤y.i)):CdL T fin y5 y [cd] (T.length+1):=by
 have hc:=h.1 h0;refine ⟨fun _=>⟨fun hy=>?_,fun hy=>?_⟩,fun q=>absurd h0 q⟩
 ·refine ⟨by omega,?_⟩;unfold ifF;rw [show (psOf y5).i=y5.i from rfl,if_pos ht]
  cases hp:pcondF T fin { psOf y5 with i:=y5.i+1 } with
  | error e=>rw [hp] at hc;exact absurd (hc.1 ▸ hy) (pcondF_err hp)
  | ok v =>
   obtain ⟨v,s⟩:=v;rw [hp] at hc;obtain ⟨_,rfl,rfl,_⟩:=hc;rfl
 ·unfold ifF;rw [show (psOf y5).i=y5.i from rfl,if_pos ht]
  cases hp:pcondF T fin { psOf y5 with i:=y5.i+1 } with
  | error e=>rw [hp] at hc;dsimp only;rw [hc.1,hc.2]
  | ok v=>rw [hp] at hc;exact absurd hc.1 hy
theorem CdL.more {y5 y y':St} {cs:List Cd} {cd:Cd} {f:Nat} (hl:CdL T fin y5 y cs f) (ht:tkF T y.i=some [44]) (h0:y.why=0) (hi:y.i<T.length) (h:ResS { y with i:=y.i+1 } y' (pcondF T fin { psOf y with i:=y.i+1 }) (fun v=>v=cd∧y.i+1+1≤y'.i)):0<f∧CdL T fin y5 y' (cs++[cd]) (f - 1):=by
 have hc:=h.1 h0
 have h5:y5.why=0:=by
  by_cases q:y5.why=0
  ·exact q
  ·exact absurd ((hl.2 q).1 ▸ h0) q
 obtain ⟨hf,he⟩:=(hl.1 h5).1 h0
 match f with
 | 0=>omega
 | f+1 =>
 refine ⟨by omega,fun _=>?_,fun q=>absurd h5 q⟩;rw [he,condsF_succ];rw [show (psOf y).i=y.i from rfl,if_pos ht];refine ⟨fun hy=>?_,fun hy=>?_⟩
 ·cases hp:pcondF T fin { psOf y with i:=y.i+1 } with
  | error e=>rw [hp] at hc;exact absurd (hc.1 ▸ hy) (pcondF_err hp)
  | ok v =>
   obtain ⟨v,s⟩:=v;rw [hp] at hc;obtain ⟨_,rfl,rfl,hi2⟩:=hc;refine ⟨by show T.length<f+1 - 1+y'.i;omega,?_⟩;dsimp only;rw [show f+1 - 1=f from rfl]
   cases condsF T fin f (psOf y') with
   | error e=>rfl
   | ok v=>obtain ⟨l,z⟩:=v;simp
 ·cases hp:pcondF T fin { psOf y with i:=y.i+1 } with
  | error e=>rw [hp] at hc;dsimp only;rw [hc.1,hc.2]
  | ok v=>rw [hp] at hc;exact absurd hc.1 hy
theorem CdL.done {y5 y:St} {cs:List Cd} {f:Nat} (hl:CdL T fin y5 y cs f) (hD:(y.why==0&&decide (tkF T y.i=some [44]))=false):ResS y5 y (ifF T fin (T.length+1) (psOf y5)) (fun v=>v=cs):=by
 refine ⟨fun h5=>?_,hl.2⟩;by_cases h0:y.why=0
 ·have he:=((hl.1 h5).1 h0).2;have ht:¬tkF T y.i=some [44]:=by simpa [h0] using hD
  have hc:condsF T fin f (psOf y)=.ok ([],psOf y):=by
   cases f with
   | zero=>rfl
   | succ f=>rw [condsF_succ,show (psOf y).i=y.i from rfl,if_neg ht]
  rw [hc] at he;rw [he];exact ⟨h0,rfl,by simp⟩
 ·rw [(hl.1 h5).2 h0];exact ⟨rfl,rfl⟩
theorem ifF_none {y:St} (hD:(y.why==0&&decide (tkF T y.i=some [105,102]))=false):ResS y y (ifF T fin (T.length+1) (psOf y)) (fun v=>v=[]):=by
 refine ⟨fun h0=>?_,fun _=>⟨rfl,rfl⟩⟩;have ht:¬tkF T y.i=some [105,102]:=by simpa [h0] using hD
 unfold ifF;rw [show (psOf y).i=y.i from rfl,if_neg ht];exact ⟨h0,rfl,rfl⟩
end
def set14 (w:World) (g:Nat) (a b c d e f g1 h i j k l m n:Value):World:=(((((((((set5 w g a b c d e).setCell ⟨g,5,none⟩ f).setCell ⟨g,6,none⟩ g1).setCell ⟨g,7,none⟩ h).setCell ⟨g,8,none⟩ i).setCell ⟨g,9,none⟩ j).setCell ⟨g,10,none⟩ k).setCell ⟨g,11,none⟩ l).setCell ⟨g,12,none⟩ m).setCell ⟨g,13,none⟩ n
theorem set14_blk {w:World} {g:Nat} {t:TypeId} {x0 x1 x2 x3 x4 x5 x6 x7 x8 x9 x10 x11 x12 x13:Value} (h:Blk w g t #[x0,x1,x2,x3,x4,x5,x6,x7,x8,x9,x10,x11,x12,x13]) (a b c d e f g1 i j k l m n o:Value):Blk (set14 w g a b c d e f g1 i j k l m n o) g t #[a,b,c,d,e,f,g1,i,j,k,l,m,n,o]:=by
 unfold set14 set5;simpa using (((((((((((((h.set_ 0 a).set_ 1 b).set_ 2 c).set_ 3 d).set_ 4 e).set_ 5 f).set_ 6 g1).set_ 7 i).set_ 8 j).set_ 9 k).set_ 10 l).set_ 11 m).set_ 12 n).set_ 13 o
theorem set14_upd (w:World) (g:Nat) (a b c d e f g1 i j k l m n o:Value):Upd (·=g) w (set14 w g a b c d e f g1 i j k l m n o):=by
 have s:∀(w:World) (i:Nat) (v:Value),Upd (·=g) w (w.setCell ⟨g,i,none⟩ v):=fun w i v=>updCell _ _ _ _
 have t:∀{a b c:World},Upd (·=g) a b→Upd (·=g) b c→Upd (·=g) a c:=fun h k=>h.trans k (fun _ _ h=>h)
 exact t (t (t (t (t (t (t (t (t (set5_upd _ _ _ _ _ _ _) (s _ _ _)) (s _ _ _)) (s _ _ _)) (s _ _ _)) (s _ _ _)) (s _ _ _)) (s _ _ _)) (s _ _ _)) (s _ _ _)
theorem set14_eq (w:World) (g:Nat) (a b c d e f g1 h i j k l m n:Value):(((((((((((((w.setCell ⟨g,0,none⟩ a).setCell ⟨g,1,none⟩ b).setCell ⟨g,2,none⟩ c).setCell ⟨g,3,none⟩ d).setCell ⟨g,4,none⟩ e).setCell ⟨g,5,none⟩ f).setCell ⟨g,6,none⟩ g1).setCell ⟨g,7,none⟩ h).setCell ⟨g,8,none⟩ i).setCell ⟨g,9,none⟩ j).setCell ⟨g,10,none⟩ k).setCell ⟨g,11,none⟩ l).setCell ⟨g,12,none⟩ m).setCell ⟨g,13,none⟩ n=set14 w g a b c d e f g1 h i j k l m n:=rfl
def setRt (w:World) (g:Nat) (a b c d e:Value):World:=((((w.setCell ⟨g,6,none⟩ a).setCell ⟨g,7,none⟩ b).setCell ⟨g,8,none⟩ c).setCell ⟨g,9,none⟩ d).setCell ⟨g,10,none⟩ e
theorem setRt_blk {w:World} {g:Nat} {t:TypeId} {x0 x1 x2 x3 x4 x5 x6 x7 x8 x9 x10 x11 x12 x13:Value} (h:Blk w g t #[x0,x1,x2,x3,x4,x5,x6,x7,x8,x9,x10,x11,x12,x13]) (a b c d e:Value):Blk (setRt w g a b c d e) g t #[x0,x1,x2,x3,x4,x5,a,b,c,d,e,x11,x12,x13]:=by
 unfold setRt;simpa using ((((h.set_ 6 a).set_ 7 b).set_ 8 c).set_ 9 d).set_ 10 e
theorem setRt_upd (w:World) (g:Nat) (a b c d e:Value):Upd (·=g) w (setRt w g a b c d e):=by
 have s:∀(w:World) (i:Nat) (v:Value),Upd (·=g) w (w.setCell ⟨g,i,none⟩ v):=fun w i v=>updCell _ _ _ _
 have t:∀{a b c:World},Upd (·=g) a b→Upd (·=g) b c→Upd (·=g) a c:=fun h k=>h.trans k (fun _ _ h=>h)
 exact t (t (t (t (s _ _ _) (s _ _ _)) (s _ _ _)) (s _ _ _)) (s _ _ _)
theorem setRt_eq (w:World) (g:Nat) (a b c d e:Value):((((w.setCell ⟨g,6,none⟩ a).setCell ⟨g,7,none⟩ b).setCell ⟨g,8,none⟩ c).setCell ⟨g,9,none⟩ d).setCell ⟨g,10,none⟩ e=setRt w g a b c d e:=rfl
theorem results_cell_cell_tmp {P:Program} {fn:Func} {p q u:Tmp} {ty ty2:TypeId} (h:fn.results=#[.cell p ty,.cell q ty2,.tmp u]) (tmps:Array Value) (w:World) (g:Nat) (t:TypeId) (cs:Array Value) (fr:Nat×Nat) (d:TypeDesc) (g2:Nat) (t2:TypeId) (cs2:Array Value) (fr2:Nat×Nat) (d2:TypeDesc)
  (hp:tmps.getD p undef=.pointer (some ⟨g,0,none⟩)) (hg:w.heap[g]?=some (.cells cs t fr))
  (hu:P.underlying ty=some d) (hd:(match d with | .struct _ | .array _ _=>true | _=>false)=true) (hi:(P.info? ty).map (·.size)=some cs.size)
  (hp2:tmps.getD q undef=.pointer (some ⟨g2,0,none⟩)) (hg2:w.heap[g2]?=some (.cells cs2 t2 fr2))
  (hu2:P.underlying ty2=some d2) (hd2:(match d2 with | .struct _ | .array _ _=>true | _=>false)=true) (hi2:(P.info? ty2).map (·.size)=some cs2.size) :
  (results fn tmps).run P w=.ok (.tuple #[.agg cs,.agg cs2,tmps.getD u undef]) w:=by
 have hp':tmps[p]?.getD undef=.pointer (some ⟨g,0,none⟩):=by simpa using hp
 have hp2':tmps[q]?.getD undef=.pointer (some ⟨g2,0,none⟩):=by simpa using hp2
 simp [results,h,hp',hp2',asAddr,run_loadVar_row w g t ty cs fr d hg hu hd hi,run_loadVar_row w g2 t2 ty2 cs2 fr2 d2 hg2 hu2 hd2 hi2,Result.andThen]
def setLf (w:World) (g:Nat) (a b c d e:Value):World:=((((w.setCell ⟨g,1,none⟩ a).setCell ⟨g,2,none⟩ b).setCell ⟨g,3,none⟩ c).setCell ⟨g,4,none⟩ d).setCell ⟨g,5,none⟩ e
theorem setLf_blk {w:World} {g:Nat} {t:TypeId} {x0 x1 x2 x3 x4 x5 x6 x7 x8 x9 x10 x11 x12 x13:Value} (h:Blk w g t #[x0,x1,x2,x3,x4,x5,x6,x7,x8,x9,x10,x11,x12,x13]) (a b c d e:Value):Blk (setLf w g a b c d e) g t #[x0,a,b,c,d,e,x6,x7,x8,x9,x10,x11,x12,x13]:=by
 unfold setLf;simpa using ((((h.set_ 1 a).set_ 2 b).set_ 3 c).set_ 4 d).set_ 5 e
theorem setLf_upd (w:World) (g:Nat) (a b c d e:Value):Upd (·=g) w (setLf w g a b c d e):=by
 have s:∀(w:World) (i:Nat) (v:Value),Upd (·=g) w (w.setCell ⟨g,i,none⟩ v):=fun w i v=>updCell _ _ _ _
 have t:∀{a b c:World},Upd (·=g) a b→Upd (·=g) b c→Upd (·=g) a c:=fun h k=>h.trans k (fun _ _ h=>h)
 exact t (t (t (t (s _ _ _) (s _ _ _)) (s _ _ _)) (s _ _ _)) (s _ _ _)
theorem setLf_eq (w:World) (g:Nat) (a b c d e:Value):((((w.setCell ⟨g,1,none⟩ a).setCell ⟨g,2,none⟩ b).setCell ⟨g,3,none⟩ c).setCell ⟨g,4,none⟩ d).setCell ⟨g,5,none⟩ e=setLf w g a b c d e:=rfl
theorem exp_left_set (y:St) (L:List Tok) (s:Bs) (b:Bool):({ y with left:=b }:St).exp L s={ (y.exp L s) with left:=b }:=by
 unfold St.exp
 cases (y.why==0&&isT L y.i s) with
 | true=>rfl
 | false =>
  show ({ y with left:=b }:St).fail 2 (posT L y.i)={ (y.fail 2 (posT L y.i)) with left:=b };unfold St.fail;by_cases h:y.why=0
  ·rw [if_pos h,if_pos h]
  ·rw [if_neg h,if_neg h]
def AxP (ax:Bs→Option Rl) (s:Bs) (w:World) (e:Ending) (w':World):Prop :=
 ∃(rl:Rl) (a:RlA) (b:Bool),e=.returned (.tuple #[rlv rl a,.bool b])∧RlK w' (fun k=>w.heap.size≤k) rl a∧Upd Non w w'∧(b=true→ax s=some rl)∧(b=false→ax s=none)
def ItemP (T:List (Bs×Nat)) (w:World) (p:Nat) (A:Option Addr) (c:Nat) (L:List Tok) (x:St) (r:Except Er ((Option Rl×Nat)×PS)) (e:Ending) (w':World):Prop :=
 ∃(rl:Rl) (a:RlA) (ts:Bs) (tp:Nat) (b:Bool) (y:St),e=.returned (.tuple #[rlv rl a,tokVal ts tp,.bool b])∧RlK w' (fun k=>w.heap.size≤k∧¬y.own p k) rl a∧RdS w' p A c L y∧Good T y∧(∀k,y.own p k→x.own p k∨w.heap.size≤k)∧Upd (x.own p) w w'∧ResS x y r (fun v=>v.2=tp∧(b=true→v.1=some rl)∧(b=false→v.1=none))
theorem ResS.mono {α:Type} {x y:St} {r:Except Er (α×PS)} {P Q:α→Prop} (h:ResS x y r P) (k:∀v,P v→Q v):ResS x y r Q:=by
 refine ⟨fun h0=>?_,h.2⟩;have h1:=h.1 h0
 cases r with
 | error e=>exact h1
 | ok v=>exact ⟨h1.1,h1.2.1,k _ h1.2.2⟩
theorem tkF_lt {T:List (Bs×Nat)} {i:Nat} {s:Bs} (h:tkF T i=some s):i<T.length:=by
 rcases Nat.lt_or_ge i T.length with q | q
 ·exact q
 ·unfold tkF at h;rw [List.getElem?_eq_none q] at h;cases h
section
variable {L:List Tok} {T:List (Bs×Nat)} {fin:Nat}
theorem rt_cells {w:World} {g1 g2:Nat} {s:Bs} {tp:Nat} {R:Rl} {a:RlA} (h2:Blk w g2 43 (rlCells R a)) (h1:Blk w g1 62 #[.string (kstr s),.int .i64 tp,.bool false]) :
  w.cell? ⟨g2,0,none⟩=some (.string R.name)∧w.cell? ⟨g2,1,none⟩=some (.int .i64 R.l.v)∧w.cell? ⟨g2,2,none⟩=some (.int .i64 R.l.op)∧w.cell? ⟨g2,3,none⟩=some (.int .i64 R.l.imm)∧w.cell? ⟨g2,4,none⟩=some (.int .i64 R.l.iv)∧w.cell? ⟨g2,5,none⟩=some (.slice a.la R.l.kids.length a.lc)∧w.cell? ⟨g2,6,none⟩=some (.int .i64 R.r.v)∧w.cell? ⟨g2,7,none⟩=some (.int .i64 R.r.op)∧w.cell? ⟨g2,8,none⟩=some (.int .i64 R.r.imm)∧w.cell? ⟨g2,9,none⟩=some (.int .i64 R.r.iv)∧w.cell? ⟨g2,10,none⟩=some (.slice a.ra R.r.kids.length a.rc)∧w.cell? ⟨g2,11,none⟩=some (.slice a.ca R.conds.length a.cc)∧w.cell? ⟨g2,12,none⟩=some (.int .i64 R.vars)∧w.cell? ⟨g2,13,none⟩=some (.int .i64 R.imms)∧w.cell? ⟨g1,0,none⟩=some (.string (kstr s))∧w.cell? ⟨g1,1,none⟩=some (.int .i64 (tp:Nat))∧w.cell? ⟨g1,2,none⟩=some (.bool false):=by
 unfold rlCells at h2;exact ⟨h2.cell 0,h2.cell 1,h2.cell 2,h2.cell 3,h2.cell 4,h2.cell 5,h2.cell 6,h2.cell 7,h2.cell 8,h2.cell 9,h2.cell 10,h2.cell 11,h2.cell 12,h2.cell 13,h1.cell 0,h1.cell 1,h1.cell 2⟩
theorem any_res {x y:St} {ts:Bs} {P:Bs→Prop} (h:ResS x y (anyF T fin (psOf x)) P) (ht:y.why=0→tkF T x.i=some ts):ResS x y (anyF T fin (psOf x)) (fun v=>v=ts):=by
 refine ⟨fun h0=>?_,h.2⟩;have h1:=h.1 h0
 cases ha:anyF T fin (psOf x) with
 | error e=>rw [ha] at h1;exact h1
 | ok v =>
  obtain ⟨v,s⟩:=v;rw [ha] at h1;refine ⟨h1.1,h1.2.1,?_⟩;have h2:=ht h1.1;unfold anyF wrdF at ha;rw [show (psOf x).i=x.i from rfl,h2] at ha;dsimp only at ha
  split at ha
  ·cases ha
  ·injection ha with ha;injection ha with ha _;exact ha.symm
theorem item_ax {ax:Bs→Option Rl} (hL:LOk L T fin) {x y1:St} {rl:Rl} {b:Bool} {ts:Bs} {tp:Nat} (h0:x.why=0) (ht:tkF T x.i=some [97,120,105,111,109]) (h1:ResS { x with i:=x.i+1 } y1 (anyF T fin (psOf { x with i:=x.i+1 })) (fun v=>v=ts)) (g1:Good T y1) (hp:y1.why=0→tp=offF T fin (x.i+1)) (hb:(b=true→ax ts=some rl)∧(b=false→ax ts=none)) :
  ResS x (y1.exp L [59]) (itemF T fin ax (psOf x)) (fun v=>v.2=tp∧(b=true→v.1=some rl)∧(b=false→v.1=none)):=by
 refine ⟨fun _=>?_,fun q=>absurd h0 q⟩;unfold itemF;rw [show (psOf x).i=x.i from rfl,if_pos ht];have h2:=h1.1 h0;rw [show psOf { x with i:=x.i+1 }={ psOf x with i:=x.i+1 } from rfl] at h2
 cases ha:anyF T fin { psOf x with i:=x.i+1 } with
 | error e =>
  rw [ha] at h2;have hn:y1.why≠0:=by rw [h2.1];exact wrdF_err ha
  dsimp only;rw [exp_err hn];exact h2
 | ok v =>
  obtain ⟨s,y⟩:=v;rw [ha] at h2;obtain ⟨k0,rfl,rfl⟩:=h2;dsimp only;have e:=exp_res (s:=[59]) hL g1 k0
  cases he:expF T fin [59] (psOf y1) with
  | error er=>rw [he] at e;exact e
  | ok u=>rw [he] at e;exact ⟨e.1,e.2,(hp k0).symm,hb.1,hb.2⟩
theorem item_ru {ax:Bs→Option Rl} (hL:LOk L T fin) {x y1 yE:St} {rl:Rl} {ts:Bs} {tp:Nat} (hx:Good T x) (hz:(x.why==0&&decide (tkF T x.i=some [97,120,105,111,109]))=false)
  (h1:ResS (x.exp L [114,117,108,101]) y1 (anyF T fin { psOf (x.exp L [114,117,108,101]) with vs:=[],ms:=[] }) (fun v=>v=ts)) (hp:y1.why=0→tp=offF T fin (x.exp L [114,117,108,101]).i)
  (h:ResS (x.exp L [114,117,108,101]) yE (ruleF T fin (psOf (x.exp L [114,117,108,101]))) (fun v=>v=rl)) :
  ResS x yE (itemF T fin ax (psOf x)) (fun v=>v.2=tp∧(true=true→v.1=some rl)∧(true=false→v.1=none)):=by
 refine ⟨fun h0=>?_,fun h0=>?_⟩
 ·have ht:¬tkF T x.i=some [97,120,105,111,109]:=by simpa [h0] using hz
  unfold itemF;rw [show (psOf x).i=x.i from rfl,if_neg ht];have e:=exp_res (s:=[114,117,108,101]) hL hx h0
  cases he:expF T fin [114,117,108,101] (psOf x) with
  | error er =>
   rw [he] at e;have hn:(x.exp L [114,117,108,101]).why≠0:=by rw [e.1];exact expF_err he
   exact ⟨(h.2 hn).1.trans e.1,(h.2 hn).2.trans e.2⟩
  | ok u =>
   rw [he] at e;obtain ⟨g0,rfl⟩:=e;have h2:=h.1 g0;have h3:=h1.1 g0;dsimp only
   cases hr:ruleF T fin (psOf (x.exp L [114,117,108,101])) with
   | error er=>rw [hr] at h2;exact h2
   | ok v =>
    obtain ⟨r,z⟩:=v;rw [hr] at h2;refine ⟨h2.1,h2.2.1,?_,fun _=>congrArg some h2.2.2,fun q=>by cases q⟩;rw [ruleF_eq] at hr;unfold bindE at hr
    cases ha:anyF T fin { psOf (x.exp L [114,117,108,101]) with vs:=[],ms:=[] } with
    | error er=>rw [ha] at hr;cases hr
    | ok v=>rw [ha] at h3;exact (hp h3.1).symm
 ·rw [exp_err h0] at h;exact h.2 h0
end
section
variable {P P' S:Nat→Prop} {w0 w w':World} {p:Nat} {A:Option Addr} {c:Nat} {L:List Tok} {x y y':St}
theorem LocP.callP (h:LocP P w0 w p A c L x y) (hr:RdS w' p A c L y') (ho:∀k,y'.own p k→y.own p k∨w.heap.size≤k) (u:Upd (fun k=>y.own p k∨P k) w w'):LocP P w0 w' p A c L x y':=by
 have hl:=h.le;refine ⟨hr,fun k q=>?_,fun k q=>?_,h.xlt,h.upd.trans u (fun k hk q=>?_)⟩
 ·rcases ho k q with r | r
  ·exact h.own k r
  ·exact .inr (by omega)
 ·obtain ⟨h1,h2,h3⟩:=h.pr k q;refine ⟨h1,Nat.lt_of_lt_of_le h2 u.size,fun r=>?_⟩;rcases ho k r with r | r
  ·exact h3 r
  ·omega
 ·rcases q with q | q
  ·rcases h.own k q with r | r
   ·exact r
   ·omega
  ·have:=(h.pr k q).1;omega
def P2 (n0 k:Nat):Prop:=k=n0∨k=n0+1
def z14:Array Value:=#[.string ⟨#[]⟩,.int .i64 0,.int .i64 0,.int .i64 0,.int .i64 0,.slice none 0 0,.int .i64 0,.int .i64 0,.int .i64 0,.int .i64 0,.slice none 0 0,.slice none 0 0,.int .i64 0,.int .i64 0]
def z3:Array Value:=#[.string ⟨#[]⟩,.int .i64 0,.bool false]
def P5 (n0 g1 g2:Nat) (CA:Option Addr) (k:Nat):Prop:=k=n0∨k=n0+1∨k=g1∨k=g2∨At CA k
structure ItS (w0 w:World) (p:Nat) (A:Option Addr) (c:Nat) (L:List Tok) (x y:St) (g1 g2:Nat) (ts:Bs) (tp:Nat) (R:Rl) (a:RlA):Prop where
 loc:LocP (P5 w0.heap.size g1 g2 a.ca) w0 w p A c L x y
 res:Blk w w0.heap.size 43 z14
 tkr:Blk w (w0.heap.size+1) 62 z3
 tk:Blk w g1 62 #[.string (kstr ts),.int .i64 tp,.bool false]
 rl:Blk w g2 43 (rlCells R a)
 cds:CdO w a.ca a.cc R.conds
 o1:w0.heap.size+1<g1
 o2:g1<g2
 kl:KpS (P5 w0.heap.size g1 g2 a.ca) w0.heap.size p w y R.l a.la a.lc
 kr:KpS (P5 w0.heap.size g1 g2 a.ca) w0.heap.size p w y R.r a.ra a.rc
section
variable {g1 g2:Nat} {ts:Bs} {tp:Nat} {R R':Rl} {a a':RlA}
theorem ItS.ncd (h:ItS w0 w p A c L x y g1 g2 ts tp R a):¬At a.ca w0.heap.size∧¬At a.ca (w0.heap.size+1)∧¬At a.ca g1∧¬At a.ca g2 :=
 ⟨Own.ne_blk h.cds h.res (by decide),Own.ne_blk h.cds h.tkr (by decide),Own.ne_blk h.cds h.tk (by decide),Own.ne_blk h.cds h.rl (by decide)⟩
theorem ItS.leaf {S:Nat→Prop} {n0:Nat}:KpS S n0 p w y (.mk 0 0 0 0 []) none 0:=PtK.leaf
theorem ItS.new (h:ItS w0 w p A c L x y g1 g2 ts tp R a) {q:Pt} {KA:Option Addr} {kc:Nat} (hq:PtK w' (fun k=>w.heap.size≤k∧¬y'.own p k) q KA kc):KpS (P5 w0.heap.size g1 g2 a.ca) w0.heap.size p w' y' q KA kc:=KpS.new hq (fun k r=>(h.loc.pr k r).2.1) h.loc.le
theorem ItS.call (h:ItS w0 w p A c L x y g1 g2 ts tp R a) (hr:RdS w' p A c L y') (ho:∀k,y'.own p k→y.own p k∨w.heap.size≤k) (u:Upd (y.own p) w w'):ItS w0 w' p A c L x y' g1 g2 ts tp R a :=
 ⟨h.loc.call hr ho u,h.loc.keep u (.inl rfl) h.res,h.loc.keep u (.inr (.inl rfl)) h.tkr,h.loc.keep u (.inr (.inr (.inl rfl))) h.tk,h.loc.keep u (.inr (.inr (.inr (.inl rfl)))) h.rl,h.cds.upd u (fun k q=>(h.loc.pr k (.inr (.inr (.inr (.inr q))))).2.2),h.o1,h.o2,h.kl.call ho u,h.kr.call ho u⟩
theorem ItS.exp (h:ItS w0 w p A c L x y g1 g2 ts tp R a) {s:Bs} (hr:RdS w' p A c L (y.exp L s)) (u:Upd (·=p) w w'):ItS w0 w' p A c L x (y.exp L s) g1 g2 ts tp R a :=
 h.call hr (fun _ hk=>.inl ((exp_own _ _).1 hk)) (u.mono (fun _ _ e=>.inl e))
theorem ItS.non (h:ItS w0 w p A c L x y g1 g2 ts tp R a) (u:Upd Non w w'):ItS w0 w' p A c L x y g1 g2 ts tp R a :=
 h.call (h.loc.rd.non u) (fun _ q=>.inl q) (u.mono (fun _ _ f=>f.elim))
theorem ItS.setI (h:ItS w0 w p A c L x y g1 g2 ts tp R a) (n:Nat):ItS w0 (w.setCell ⟨p,1,none⟩ (.int .i64 n)) p A c L x { y with i:=n } g1 g2 ts tp R a :=
 h.call (h.loc.rd.setI n) (fun _ q=>.inl q) ((updCell _ _ _ _).mono (fun _ _ e=>.inl e))
theorem ItS.setLeft (h:ItS w0 w p A c L x y g1 g2 ts tp R a) (b:Bool):ItS w0 (w.setCell ⟨p,6,none⟩ (.bool b)) p A c L x { y with left:=b } g1 g2 ts tp R a :=
 h.call (h.loc.rd.setLeft b) (fun _ q=>.inl q) ((updCell _ _ _ _).mono (fun _ _ e=>.inl e))
theorem ItS.rule (h:ItS w0 w p A c L x y g1 g2 ts tp R a) (u:Upd (·=g2) w w') (hb:Blk w' g2 43 (rlCells R' a')) (e1:a'.ca=a.ca) (e2:a'.cc=a.cc) (e3:R'.conds=R.conds) (kl:KpS (P5 w0.heap.size g1 g2 a.ca) w0.heap.size p w y R'.l a'.la a'.lc) (kr:KpS (P5 w0.heap.size g1 g2 a.ca) w0.heap.size p w y R'.r a'.ra a'.rc):ItS w0 w' p A c L x y g1 g2 ts tp R' a':=by
 have hc:=h.ncd;have o1:=h.o1;have o2:=h.o2;refine ⟨?_,h.res.upd u (by omega),h.tkr.upd u (by omega),h.tk.upd u (by omega),hb,?_,o1,o2,?_,?_⟩
 ·rw [e1];exact h.loc.turn u (fun _ _ e=>.inr (.inr (.inr (.inl e)))) (fun _ q=>.inl q)
 ·rw [e1,e2,e3];exact h.cds.upd u (fun k hk e=>hc.2.2.2 (e ▸ hk))
 ·rw [e1];exact kl.turn u (fun _ _ e=>.inr (.inr (.inr (.inl e)))) (fun _ q=>.inl q)
 ·rw [e1];exact kr.turn u (fun _ _ e=>.inr (.inr (.inr (.inl e)))) (fun _ q=>.inl q)
theorem ItS.fin (h:ItS w0 w p A c L x y g1 g2 ts tp R a) (u:Upd (P2 w0.heap.size) w w'):LocP (P5 w0.heap.size g1 g2 a.ca) w0 w' p A c L x y∧RlK w' (fun k=>w0.heap.size≤k∧¬y.own p k) R a∧Blk w' g1 62 #[.string (kstr ts),.int .i64 tp,.bool false]∧Blk w' g2 43 (rlCells R a):=by
 have hn:=h.ncd;have o1:=h.o1;have o2:=h.o2;have hS:∀k,k<w.heap.size→P2 w0.heap.size k→P5 w0.heap.size g1 g2 a.ca k:=fun k _ q=>q.imp_right .inl
 have hl:=h.loc.turn (P':=P5 w0.heap.size g1 g2 a.ca) u hS (fun _ q=>.inl q);refine ⟨hl,⟨?_,?_,?_,?_⟩,h.tk.upd u (fun q=>?_),h.rl.upd u (fun q=>?_)⟩
 ·exact PtK.mono (fun _ _ q=>⟨q.1,q.2.1⟩) _ _ _ (h.kl.turn (P':=P5 w0.heap.size g1 g2 a.ca) u hS (fun _ q=>.inl q))
 ·exact PtK.mono (fun _ _ q=>⟨q.1,q.2.1⟩) _ _ _ (h.kr.turn (P':=P5 w0.heap.size g1 g2 a.ca) u hS (fun _ q=>.inl q))
 ·have hc:CdO w' a.ca a.cc R.conds:=h.cds.upd u (fun k hk q=>by
   rcases q with q | q
   ·exact hn.1 (q ▸ hk)
   ·exact hn.2.1 (q ▸ hk))
  exact hc.view.mono (fun k _ q=>⟨(hl.pr k (.inr (.inr (.inr (.inr q))))).1,(hl.pr k (.inr (.inr (.inr (.inr q))))).2.2⟩)
 ·exact CdO.le h.cds
 ·rcases q with q | q <;> omega
 ·rcases q with q | q <;> omega
theorem ItS.app (h:ItS w0 w p A c L x y g1 g2 ts tp R a) {CA:Option Addr} {cc:Nat} {cd:Cd} (u:Upd (At a.ca) w w') (hc:CdO w' CA cc (R.conds++[cd])) (hat:∀k,At CA k→At a.ca k∨k=w.heap.size) {w'':World} (u2:Upd (·=g2) w' w'') (hb:Blk w'' g2 43 (rlCells { R with conds:=R.conds++[cd] } { a with ca:=CA,cc:=cc })):ItS w0 w'' p A c L x y g1 g2 ts tp { R with conds:=R.conds++[cd] } { a with ca:=CA,cc:=cc }:=by
 have hn:=h.ncd;have o1:=h.o1;have o2:=h.o2;have hg:g2<w.heap.size:=h.rl.lt;have uu:Upd (fun k=>At a.ca k∨k=g2) w w'':=(u.mono (fun _ _ q=>.inl q)).trans (u2.mono (fun _ _ q=>.inr q)) (fun _ _ q=>q)
 have hS:∀k,k<w.heap.size→(At a.ca k∨k=g2)→P5 w0.heap.size g1 g2 a.ca k:=fun k _ e=>by
  rcases e with e | e
  ·exact .inr (.inr (.inr (.inr e)))
  ·exact .inr (.inr (.inr (.inl e)))
 have hP:∀k,P5 w0.heap.size g1 g2 CA k→P5 w0.heap.size g1 g2 a.ca k∨(w.heap.size≤k∧k<w''.heap.size):=fun k q=>by
  rcases q with q | q | q | q | q
  ·exact .inl (.inl q)
  ·exact .inl (.inr (.inl q))
  ·exact .inl (.inr (.inr (.inl q)))
  ·exact .inl (.inr (.inr (.inr (.inl q))))
  ·rcases hat k q with r | r
   ·exact .inl (.inr (.inr (.inr (.inr r))))
   ·have hk:=hc.lt q;have:=u2.size;exact .inr ⟨by omega,by omega⟩
 refine ⟨h.loc.turn uu hS hP,h.res.upd uu (fun q=>?_),h.tkr.upd uu (fun q=>?_),h.tk.upd uu (fun q=>?_),hb,?_,o1,o2,h.kl.turn uu hS hP,h.kr.turn uu hS hP⟩
 ·rcases q with q | q
  ·exact hn.1 q
  ·omega
 ·rcases q with q | q
  ·exact hn.2.1 q
  ·omega
 ·rcases q with q | q
  ·exact hn.2.2.1 q
  ·omega
 ·refine CdO.upd hc u2 (fun k hk e=>?_);subst e;rcases hat _ hk with r | r
  ·exact hn.2.2.2 r
  ·omega
end
end
theorem ba_beq (s q:ByteArray):(s==q)=decide (s=q):=by
 rcases s with ⟨s⟩;rcases q with ⟨q⟩
 show (s==q)=_;rw [Bool.eq_iff_iff];simp
def lookS:List MapEntry→ByteArray→Option Value
 | [],_=>none
 | e::es,s=>match e.key with
  | .string k=>if s=k then some e.val else lookS es s
  | _=>lookS es s
def SMap (w:World) (b:Nat) (m:ByteArray→Option Value):Prop :=
 ∃es clock,w.heap[b]?=some (.map es clock)∧(∀e∈es.toList,∃s,e.key=.string s)∧∀s,lookS es.toList s=m s
section
variable {P:Program} {w w':World} {b:Nat} {m:ByteArray→Option Value}
theorem SMap.lt (h:SMap w b m):b<w.heap.size:=by obtain ⟨_,_,hb,_⟩:=h;exact lt_of_heap hb
theorem SMap.new (w:World):SMap (w.alloc (.map #[] 0)) w.heap.size (fun _=>none):=⟨#[],0,heap_alloc_new w _,by simp,fun _=>rfl⟩
theorem SMap.upd {S:Nat→Prop} (h:SMap w b m) (u:Upd S w w') (hS:¬S b):SMap w' b m:=by
 obtain ⟨es,clock,hb,h1,h2⟩:=h;exact ⟨es,clock,(u.block b (lt_of_heap hb) hS).trans hb,h1,h2⟩
theorem findNow_str (s:ByteArray):∀(es:List MapEntry) (i:Nat),(∀e∈es,∃s,e.key=.string s)→∃r,Instr.findNow .string (.string s) es i=some r∧r.map (·.2)=lookS es s ∧
  (∀j v,r=some (j,v)→∃k,j=i+k∧k<es.length∧(es[k]?).map (·.key)=some (.string s)∧∀s' x,lookS (es.modify k fun e=>{ e with key:=.string s,val:=x }) s'=if s'=s then some x else lookS es s') ∧
  (r=none→∀s' x c,lookS (es++[{ key:=.string s,val:=x,born:=c }]) s'=if s'=s then some x else lookS es s'):=by
 intro es
 induction es with
 | nil =>
  intro i _;refine ⟨none,rfl,rfl,by simp,fun _ s' x c=>?_⟩;simp only [List.nil_append,lookS]
 | cons e es ih =>
  intro i hk;obtain ⟨q,hq⟩:=hk e (by simp);obtain ⟨r,h1,h2,h3,h4⟩:=ih (i+1) (fun x hx=>hk x (by simp [hx]));by_cases he:s=q
  ·subst he;refine ⟨some (i,e.val),by simp [Instr.findNow,Instr.sameNow,hq,ba_beq],by simp [lookS,hq],?_,by simp⟩;rintro j v ⟨⟩;refine ⟨0,rfl,by simp,by simp [hq],fun s' x=>?_⟩;simp only [List.modify_zero_cons,lookS,hq]
   split <;> simp_all
  ·have hb:(s==q)=false:=by simpa [ba_beq] using he
   refine ⟨r,by simp [Instr.findNow,Instr.sameNow,hq,hb,h1],by simp [lookS,hq,he,h2],?_,?_⟩
   ·rintro j v rfl;obtain ⟨k,rfl,hkl,hkk,hm⟩:=h3 j v rfl;refine ⟨k+1,by omega,by simpa using hkl,by simpa using hkk,fun s' x=>?_⟩;simp only [List.modify_succ_cons,lookS,hq,hm]
    split
    ·rename_i e2;subst e2;rw [if_neg (fun h=>he h.symm)]
    ·rfl
   ·intro hr s' x c;simp only [List.cons_append,lookS,hq,h4 hr]
    split
    ·rename_i e2;subst e2;rw [if_neg (fun h=>he h.symm)]
    ·rfl
theorem checkKey_string {k:TypeId} (hk:P.underlying k=some .string) (b:Bool) (n:Nat) (s:ByteArray):(Instr.checkKey b (n+1) k (.string s)).run P w=.ok () w:=by
 simp [Instr.checkKey,run_underlying hk]
theorem SMap.look1 {t k e:TypeId} (ht:P.underlying t=some (.map k e)) (hk:P.underlying k=some .string) {z:Value} (hz:(zeroValue e).run P w=.ok z w) (h:SMap w b m) (s:ByteArray) :
  (Instr.lookup t (.map (some b)) (.string s) false).run P w=.ok ((m s).getD z) w:=by
 obtain ⟨es,clock,hb,h1,h2⟩:=h;obtain ⟨r,hr,hm,_⟩:=findNow_str s es.toList 0 h1;have hg:(getObj b).run P w=.ok (.map es clock) w:=by simp [getObj,Sem.run,hb]
 rw [←h2 s,←hm]
 cases r with
 | none=>simp [Instr.lookup,run_underlying ht,run_underlying hk,hg,checkKey_string hk,Instr.findKey,hr,hz]
 | some p=>simp [Instr.lookup,run_underlying ht,run_underlying hk,hg,checkKey_string hk,Instr.findKey,hr]
theorem SMap.store {t k e:TypeId} (ht:P.underlying t=some (.map k e)) (hk:P.underlying k=some .string) (h:SMap w b m) (s:ByteArray) (v:Value) :
  ∃w',(Instr.mapUpdate t (.map (some b)) (.string s) v).run P w=.ok () w'∧SMap w' b (fun x=>if x=s then some v else m x)∧Upd (·=b) w w':=by
 obtain ⟨es,clock,hb,h1,h2⟩:=h;obtain ⟨r,hr,hm,h3,h4⟩:=findNow_str s es.toList 0 h1;have hg:(getObj b).run P w=.ok (.map es clock) w:=by simp [getObj,Sem.run,hb]
 have hset:∀o,(setObj b o).run P w=.ok () { w with heap:=w.heap.setIfInBounds b o }:=fun o=>by simp [setObj,Sem.run,hb]
 have hU:∀o,Upd (·=b) w { w with heap:=w.heap.setIfInBounds b o }:=fun o=>⟨rfl,rfl,rfl,by simp,fun j hj hne=>by simp [Ne.symm hne]⟩
 have hlt:=lt_of_heap hb
 cases r with
 | none =>
  refine ⟨{ w with heap:=w.heap.setIfInBounds b (.map (es.push { key:=.string s,val:=v,born:=clock }) (clock+1)) },by simp [Instr.mapUpdate,run_underlying ht,hg,checkKey_string hk,Instr.findKey,run_underlying hk,hr,hset],?_,hU _⟩
  refine ⟨es.push { key:=.string s,val:=v,born:=clock },clock+1,by simp [hlt],?_,fun s'=>?_⟩
  ·intro e he;rw [Array.toList_push] at he;rcases List.mem_append.1 he with he | he
   ·exact h1 e he
   ·simp at he;subst he;exact ⟨s,rfl⟩
  ·rw [Array.toList_push,h4 rfl];simp only [h2]
 | some p =>
  obtain ⟨j,v0⟩:=p;obtain ⟨kk,hj,hkl,hkk,hmod⟩:=h3 j v0 rfl;have hj':j=kk:=by omega
  subst hj'
  have hkey:((es[j]?).map (·.key)).getD (.string s)=.string s:=by
   have : es.toList[j]?=es[j]?:=by simp
   rw [←this,hkk];rfl
  have hst:(Instr.keyThatStays (.string s) (.string s)).run P w=.ok (.string s) w:=by simp [Instr.keyThatStays,Instr.sameBits,ba_beq]
  refine ⟨{ w with heap:=w.heap.setIfInBounds b (.map (es.modify j fun e=>{ e with key:=.string s,val:=v }) clock) },by simp [Instr.mapUpdate,run_underlying ht,hg,checkKey_string hk,Instr.findKey,run_underlying hk,hr,hkey,hst,hset],?_,hU _⟩
  refine ⟨es.modify j fun e=>{ e with key:=.string s,val:=v },clock,by simp [hlt],?_,fun s'=>?_⟩
  ·intro e he;rw [Array.toList_modify] at he;obtain ⟨i,hi,rfl⟩:=List.mem_iff_getElem.1 he;rw [List.getElem_modify]
   split
   ·exact ⟨s,rfl⟩
   ·exact h1 _ (List.getElem_mem _)
  ·rw [Array.toList_modify,hmod];simp only [h2]
end
theorem rs_len (op:Int):(rsF op).1.length=3:=by
 unfold rsF
 (repeat' split) <;> rfl
theorem arr3_cells (l:List Int) (h:l.length=3):#[Value.int .i64 (l.getD 0 0),.int .i64 (l.getD 1 0),.int .i64 (l.getD 2 0)]=(icells l).toArray:=by
 match l,h with
 | [a,b,c],_=>rfl
theorem arr3_get {w:World} {g:Nat} {l:List Int} (h:Blk w g 93 (icells l).toArray) {i:Nat} (hi:i<l.length):w.cell? ⟨g,i,none⟩=some (.int .i64 (l.getD i 0)):=by
 rw [h.cell];simp [icells,List.getD,hi]
def ss_ok (ks:List Pt) (ss:List Int) (m:Int) (n:Nat):Prop:=shpL ks ss m n=true
set_option maxRecDepth 100000 in
set_option maxHeartbeats 4000000 in
theorem rlCollect_c (p:Pt):∀(w:World) (F:Nat→Prop) (KA:Option Addr) (kc gv c gi d:Nat) (s s0:Int) (m n:Nat) (vs ms:List Int),PtK w F p KA kc→¬F gv→¬F gi→gv≠gi→VBlk w gv vs→VBlk w gi ms→shp p s0 m n=true→vs.length=n+1→ms.length=m+1→n≤1000→m≤1000 →
  Calls Tryz.prog 47 #[pv p KA kc,.int .i64 s,.slice (some ⟨gv,0,none⟩) vs.length c,.slice (some ⟨gi,0,none⟩) ms.length d] w fun e w'=>e=.returned (.tuple #[])∧VBlk w' gv (colV (occ p s) vs)∧VBlk w' gi (colI (occI p) ms)∧Upd (fun k=>k=gv∨k=gi) w w':=by
 induction p using Pt.ind with
 | h p ih =>
  intro w F KA kc gv c gi d s s0 m n vs ms hp hFv hFi hne hgv hgi hsh hvl hml hn hm;have HI:=h_ ih;obtain ⟨W,HW⟩:=nm (w.alloc (.cells #[.int .i64 p.v,.int .i64 p.op,.int .i64 p.imm,.int .i64 p.iv,.slice KA p.kids.length kc] 40));have hU:Upd Non w W:=by rw [←HW.out];exact Upd.refl.alloc _
  have hb:Blk W w.heap.size 40 #[.int .i64 p.v,.int .i64 p.op,.int .i64 p.imm,.int .i64 p.iv,.slice KA p.kids.length kc]:=by rw [←HW.out];exact Blk.new _ _ _
  have hsz:W.heap.size=w.heap.size+1:=by rw [←HW.out];simp
  have e0:=HW.out;have hvlt:gv<w.heap.size:=Blk.lt hgv;have hilt:gi<w.heap.size:=Blk.lt hgi;have hgv:VBlk W gv vs:=Blk.upd hgv hU (fun f=>f);have hgi:VBlk W gi ms:=Blk.upd hgi hU (fun f=>f);have hp:=PtK.upd hU (fun _ _ _ f=>f) p KA kc hp;have HSV:=h_ (@shp_var p);have HSO:=h_ (@shp_op p);have HIV:=h_ (@occI_var p s0 m n hsh);have HIO:=h_ (@occI_op p);have HOV:=h_ (fun h=>@occ_var p h s);have HOO:=h_ (fun h=>@occ_op p h s);have HND:=h_ ((shp_nodes _ _ _ _ hsh).2 p (by rw [nodes_eq];simp));have HSH:=h_ hsh;obtain ⟨RV,HRV⟩:=nm (occ p s);obtain ⟨RI,HRI⟩:=nm (occI p);rw [HRV.out,HRI.out];have c0:=hb.cell 0;have c1:=hb.cell 1;have c3:=hb.cell 3;have c4:=hb.cell 4;have h2U:Upd (fun k=>k=gv∨k=gi) w W:=hU.mono (fun _ _ f=>f.elim);unfold pv;obtain ⟨v,Hv⟩:=nm p.v;obtain ⟨op,Hop⟩:=nm p.op;obtain ⟨imm,Him⟩:=nm p.imm;obtain ⟨iv,Hiv⟩:=nm p.iv;obtain ⟨k,Hk⟩:=nm p.kids.length;rw [Hv.out] at c0 e0 hb;rw [Hop.out] at c1 e0 hb;rw [Him.out] at e0 hb;rw [Hiv.out] at c3 e0 hb HND;rw [Hk.out] at c4 e0 hb HND;rw [Hv.out,Hop.out,Him.out,Hiv.out,Hk.out]
  obtain ⟨vn,Hvn⟩:=nm vs.length;obtain ⟨mn,Hmn⟩:=nm ms.length;rw [Hvn.out] at hvl ⊢;rw [Hmn.out] at hml ⊢;subst hvl;subst hml;clear ih hsh;by_cases hv:v=0
  ·subst hv
   have hso:(oSortsF op).2.2=true∧k=(oSortsF op).1.length∧shpL p.kids (oSortsF op).1 m n=true:=by
    have h:=HSH.out;rw [HSO.out Hv.out,Bool.and_eq_true,decide_eq_true_eq,Hop.out,Hk.out] at h;exact ⟨h.1.1,h.1.2.1,h.2⟩
   obtain ⟨ho,hk,hsl⟩:=hso;obtain ⟨_,hk3,hrs⟩:=rs_parts ho;obtain ⟨_,hivr,_⟩:=HND.out;have hivr:=hivr (by omega);obtain ⟨j,rfl⟩:∃j:Nat,iv=(j:Int):=Int.eq_ofNat_of_zero_le hivr.1;have hjm:j<ms.length:=by rw [Hmn.out];omega
   have hRI:Hid (RI=(j:Int)::occIL p.kids):=by show _=_;rw [←HRI.out,HIO.out Hv.out,Hiv.out]
   have hRV:Hid (RV=occL p.kids (oSortsF op).1):=by show _=_;rw [←HRV.out,HOO.out Hv.out,Hop.out]
   have hkk:k≤3:=by omega
   have HSL:=h_ hsl;have HRS:Hid (∀i,i<k→(rsF op).1.getD i 0=(oSortsF op).1.getD i 0):=fun i hi=>by rw [hrs i (by omega),getD_of (by omega:i<(oSortsF op).1.length)]
   have hz:=VBlk.cell hgi hjm;have hfr:=Blk.frozen hgi;obtain ⟨W2,HW2⟩:=nm (W.setCell ⟨gi,j,none⟩ (.int .i64 1));have hgi2:VBlk W2 gi (ms.set j 1):=by rw [←HW2.out];exact VBlk.set_ hgi j 1
   have u2:Upd (·=gi) W W2:=by rw [←HW2.out];exact updCell _ _ _ _
   have e2:=HW2.out;have hgv2:VBlk W2 gv vs:=Blk.upd hgv u2 hne;have hb2:=hb.upd u2 (by omega);have hp2:=PtK.upd u2 (fun q _ hq e=>hFi (by rw [←e];exact hq)) p KA kc hp;have hs2:=u2.size;have HU2:Upd (fun q=>q=gv∨q=gi) w W2:=h2U.trans u2 (fun q _ h=>.inr h);have d1:=hb2.cell 1;have d4:=hb2.cell 4;have CS:=h_ (rlSorts_c op W2);clear HSV HSO HIV HIO HOV HOO HND HSH HRV HRI hrs ho hk3 hsl hb hp hgv hgi hk;go_enter Tryz.func47,Tryz.ntmps47;go_wp2_with fail
   refine CS.out.mono ?_;rintro e w3 ⟨rfl,u3⟩;obtain ⟨l3,Hl3⟩:=nm (rsF op).1;have hl3:=rs_len op;have ha3:=arr3_cells (rsF op).1 hl3;rw [Hl3.out] at hl3 ha3 HRS;rw [Hl3.out];obtain ⟨x0,Hx0⟩:=nm (l3.getD 0 0);obtain ⟨x1,Hx1⟩:=nm (l3.getD 1 0);obtain ⟨x2,Hx2⟩:=nm (l3.getD 2 0);rw [Hx0.out,Hx1.out,Hx2.out] at ha3;rw [Hx0.out,Hx1.out,Hx2.out];have HA3:=h_ ha3;obtain ⟨W4,HW4⟩:=nm (w3.alloc (.cells #[.int .i64 x0,.int .i64 x1,.int .i64 x2] 93));have e4:=HW4.out;have u4:Upd Non w3 W4:=by rw [←e4];exact Upd.refl.alloc _
   have hb4:Blk W4 w3.heap.size 93 (icells l3).toArray:=by rw [←ha3,←e4];exact Blk.new _ _ _
   have u24:=u3.then_non u4;have hb2:=hb2.upd u24 (fun f=>f);have hs3:=u3.size;have d4:=hb2.cell 4;have hgi4:VBlk W4 gi (ms.set j 1):=Blk.upd hgi2 u24 (fun f=>f);have hgv4:VBlk W4 gv vs:=Blk.upd hgv2 u24 (fun f=>f);have hp4:=PtK.upd u24 (fun _ _ _ f=>f) p KA kc hp2;have HU4:=HU2.then_non u24;have HSS:Hid (ss_ok p.kids (oSortsF op).1 m n):=HSL.out;have HM0:Hid ((ms.set j 1).length=m+1∧vs.length=n+1):=⟨by rw [List.length_set,Hmn.out],Hvn.out⟩;obtain ⟨ss,Hss⟩:=nm (oSortsF op).1;rw [Hss.out] at HSS HRS hRV;have hgi4:=h_ hgi4;have hgv4:=h_ hgv4;obtain ⟨ms1,Hms1⟩:=nm (ms.set j 1);rw [Hms1.out] at HM0 hgi4;have hl3k:k≤l3.length:=by omega
   have hsz4:W4.heap.size=w3.heap.size+1:=by rw [←HW4.out];simp
   clear CS ha3 hgi2 hgv2 hp2 hz hfr HSL hl3 hb2 d1;go_wp2_with fail
   go_loopg [10,11,36] k (fun g _ _ i wr=>∃q:Nat,Hid (g=k - q)∧q≤k∧i=.int .i64 q∧Hid (VBlk wr gv (colV (occL (p.kids.take q) ss) vs))∧Hid (VBlk wr gi (colI (occIL (p.kids.take q)) ms1))∧Upd (fun q=>q=gv∨q=gi) W4 wr)
   case atStart=>exact ⟨0,rfl,by omega,rfl,hgv4.out,hgi4.out,Upd.refl⟩
   case round =>
    obtain ⟨q,Hg,hq,rfl,HV,HM,hu⟩:=hrel;by_cases hlt:q<k
    ·have hql:q<p.kids.length:=by rw [Hk.out];exact hlt
     obtain ⟨b,o,rfl,hF,hbw,KB,kd,h0,h1,h2,h3,h4,h5⟩:=(PtK.upd hu (fun q _ hq e=>by rcases e with rfl | rfl;exact hFv hq;exact hFi hq) p KA kc hp4).at_ hql
     have HTK:Hid (p.kids.take (q+1)=p.kids.take q++[p.kids[q]]∧(p.kids.take q).length=q):=⟨take_snoc' hql,by rw [List.length_take];omega⟩;have hmem:=List.getElem_mem hql;have hsk:=shpL_at hql HSS.out;generalize p.kids[q]=t at *;have hb4r:=hb4.upd hu (by omega);have a0:=arr3_get hb4r (i:=q) (by omega);have HRQ:=h_ (HRS.out q hlt);obtain ⟨sq,Hsq⟩:=nm (l3.getD q 0);rw [Hsq.out] at a0 HRQ;obtain ⟨W5,HW5⟩:=nm (wr.alloc (.cells #[.int .i64 t.v,.int .i64 t.op,.int .i64 t.imm,.int .i64 t.iv,.slice KB t.kids.length kd] 40));have e5:=HW5.out;have u5:Upd Non wr W5:=by rw [←e5];exact Upd.refl.alloc _
     have bt:Blk W5 wr.heap.size 40 #[.int .i64 t.v,.int .i64 t.op,.int .i64 t.imm,.int .i64 t.iv,.slice KB t.kids.length kd]:=by rw [←e5];exact Blk.new _ _ _
     obtain ⟨wD,HwD⟩:=nm W5.drew;have uD:Upd Non W5 wD:=by rw [←HwD.out];exact Upd.refl.drew
     have u6:=u5.then_non uD;have hsu:=hu.size;have hs5:=u5.size;have C1:=h_ (HI.out t hmem wD F KB kd gv c gi d sq (ss.getD q 0) m n (colV (occL (p.kids.take q) ss) vs) (colI (occIL (p.kids.take q)) ms1) (PtK.upd u6 (fun _ _ _ f=>f) _ _ _ h5) hFv hFi hne (Blk.upd HV.out u6 (fun f=>f)) (Blk.upd HM.out u6 (fun f=>f)) hsk (by rw [colV_len,HM0.out.2]) (by rw [colI_len,HM0.out.1]) hn hm)
     rw [colV_len,colI_len,HM0.out.1,HM0.out.2] at C1;unfold pv at C1;have HV2:Hid (colV (occ t sq) (colV (occL (p.kids.take q) ss) vs)=colV (occL (p.kids.take (q+1)) ss) vs):=by show _=_;rw [HTK.out.1,occL_snoc,HTK.out.2,colV_snoc,HRQ.out]
     have HM2:Hid (colI (occI t) (colI (occIL (p.kids.take q)) ms1)=colI (occIL (p.kids.take (q+1))) ms1):=by show _=_;rw [HTK.out.1,occIL_snoc,colI_snoc]
     rw [HV2.out,HM2.out] at C1
     have SS:∀w',Upd (fun q=>q=gv∨q=gi) W5 w'→w'.cell? ⟨wr.heap.size,0,none⟩=some (.int .i64 t.v)∧w'.cell? ⟨wr.heap.size,1,none⟩=some (.int .i64 t.op)∧w'.cell? ⟨wr.heap.size,2,none⟩=some (.int .i64 t.imm)∧w'.cell? ⟨wr.heap.size,3,none⟩=some (.int .i64 t.iv)∧w'.cell? ⟨wr.heap.size,4,none⟩=some (.slice KB t.kids.length kd)∧w'.cell? ⟨w3.heap.size,q,none⟩=some (.int .i64 sq):=fun w' u =>
      ⟨u_ (bt.cell 0) u (by omega),u_ (bt.cell 1) u (by omega),u_ (bt.cell 2) u (by omega),u_ (bt.cell 3) u (by omega),u_ (bt.cell 4) u (by omega),u_ (u_ a0 u5 (fun f=>f)) u (by omega)⟩
     have HS:=h_ SS;have q0:=bt.cell 0;have q1:=bt.cell 1;have q2:=bt.cell 2;have q3:=bt.cell 3;have q4:=bt.cell 4;have hq3:(q:Int)<3:=by omega
     have hq0:(0:Int)≤(q:Int):=by omega
     clear SS h5 HV HM bt HTK hmem hsk;go_wp2_with fail
     refine wp_region_held_drew (S:=fun w'=>w'.cell? ⟨wr.heap.size,0,none⟩=some (.int .i64 t.v)∧w'.cell? ⟨wr.heap.size,1,none⟩=some (.int .i64 t.op)∧w'.cell? ⟨wr.heap.size,2,none⟩=some (.int .i64 t.imm)∧w'.cell? ⟨wr.heap.size,3,none⟩=some (.int .i64 t.iv)∧w'.cell? ⟨wr.heap.size,4,none⟩=some (.slice KB t.kids.length kd)∧w'.cell? ⟨w3.heap.size,q,none⟩=some (.int .i64 sq)) (by kernel_rfl) (by rw [HwD.out];exact HS.out _ (uD.mono (fun _ _ f=>f.elim))) (fun hHeld=>?_)
     rw [HwD.out] at hHeld ⊢;refine wpT 0 ?_;(try simp only [y_,z_]);refine wpT 1 ?_;(try simp only [y_,z_]);refine wpT 2 ?_;(try simp only [y_,z_]);refine wpT 3 ?_;(try simp only [y_,z_]);refine wpT 4 ?_;(try simp only [y_,z_]);refine wpT 5 ?_;(try simp only [y_,z_]);refine aR_ (rs:=[6]) (by kernel_rfl) (by simp) ?_;refine aC_ rfl (fun K hK=>?_) aN_;go_simp;refine C1.out.mono ?_;rintro e w7 ⟨rfl,hv7,hm7,hu7⟩;have u7:Upd (fun q=>q=gv∨q=gi) W5 w7:=(uD.mono (T:=fun q=>q=gv∨q=gi) (fun _ _ f=>f.elim)).trans hu7 (fun _ _ h=>h);have HV7:=h_ hv7;have HM7:=h_ hm7;go_wp2_with fail
     refine hK.out _ _ ?_ (fun hHeld=>?_)
     ·exact HS.out _ u7
     clear hK K;(try simp only [y_,z_]);refine aD_ (by kernel_rfl) ?_ _;have HU7:Upd (fun q=>q=gv∨q=gi) W4 w7:=(hu.then_non u5).trans u7 (fun _ _ h=>h);clear hv7 hm7 C1 HS;go_wp2_with fail
     go_roundg (k - (q+1))
     case measure=>rw [Hg.out];omega
     case rel=>exact ⟨q+1,rfl,by omega,by go_num,HV7.out,HM7.out,HU7⟩
    ·obtain rfl:k=q:=by omega
     have HT:Hid (p.kids.take k=p.kids):=List.take_of_length_le (by rw [Hk.out];exact Nat.le_refl _);rw [HT.out] at HV HM;have HU:=HU4.trans hu (fun _ _ h=>h);go_wp2_with fail
     go_end0
     rw [hRV.out,hRI.out];refine ⟨rfl,HV.out,?_,HU⟩;show VBlk _ gi (colI (occIL p.kids) (ms.set (j:Int).toNat 1));rw [Int.toNat_natCast,Hms1.out];exact HM.out
  ·have hsv:1≤v∧v≤n:=by
    have h:=HSH.out;rw [HSV.out (by rw [Hv.out];exact hv),decide_eq_true_eq,Hv.out] at h;omega
   obtain ⟨j,rfl⟩:∃j:Nat,v=(j:Int):=Int.eq_ofNat_of_zero_le (by omega);have hjn:j<vs.length:=by rw [Hvn.out];omega
   have hRI:Hid (RI=[]):=by show _=_;rw [←HRI.out];exact HIV.out (by rw [Hv.out];exact hv)
   have hRV:Hid (RV=[((j:Int),s)]):=by show _=_;rw [←HRV.out,HOV.out (by rw [Hv.out];exact hv),Hv.out]
   have hz:=VBlk.cell hgv hjn;have hfr:=Blk.frozen hgv;have hset:=VBlk.set_ hgv j (orB (vs.getD j 0) s);obtain ⟨z,Hz⟩:=nm (vs.getD j 0);rw [Hz.out] at hz hset;unfold orB at hset;have hj0:(0:Int)<(j:Int):=by omega
   clear HSV HSO HIV HIO HOV HOO HND HSH HRV HRI hb;go_enter Tryz.func47,Tryz.ntmps47;go_wp2_with fail
   refine bodyPost_ret (results_none rfl _ _ _) rfl ?_;rw [hRV.out,hRI.out];refine ⟨rfl,?_,Blk.upd hgi (updCell _ _ _ _) (fun e=>hne e.symm),h2U.trans (updCell _ _ _ _) (fun q _ e=>.inl e)⟩;show VBlk _ gv (vs.set (j:Int).toNat (orB (vs.getD (j:Int).toNat 0) s));rw [Int.toNat_natCast,Hz.out];exact hset
theorem nm_cases (x:Int):(97≤x∧x≤122)∨(48≤x∧x≤57)∨x=45∨(x<48∧x≠45)∨(57<x∧x<97)∨122<x:=by omega
theorem all_take {s:ByteArray} {k:Nat} (hk:k<s.size) (h:((kx s).take k).all nmCh=true) (c:nmCh ((kx s).getD k 0)=true):((kx s).take (k+1)).all nmCh=true:=by
 have hl:k<(kx s).length:=by rw [kx_len];exact hk
 rw [List.take_add_one,List.getElem?_eq_getElem hl,List.all_append,h];rw [getD_of hl] at c;simp [c]
theorem all_bad {s:ByteArray} {k:Nat} (hk:k<s.size) (c:nmCh ((kx s).getD k 0)=false):nameF s=false:=by
 have hl:k<(kx s).length:=by rw [kx_len];exact hk
 rw [getD_of hl] at c;unfold nameF
 have : s.data.toList.all nmCh=false:=by
  rw [Bool.eq_false_iff];intro h;rw [List.all_eq_true] at h;have:=h _ (List.getElem_mem hl);rw [c] at this;cases this
 rw [this];rfl
theorem all_ok {s:ByteArray} (h:((kx s).take s.size).all nmCh=true):nameF s=decide (1≤s.size∧s.size≤16):=by
 have hl:(kx s).length≤s.size:=by rw [kx_len];exact Nat.le_refl _
 rw [List.take_of_length_le hl] at h;unfold nameF;rw [show s.data.toList.all nmCh=true from h];rfl
set_option maxRecDepth 100000 in
set_option maxHeartbeats 4000000 in
theorem rlValidName_c (s:ByteArray) (w:World) (hs:s.size≤1000000000000000):Calls Tryz.prog 45 #[.string s] w fun e w'=>e=.returned (.bool (nameF s))∧∃n,w'=w.drewN n:=by
 obtain ⟨n,Hn⟩:=nm s.size;rw [Hn.out] at hs;have hsn:=Hn.out;obtain ⟨R,HR⟩:=nm (nameF s);rw [HR.out];go_enter Tryz.func45,Tryz.ntmps45;go_wp2_with fail
 go_loopg [3,4] n (fun g i _ wr=>∃k:Nat,Hid (g=n - k)∧k≤n∧i=.int .i64 k∧Hid (((kx s).take k).all nmCh=true)∧∃q,wr=w.drewN q)
 case atStart=>exact ⟨0,rfl,by omega,rfl,by show _=_;simp,0,rfl⟩
 case round =>
  obtain ⟨k,Hg,hk,rfl,HA,n1,rfl⟩:=hrel;by_cases hlt:k<n
  ·have hks:k<s.size:=by rw [Hn.out];exact hlt
   have HOK:=h_ (fun c=>all_take hks HA.out c);have HBAD:=h_ (fun c=>@all_bad s k hks c);rw [HR.out] at HBAD;have hkl:k<(kx s).length:=by rw [kx_len];exact hks
   rw [getD_of hkl,show (kx s)[k]=s[k]'hks from rfl] at HOK HBAD;have HNC:Hid (nmCh (s[k]'hks)=decide (97≤(s[k]'hks).toNat∧(s[k]'hks).toNat≤122∨48≤(s[k]'hks).toNat∧(s[k]'hks).toNat≤57∨(s[k]'hks).toNat=45)):=rfl
   obtain ⟨x,Hx⟩:=nm (((s[k]'hks).toNat:Nat):Int);have HX:=Hx.out;rcases nm_cases x with hc | hc | hc | hc | hc | hc
   ·have f1:decide ((((s[k]'hks).toNat:Nat):Int)<97)=false:=by rw [Hx.out];exact dF_ (by omega)
    have f2:decide (122<(((s[k]'hks).toNat:Nat):Int))=false:=by rw [Hx.out];exact dF_ (by omega)
    have hok:nmCh (s[k]'hks)=true:=by rw [HNC.out,decide_eq_true_eq];omega
    have HOK2:=h_ (HOK.out hok);clear hok;clear hc HX;go_wp2_with fail
    go_roundg (n - (k+1))
    case measure=>rw [Hg.out];omega
    case rel=>exact ⟨k+1,rfl,by omega,by go_num,HOK2.out,_,rfl⟩
   ·have f1:decide ((((s[k]'hks).toNat:Nat):Int)<97)=true:=by rw [Hx.out];exact dT_ (by omega)
    have f3:decide ((((s[k]'hks).toNat:Nat):Int)<48)=false:=by rw [Hx.out];exact dF_ (by omega)
    have f4:decide (57<(((s[k]'hks).toNat:Nat):Int))=false:=by rw [Hx.out];exact dF_ (by omega)
    have hok:nmCh (s[k]'hks)=true:=by rw [HNC.out,decide_eq_true_eq];omega
    have HOK2:=h_ (HOK.out hok);clear hok;clear hc HX;go_wp2_with fail
    go_roundg (n - (k+1))
    case measure=>rw [Hg.out];omega
    case rel=>exact ⟨k+1,rfl,by omega,by go_num,HOK2.out,_,rfl⟩
   ·have f1:decide ((((s[k]'hks).toNat:Nat):Int)<97)=true:=by rw [Hx.out];exact dT_ (by omega)
    have f3:decide ((((s[k]'hks).toNat:Nat):Int)<48)=true:=by rw [Hx.out];exact dT_ (by omega)
    have f5:((((s[k]'hks).toNat:Nat):Int) != 45)=false:=by rw [Hx.out];simp [hc]
    have hok:nmCh (s[k]'hks)=true:=by rw [HNC.out,decide_eq_true_eq];omega
    have HOK2:=h_ (HOK.out hok);clear hok;clear hc HX;go_wp2_with fail
    go_roundg (n - (k+1))
    case measure=>rw [Hg.out];omega
    case rel=>exact ⟨k+1,rfl,by omega,by go_num,HOK2.out,_,rfl⟩
   ·have f1:decide ((((s[k]'hks).toNat:Nat):Int)<97)=true:=by rw [Hx.out];exact dT_ (by omega)
    have f3:decide ((((s[k]'hks).toNat:Nat):Int)<48)=true:=by rw [Hx.out];exact dT_ (by omega)
    have f5:((((s[k]'hks).toNat:Nat):Int) != 45)=true:=by rw [Hx.out];simp;omega
    have hbad:nmCh (s[k]'hks)=false:=by rw [HNC.out,decide_eq_false_iff_not];omega
    have HB:=h_ (HBAD.out hbad);clear hbad;clear hc HX;go_wp2_with fail
    go_ret;exact ⟨by rw [HB.out];rfl,_,rfl⟩
   ·have f1:decide ((((s[k]'hks).toNat:Nat):Int)<97)=true:=by rw [Hx.out];exact dT_ (by omega)
    have f3:decide ((((s[k]'hks).toNat:Nat):Int)<48)=false:=by rw [Hx.out];exact dF_ (by omega)
    have f4:decide (57<(((s[k]'hks).toNat:Nat):Int))=true:=by rw [Hx.out];exact dT_ (by omega)
    have f5:((((s[k]'hks).toNat:Nat):Int) != 45)=true:=by rw [Hx.out];simp;omega
    have hbad:nmCh (s[k]'hks)=false:=by rw [HNC.out,decide_eq_false_iff_not];omega
    have HB:=h_ (HBAD.out hbad);clear hbad;clear hc HX;go_wp2_with fail
    go_ret;exact ⟨by rw [HB.out];rfl,_,rfl⟩
   ·have f1:decide ((((s[k]'hks).toNat:Nat):Int)<97)=false:=by rw [Hx.out];exact dF_ (by omega)
    have f2:decide (122<(((s[k]'hks).toNat:Nat):Int))=true:=by rw [Hx.out];exact dT_ (by omega)
    have f3:decide ((((s[k]'hks).toNat:Nat):Int)<48)=false:=by rw [Hx.out];exact dF_ (by omega)
    have f4:decide (57<(((s[k]'hks).toNat:Nat):Int))=true:=by rw [Hx.out];exact dT_ (by omega)
    have f5:((((s[k]'hks).toNat:Nat):Int) != 45)=true:=by rw [Hx.out];simp;omega
    have hbad:nmCh (s[k]'hks)=false:=by rw [HNC.out,decide_eq_false_iff_not];omega
    have HB:=h_ (HBAD.out hbad);clear hbad;clear hc HX;go_wp2_with fail
    go_ret;exact ⟨by rw [HB.out];rfl,_,rfl⟩
  ·obtain rfl:n=k:=by omega
   have HRE:Hid (R=decide (1≤n∧n≤16)):=by
    have:=HA.out;rw [←Hn.out] at this;show _=_;rw [←HR.out,all_ok this,Hn.out]
   by_cases h1:1≤n
   ·have f1:decide ((1:Int)≤(n:Int))=true:=dT_ (by omega);by_cases h2:n≤16
    ·have f2:decide ((n:Int)≤16)=true:=dT_ (by omega);have HR2:Hid (R=true):=by show _=_;rw [HRE.out];exact dT_ ⟨h1,h2⟩
     clear h1 h2;go_wp2_with fail
     go_ret;exact ⟨by rw [HR2.out];rfl,_,rfl⟩
    ·have f2:decide ((n:Int)≤16)=false:=dF_ (by omega);have HR2:Hid (R=false):=by show _=_;rw [HRE.out];exact dF_ (by omega)
     clear h1 h2;go_wp2_with fail
     go_ret;exact ⟨by rw [HR2.out];rfl,_,rfl⟩
   ·have f1:decide ((1:Int)≤(n:Int))=false:=dF_ (by omega);have HR2:Hid (R=false):=by show _=_;rw [HRE.out];exact dF_ (by omega)
    clear h1;go_wp2_with fail
    go_ret;exact ⟨by rw [HR2.out];rfl,_,rfl⟩
set_option maxRecDepth 100000 in
set_option maxHeartbeats 4000000 in
theorem r15validName_c (s:ByteArray) (w:World) (hs:s.size≤1000000000000000):Calls Tryz.prog 49 #[.string s] w fun e w'=>e=.returned (.bool (nameF s))∧∃n,w'=w.drewN n:=by
 obtain ⟨n,Hn⟩:=nm s.size;rw [Hn.out] at hs;have hsn:=Hn.out;obtain ⟨R,HR⟩:=nm (nameF s);rw [HR.out];go_enter Tryz.func49,Tryz.ntmps49;go_wp2_with fail
 go_loopg [3] n (fun g i wr=>∃k:Nat,Hid (g=n - k)∧k≤n∧i=.int .i64 k∧Hid (((kx s).take k).all nmCh=true)∧∃q,wr=w.drewN q)
 case atStart=>exact ⟨0,rfl,by omega,rfl,by show _=_;simp,0,rfl⟩
 case round =>
  obtain ⟨k,Hg,hk,rfl,HA,n1,rfl⟩:=hrel;by_cases hlt:k<n
  ·have hks:k<s.size:=by rw [Hn.out];exact hlt
   have HOK:=h_ (fun c=>all_take hks HA.out c);have HBAD:=h_ (fun c=>@all_bad s k hks c);rw [HR.out] at HBAD;have hkl:k<(kx s).length:=by rw [kx_len];exact hks
   rw [getD_of hkl,show (kx s)[k]=s[k]'hks from rfl] at HOK HBAD;have HNC:Hid (nmCh (s[k]'hks)=decide (97≤(s[k]'hks).toNat∧(s[k]'hks).toNat≤122∨48≤(s[k]'hks).toNat∧(s[k]'hks).toNat≤57∨(s[k]'hks).toNat=45)):=rfl
   obtain ⟨x,Hx⟩:=nm (((s[k]'hks).toNat:Nat):Int);have HX:=Hx.out;rcases nm_cases x with hc | hc | hc | hc | hc | hc
   ·have f1:decide ((((s[k]'hks).toNat:Nat):Int)<97)=false:=by rw [Hx.out];exact dF_ (by omega)
    have f2:decide (122<(((s[k]'hks).toNat:Nat):Int))=false:=by rw [Hx.out];exact dF_ (by omega)
    have hok:nmCh (s[k]'hks)=true:=by rw [HNC.out,decide_eq_true_eq];omega
    have HOK2:=h_ (HOK.out hok);clear hok;clear hc HX;go_wp2_with fail
    go_roundg (n - (k+1))
    case measure=>rw [Hg.out];omega
    case rel=>exact ⟨k+1,rfl,by omega,by go_num,HOK2.out,_,rfl⟩
   ·have f1:decide ((((s[k]'hks).toNat:Nat):Int)<97)=true:=by rw [Hx.out];exact dT_ (by omega)
    have f3:decide ((((s[k]'hks).toNat:Nat):Int)<48)=false:=by rw [Hx.out];exact dF_ (by omega)
    have f4:decide (57<(((s[k]'hks).toNat:Nat):Int))=false:=by rw [Hx.out];exact dF_ (by omega)
    have hok:nmCh (s[k]'hks)=true:=by rw [HNC.out,decide_eq_true_eq];omega
    have HOK2:=h_ (HOK.out hok);clear hok;clear hc HX;go_wp2_with fail
    go_roundg (n - (k+1))
    case measure=>rw [Hg.out];omega
    case rel=>exact ⟨k+1,rfl,by omega,by go_num,HOK2.out,_,rfl⟩
   ·have f1:decide ((((s[k]'hks).toNat:Nat):Int)<97)=true:=by rw [Hx.out];exact dT_ (by omega)
    have f3:decide ((((s[k]'hks).toNat:Nat):Int)<48)=true:=by rw [Hx.out];exact dT_ (by omega)
    have f5:((((s[k]'hks).toNat:Nat):Int) != 45)=false:=by rw [Hx.out];simp [hc]
    have hok:nmCh (s[k]'hks)=true:=by rw [HNC.out,decide_eq_true_eq];omega
    have HOK2:=h_ (HOK.out hok);clear hok;clear hc HX;go_wp2_with fail
    go_roundg (n - (k+1))
    case measure=>rw [Hg.out];omega
    case rel=>exact ⟨k+1,rfl,by omega,by go_num,HOK2.out,_,rfl⟩
   ·have f1:decide ((((s[k]'hks).toNat:Nat):Int)<97)=true:=by rw [Hx.out];exact dT_ (by omega)
    have f3:decide ((((s[k]'hks).toNat:Nat):Int)<48)=true:=by rw [Hx.out];exact dT_ (by omega)
    have f5:((((s[k]'hks).toNat:Nat):Int) != 45)=true:=by rw [Hx.out];simp;omega
    have hbad:nmCh (s[k]'hks)=false:=by rw [HNC.out,decide_eq_false_iff_not];omega
    have HB:=h_ (HBAD.out hbad);clear hbad;clear hc HX;go_wp2_with fail
    go_ret;exact ⟨by rw [HB.out];rfl,_,rfl⟩
   ·have f1:decide ((((s[k]'hks).toNat:Nat):Int)<97)=true:=by rw [Hx.out];exact dT_ (by omega)
    have f3:decide ((((s[k]'hks).toNat:Nat):Int)<48)=false:=by rw [Hx.out];exact dF_ (by omega)
    have f4:decide (57<(((s[k]'hks).toNat:Nat):Int))=true:=by rw [Hx.out];exact dT_ (by omega)
    have f5:((((s[k]'hks).toNat:Nat):Int) != 45)=true:=by rw [Hx.out];simp;omega
    have hbad:nmCh (s[k]'hks)=false:=by rw [HNC.out,decide_eq_false_iff_not];omega
    have HB:=h_ (HBAD.out hbad);clear hbad;clear hc HX;go_wp2_with fail
    go_ret;exact ⟨by rw [HB.out];rfl,_,rfl⟩
   ·have f1:decide ((((s[k]'hks).toNat:Nat):Int)<97)=false:=by rw [Hx.out];exact dF_ (by omega)
    have f2:decide (122<(((s[k]'hks).toNat:Nat):Int))=true:=by rw [Hx.out];exact dT_ (by omega)
    have f3:decide ((((s[k]'hks).toNat:Nat):Int)<48)=false:=by rw [Hx.out];exact dF_ (by omega)
    have f4:decide (57<(((s[k]'hks).toNat:Nat):Int))=true:=by rw [Hx.out];exact dT_ (by omega)
    have f5:((((s[k]'hks).toNat:Nat):Int) != 45)=true:=by rw [Hx.out];simp;omega
    have hbad:nmCh (s[k]'hks)=false:=by rw [HNC.out,decide_eq_false_iff_not];omega
    have HB:=h_ (HBAD.out hbad);clear hbad;clear hc HX;go_wp2_with fail
    go_ret;exact ⟨by rw [HB.out];rfl,_,rfl⟩
  ·obtain rfl:n=k:=by omega
   have HRE:Hid (R=decide (1≤n∧n≤16)):=by
    have:=HA.out;rw [←Hn.out] at this;show _=_;rw [←HR.out,all_ok this,Hn.out]
   by_cases h1:1≤n
   ·have f1:decide ((1:Int)≤(n:Int))=true:=dT_ (by omega);by_cases h2:n≤16
    ·have f2:decide ((n:Int)≤16)=true:=dT_ (by omega);have HR2:Hid (R=true):=by show _=_;rw [HRE.out];exact dT_ ⟨h1,h2⟩
     clear h1 h2;go_wp2_with fail
     go_ret;exact ⟨by rw [HR2.out];rfl,_,rfl⟩
    ·have f2:decide ((n:Int)≤16)=false:=dF_ (by omega);have HR2:Hid (R=false):=by show _=_;rw [HRE.out];exact dF_ (by omega)
     clear h1 h2;go_wp2_with fail
     go_ret;exact ⟨by rw [HR2.out];rfl,_,rfl⟩
   ·have f1:decide ((1:Int)≤(n:Int))=false:=dF_ (by omega);have HR2:Hid (R=false):=by show _=_;rw [HRE.out];exact dF_ (by omega)
    clear h1;go_wp2_with fail
    go_ret;exact ⟨by rw [HR2.out];rfl,_,rfl⟩
end Go.Proofs.YtblkgjdhaibhgaaGreat
