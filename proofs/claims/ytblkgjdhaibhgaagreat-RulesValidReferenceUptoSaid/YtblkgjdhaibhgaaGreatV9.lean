/-
  Lemmas and walks that the claim rests on, part 9 (packed by a program).
-/
import Derived.Test.YtblkgjdhaibhgaaGreatV8
import Derived.Test.YtblkgjdhaibhgaaGreatV4
import Derived.Test.YtblkgjdhaibhgaaGreatV5
import Derived.Test.YtblkgjdhaibhgaaGreatV6
namespace Go.Proofs.YtblkgjdhaibhgaaGreat
open Go.RowKit
set_option maxRecDepth 100000 in
set_option maxHeartbeats 4000000 in
theorem l17Mutate_5 (w:World) (F:Nat→Prop) (A:Option Addr) (c:Nat) (xs:List Int) (how at_:Int) (hx:Ints w F A xs) (hc:xs.length≤c) (hI:∀x∈xs,I64 x) (hn:xs.length≤100000000000000) (hsel:7≤how % 10):Calls Tryz.prog 16 #[.slice A xs.length c,.int .i64 how,.int .i64 at_] w (MrP w):=by
 obtain ⟨W1,HW1⟩:=nm (w.alloc (.cells #[.string ⟨#[]⟩,.int .i64 0,.int .i64 0,.int .i64 0,.int .i64 0,.slice none 0 0,.int .i64 0,.int .i64 0,.int .i64 0,.int .i64 0,.slice none 0 0,.slice none 0 0,.int .i64 0,.int .i64 0] 43))
 have u1:Upd Non w W1:=by rw [←HW1.out];exact Upd.refl.alloc _
 have b1:Blk W1 w.heap.size 43 #[.string ⟨#[]⟩,.int .i64 0,.int .i64 0,.int .i64 0,.int .i64 0,.slice none 0 0,.int .i64 0,.int .i64 0,.int .i64 0,.int .i64 0,.slice none 0 0,.slice none 0 0,.int .i64 0,.int .i64 0]:=by rw [←HW1.out];exact Blk.new _ _ _
 have s1:W1.heap.size=w.heap.size+1:=by rw [←HW1.out];simp
 have e1:=HW1.out;have CK:=h_ (kRule_c W1 F A c xs (kstr [114,117,108,101]) (hx.upd u1 (fun _ _ _ f=>f)) hc hI hn);have HSM:=h_ (kRule_sm (kstr [114,117,108,101]) (by rw [kstr_size];decide) (xs.take 40));have HRI:=h_ (kRule_i (kstr [114,117,108,101]) (xs.take 40) (fun x hx=>hI x (List.mem_of_mem_take hx)));obtain ⟨r,Hr⟩:=nm (kRuleF (kstr [114,117,108,101]) (xs.take 40));rw [Hr.out] at CK HSM HRI;obtain ⟨n,Hn⟩:=nm xs.length;rw [Hn.out] at CK ⊢;have HB1:=h_ b1;have HU1:=h_ u1;have C (d:Int) (h0:0<d) (h1:d≤1000):=h_ (fun (m:Int) W=>pick_c m d W h0 (by omega));have C10:=C 10 (by omega) (by omega);have C9:=C 9 (by omega) (by omega);have C8:=C 8 (by omega) (by omega);have C6:=C 6 (by omega) (by omega);have C4:=C 4 (by omega) (by omega);have C2:=C 2 (by omega) (by omega);obtain ⟨m,hm⟩:∃m:Nat,how % 10=(m:Int):=Int.eq_ofNat_of_zero_le (by omega);have hm10:7≤m∧m<10:=by omega
 have CM:=h_ (C10.out how);rw [hm] at CM;clear hsel hx hc hI hn b1 u1 hm C C10;go_enter Tryz.func16,Tryz.ntmps16;go_wp2_with fail
 refine CK.out.mono ?_;rintro e w3 ⟨a,rfl,hk3,u3⟩;clear CK e1;obtain ⟨X,HX⟩:=nm (w3.alloc (.cells (rlCells r a) 43));have uX:Upd Non w3 X:=by rw [←HX.out];exact Upd.refl.alloc _
 have bX:Blk X w3.heap.size 43 (rlCells r a):=by rw [←HX.out];exact Blk.new _ _ _
 have hs3:w.heap.size<w3.heap.size:=by have:=u3.size;omega
 have HBX:=h_ bX;have HKX:Hid (RlK X (fun k=>w.heap.size<k∧k≠w3.heap.size) r a):=(hk3.mono (G:=fun k=>w.heap.size<k∧k≠w3.heap.size) (fun k hk h=>⟨by omega,by omega⟩)).upd uX (fun _ _ _ f=>f)
 have HU:=h_ ((HU1.out.then_non u3).then_non uX);have HZ0:=h_ ((HB1.out.upd u3 (fun f=>f)).upd uX (fun f=>f));have HX0:Hid (MrX w.heap.size w3.heap.size X X):=⟨r,a,HBX.out,HKX.out,⟨by have:=HSM.out.1;omega,by have:=HSM.out.2.1;omega,by have:=HSM.out.2.2.1;omega,HSM.out.2.2.2⟩,HRI.out,Upd.refl⟩
 have eX:=HX.out;unfold rlCells at eX;unfold rlv rlCells;have CMX:=h_ (CM.out X);clear hk3 u3 uX bX CM HX
 go_upto_region 2 with fail
 try rw [eX]
 clear eX;go_wp2_with fail
 refine CMX.out.mono ?_;rintro e w4 ⟨rfl,rfl⟩;clear CMX;have h7:7≤m∧m<10:=by omega
 ·have t7:m=7∨m=8∨m=9:=by omega
  have hX:=HX0.out;rcases t7 with rfl | rfl | rfl
  ·skip
   go_upto_region 20 with fail
   obtain ⟨r9,a9,hbx,hk9,hs9,hi9,hux⟩:=hX;have hbz:=HZ0.out.upd hux (by omega);unfold rlCells at hbx;have y0:=hbx.cell 0;have y1:=hbx.cell 1;have y2:=hbx.cell 2;have y3:=hbx.cell 3;have y4:=hbx.cell 4;have y5:=hbx.cell 5;have y6:=hbx.cell 6;have y7:=hbx.cell 7;have y8:=hbx.cell 8;have y9:=hbx.cell 9;have y10:=hbx.cell 10;have y11:=hbx.cell 11;have y12:=hbx.cell 12;have y13:=hbx.cell 13;have z0:=hbz.cell 0;have z1:=hbz.cell 1;have z2:=hbz.cell 2;have z3:=hbz.cell 3;have z4:=hbz.cell 4;have z5:=hbz.cell 5;have z6:=hbz.cell 6;have z7:=hbz.cell 7;have z8:=hbz.cell 8;have z9:=hbz.cell 9;have z10:=hbz.cell 10;have z11:=hbz.cell 11;have z12:=hbz.cell 12;have z13:=hbz.cell 13;have rf:=hbx.frozen;have zf:=hbz.frozen;have HZ:=h_ hbz;have HK9:=h_ hk9;have HS9:=h_ hs9;have HI9:=h_ hi9;have HUX:=h_ hux;clear hbz hbx hk9 hs9 hi9 hux;go_wp2_with fail
   rw [set14_eq];refine bodyPost_ret (results_cell_row rfl _ _ w.heap.size 43 _ (0,0) _ rfl (set14_blk HZ.out _ _ _ _ _ _ _ _ _ _ _ _ _ _) Tryz.underlying43 rfl (by kernel_rfl)) rfl ?_
   refine ⟨r9,a9,rfl,?_,HS9.out,HI9.out,?_⟩
   ·exact (HK9.out.upd (set14_upd _ _ _ _ _ _ _ _ _ _ _ _ _ _ _ _) (fun k _ h e=>by have:=h.1;omega)).mono (fun k _ h=>by have:=h.1;omega)
   ·exact (HU.out.trans HUX.out (fun k hk e=>by omega)).trans (set14_upd _ _ _ _ _ _ _ _ _ _ _ _ _ _ _ _) (fun k hk e=>by omega)
  ·skip
   go_upto_region 20 with fail
   obtain ⟨r9,a9,hbx,hk9,hs9,hi9,hux⟩:=hX;have hbz:=HZ0.out.upd hux (by omega);unfold rlCells at hbx;have y0:=hbx.cell 0;have y1:=hbx.cell 1;have y2:=hbx.cell 2;have y3:=hbx.cell 3;have y4:=hbx.cell 4;have y5:=hbx.cell 5;have y6:=hbx.cell 6;have y7:=hbx.cell 7;have y8:=hbx.cell 8;have y9:=hbx.cell 9;have y10:=hbx.cell 10;have y11:=hbx.cell 11;have y12:=hbx.cell 12;have y13:=hbx.cell 13;have z0:=hbz.cell 0;have z1:=hbz.cell 1;have z2:=hbz.cell 2;have z3:=hbz.cell 3;have z4:=hbz.cell 4;have z5:=hbz.cell 5;have z6:=hbz.cell 6;have z7:=hbz.cell 7;have z8:=hbz.cell 8;have z9:=hbz.cell 9;have z10:=hbz.cell 10;have z11:=hbz.cell 11;have z12:=hbz.cell 12;have z13:=hbz.cell 13;have rf:=hbx.frozen;have zf:=hbz.frozen;have HZ:=h_ hbz;have HK9:=h_ hk9;have HS9:=h_ hs9;have HI9:=h_ hi9;have HUX:=h_ hux;clear hbz hbx hk9 hs9 hi9 hux;go_wp2_with fail
   rw [set14_eq];refine bodyPost_ret (results_cell_row rfl _ _ w.heap.size 43 _ (0,0) _ rfl (set14_blk HZ.out _ _ _ _ _ _ _ _ _ _ _ _ _ _) Tryz.underlying43 rfl (by kernel_rfl)) rfl ?_
   refine ⟨r9,a9,rfl,?_,HS9.out,HI9.out,?_⟩
   ·exact (HK9.out.upd (set14_upd _ _ _ _ _ _ _ _ _ _ _ _ _ _ _ _) (fun k _ h e=>by have:=h.1;omega)).mono (fun k _ h=>by have:=h.1;omega)
   ·exact (HU.out.trans HUX.out (fun k hk e=>by omega)).trans (set14_upd _ _ _ _ _ _ _ _ _ _ _ _ _ _ _ _) (fun k hk e=>by omega)
  ·skip
   go_upto_region 20 with fail
   obtain ⟨r9,a9,hbx,hk9,hs9,hi9,hux⟩:=hX;have hbz:=HZ0.out.upd hux (by omega);unfold rlCells at hbx;have y0:=hbx.cell 0;have y1:=hbx.cell 1;have y2:=hbx.cell 2;have y3:=hbx.cell 3;have y4:=hbx.cell 4;have y5:=hbx.cell 5;have y6:=hbx.cell 6;have y7:=hbx.cell 7;have y8:=hbx.cell 8;have y9:=hbx.cell 9;have y10:=hbx.cell 10;have y11:=hbx.cell 11;have y12:=hbx.cell 12;have y13:=hbx.cell 13;have z0:=hbz.cell 0;have z1:=hbz.cell 1;have z2:=hbz.cell 2;have z3:=hbz.cell 3;have z4:=hbz.cell 4;have z5:=hbz.cell 5;have z6:=hbz.cell 6;have z7:=hbz.cell 7;have z8:=hbz.cell 8;have z9:=hbz.cell 9;have z10:=hbz.cell 10;have z11:=hbz.cell 11;have z12:=hbz.cell 12;have z13:=hbz.cell 13;have rf:=hbx.frozen;have zf:=hbz.frozen;have HZ:=h_ hbz;have HK9:=h_ hk9;have HS9:=h_ hs9;have HI9:=h_ hi9;have HUX:=h_ hux;clear hbz hbx hk9 hs9 hi9 hux;go_wp2_with fail
   rw [set14_eq];refine bodyPost_ret (results_cell_row rfl _ _ w.heap.size 43 _ (0,0) _ rfl (set14_blk HZ.out _ _ _ _ _ _ _ _ _ _ _ _ _ _) Tryz.underlying43 rfl (by kernel_rfl)) rfl ?_
   refine ⟨r9,a9,rfl,?_,HS9.out,HI9.out,?_⟩
   ·exact (HK9.out.upd (set14_upd _ _ _ _ _ _ _ _ _ _ _ _ _ _ _ _) (fun k _ h e=>by have:=h.1;omega)).mono (fun k _ h=>by have:=h.1;omega)
   ·exact (HU.out.trans HUX.out (fun k hk e=>by omega)).trans (set14_upd _ _ _ _ _ _ _ _ _ _ _ _ _ _ _ _) (fun k hk e=>by omega)
theorem l17Mutate_c (w:World) (F:Nat→Prop) (A:Option Addr) (c:Nat) (xs:List Int) (how at_:Int) (hx:Ints w F A xs) (hc:xs.length≤c) (hI:∀x∈xs,I64 x) (hn:xs.length≤100000000000000):Calls Tryz.prog 16 #[.slice A xs.length c,.int .i64 how,.int .i64 at_] w (MrP w):=by
 have h0:0≤how % 10∧how % 10<10:=by omega
 rcases (by omega:how % 10<2∨(2≤how % 10∧how % 10<5)∨how % 10=5∨how % 10=6∨7≤how % 10) with h | h | h | h | h
 ·exact l17Mutate_1 w F A c xs how at_ hx hc hI hn h
 ·exact l17Mutate_2 w F A c xs how at_ hx hc hI hn h
 ·exact l17Mutate_3 w F A c xs how at_ hx hc hI hn h
 ·exact l17Mutate_4 w F A c xs how at_ hx hc hI hn h
 ·exact l17Mutate_5 w F A c xs how at_ hx hc hI hn h
theorem xtk_lt {T:List (Bs×Nat)} {i:Nat} {s:Bs} (h:tkF T i=some s):i<T.length:=by
 rcases Nat.lt_or_ge i T.length with q | q
 ·exact q
 ·unfold tkF at h;rw [List.getElem?_eq_none q] at h;cases h
def ResX {α:Type} (x y:Xs) (r:Except Er (α×PS)) (P:α→Prop):Prop :=
 (x.why=0→match r with
  | .ok (v,ps)=>y.why=0∧y.ps=ps∧P v
  | .error e=>y.why=e.1∧y.ea=e.2)∧(x.why≠0→y.why=x.why∧y.ea=x.ea)
def GoodX (T:List (Bs×Nat)) (x:Xs):Prop:=x.i≤T.length∧x.vs.length≤x.i∧x.ms.length≤x.i
structure XOk (T:List (Bs×Nat)):Prop where
 ne:∀t∈T,t.1≠[]
 sz:∀t∈T,t.1.length≤20000
 len:T.length≤20000
theorem xfail_why {x:Xs} {a b:Int} (h:x.why≠0):x.fail a b=x:=if_neg h
theorem xfail_zero {x:Xs} {a b:Int} (h:x.why=0):x.fail a b={ x with why:=a,ea:=b }:=if_pos h
theorem xfail_i (x:Xs) (a b:Int):(x.fail a b).i=x.i:=by unfold Xs.fail;split <;> rfl
theorem xfail_left (x:Xs) (a b:Int):(x.fail a b).left=x.left:=by unfold Xs.fail;split <;> rfl
theorem xfail_vs (x:Xs) (a b:Int):(x.fail a b).vs=x.vs:=by unfold Xs.fail;split <;> rfl
theorem xfail_ms (x:Xs) (a b:Int):(x.fail a b).ms=x.ms:=by unfold Xs.fail;split <;> rfl
theorem xfail_ne (x:Xs) {a b:Int} (h:a≠0):(x.fail a b).why≠0:=by
 unfold Xs.fail
 split
 ·exact h
 ·assumption
theorem GoodX.fail {T:List (Bs×Nat)} {x:Xs} (h:GoodX T x) (a b:Int):GoodX T (x.fail a b):=by
 unfold GoodX;rw [xfail_i,xfail_vs,xfail_ms];exact h
theorem ResX.err {α:Type} {T:List (Bs×Nat)} {fin i:Nat} {x z:Xs} {P:α→Prop} (h:x.why=0→z.why=0) (h2:x.why≠0→z.why=x.why∧z.ea=x.ea):ResX x (z.fail 2 (offF T fin i)) (.error (serr T fin i)) P:=by
 refine ⟨fun h0=>?_,fun h0=>?_⟩
 ·rw [xfail_zero (h h0)];exact ⟨rfl,rfl⟩
 ·have:=h2 h0;rw [xfail_why (by rw [this.1];exact h0)];exact this
section
variable {T:List (Bs×Nat)} {fin:Nat} {x y:Xs} {s:Bs}
theorem nx_none (h:¬(x.why=0∧x.i<T.length)):nxS T x=[]∧nxY T fin x=x.fail 2 (offF T fin x.i):=by
 unfold nxS nxY;rw [if_neg h];refine ⟨?_,rfl⟩
 split
 ·rename_i q;unfold tkF;rw [List.getElem?_eq_none (by have : ¬x.i<T.length:=fun r=>h ⟨q,r⟩;omega)];rfl
 ·rfl
theorem nx_some (h0:x.why=0) (ht:tkF T x.i=some s):nxS T x=s∧nxY T fin x={ x with i:=x.i+1 }∧x.i<T.length:=by
 have hl:=xtk_lt ht;unfold nxS nxY;rw [if_pos h0,if_pos ⟨h0,hl⟩,ht];exact ⟨rfl,rfl,hl⟩
theorem tk_none (h:¬x.i<T.length):tkF T x.i=none:=by
 unfold tkF;rw [List.getElem?_eq_none (by omega)];rfl
theorem tk_some (h:x.i<T.length):∃s,tkF T x.i=some s:=by
 unfold tkF;rw [List.getElem?_eq_getElem h];exact ⟨_,rfl⟩
theorem XOk.tk (h:XOk T) {i:Nat} (ht:tkF T i=some s):s≠[]∧s.length≤20000:=by
 have hl:=xtk_lt ht;unfold tkF at ht;rw [List.getElem?_eq_getElem hl] at ht;injection ht with ht
 rw [←ht];exact ⟨h.ne _ (List.getElem_mem hl),h.sz _ (List.getElem_mem hl)⟩
theorem nxY_good (h:GoodX T x):GoodX T (nxY T fin x)∧x.i≤(nxY T fin x).i∧(nxY T fin x).left=x.left∧(nxY T fin x).vs=x.vs∧(nxY T fin x).ms=x.ms:=by
 unfold nxY
 split
 ·rename_i q;exact ⟨⟨q.2,by have:=h.2.1;show x.vs.length≤x.i+1;omega,by have:=h.2.2;show x.ms.length≤x.i+1;omega⟩,Nat.le_succ _,rfl,rfl,rfl⟩
 ·exact ⟨h.fail _ _,by rw [xfail_i];exact Nat.le_refl _,xfail_left _ _ _,xfail_vs _ _ _,xfail_ms _ _ _⟩
theorem wrd_none {α:Type} {f:Bs→PS→Option (α×PS)} {z:PS} (h:tkF T z.i=none):wrdF T fin f z=.error (serr T fin z.i):=by unfold wrdF;rw [h]
theorem wrd_some {α:Type} {f:Bs→PS→Option (α×PS)} {z:PS} (h:tkF T z.i=some s):wrdF T fin f z=if isPn (s.headD 0) then .error (serr T fin z.i) else match f s z with
  | some (a,y)=>.ok (a,{ y with i:=z.i+1 })
  | none=>.error (serr T fin z.i):=by
 unfold wrdF;rw [h];rfl
theorem wrd_bad {α:Type} {f:Bs→PS→Option (α×PS)} {z:PS} (h:tkF T z.i=some s) (hf:f s z=none):wrdF T fin f z=.error (serr T fin z.i):=by
 rw [wrd_some h,hf]
 split <;> rfl
theorem wrd_good {α:Type} {f:Bs→PS→Option (α×PS)} {z u:PS} {a:α} (h:tkF T z.i=some s) (hp:isPn (s.headD 0)=false) (hf:f s z=some (a,u)):wrdF T fin f z=.ok (a,{ u with i:=z.i+1 }):=by
 rw [wrd_some h,hf,hp];rfl
theorem exY_err (h0:y.why≠0):exY T fin s y=y:=by
 unfold exY;rw [if_neg (fun q=>h0 q.1)];exact xfail_why h0
theorem exY_res (h0:y.why=0):match expF T fin s y.ps with | .ok u=>(exY T fin s y).why=0∧(exY T fin s y).ps=u | .error e=>(exY T fin s y).why=e.1∧(exY T fin s y).ea=e.2:=by
 unfold exY expF;rw [show y.ps.i=y.i from rfl];by_cases ht:tkF T y.i=some s
 ·rw [if_pos ht,if_pos ⟨h0,ht⟩];exact ⟨h0,rfl⟩
 ·rw [if_neg ht,if_neg (fun q=>ht q.2)];dsimp only;rw [xfail_zero h0];exact ⟨rfl,rfl⟩
theorem exY_left:(exY T fin s y).left=y.left:=by
 unfold exY
 split
 ·rfl
 ·exact xfail_left _ _ _
theorem exY_i:y.i≤(exY T fin s y).i:=by
 unfold exY
 split
 ·exact Nat.le_succ _
 ·exact Nat.le_of_eq (xfail_i _ _ _).symm
theorem exY_good (h:GoodX T y):GoodX T (exY T fin s y):=by
 unfold exY
 split
 ·rename_i q;have:=xtk_lt q.2;exact ⟨this,by have:=h.2.1;show y.vs.length≤y.i+1;omega,by have:=h.2.2;show y.ms.length≤y.i+1;omega⟩
 ·exact h.fail _ _
end
theorem kids_stepX {g:PS→Except Er (Pt×PS)} {y0 y y':Xs} {j:Nat} {ks:List Pt} {q:Pt} (hs:ResX y0 y (kidsF g j y0.ps) (fun v=>v=ks)) (h0:y.why=0) (hg:∀x e,g x=.error e→e.1≠0)
  (hr:ResX y y' (g y.ps) (fun v=>v=q∧q.size+y.i≤y'.i)) (hz:y.why=0→Pt.sizeL ks+y0.i≤y.i) :
  ResX y0 y' (kidsF g (j+1) y0.ps) (fun v=>v=ks++[q])∧(y'.why=0→Pt.sizeL (ks++[q])+y0.i≤y'.i):=by
 have h00:y0.why=0:=by
  by_cases h:y0.why=0
  ·exact h
  ·exact absurd ((hs.2 h).1 ▸ h0) h
 have h1:=hs.1 h00;have h2:=hr.1 h0;have hz:=hz h0
 cases hk:kidsF g j y0.ps with
 | error e=>rw [hk] at h1;exact absurd (h1.1 ▸ h0) (kidsF_e0 hg hk)
 | ok v =>
  obtain ⟨l,ps⟩:=v;rw [hk] at h1;obtain ⟨_,rfl,rfl⟩:=h1;refine ⟨⟨fun _=>?_,fun h=>absurd h00 h⟩,fun hy=>?_⟩
  ·rw [kidsF_snoc,hk];dsimp only
   cases ht:g y.ps with
   | error e=>rw [ht] at h2;exact h2
   | ok v =>
    obtain ⟨q2,z⟩:=v;rw [ht] at h2;exact ⟨h2.1,h2.2.1,by rw [h2.2.2.1]⟩
  ·cases ht:g y.ps with
   | error e=>rw [ht] at h2;exact absurd (h2.1 ▸ hy) (hg _ _ ht)
   | ok v =>
    rw [ht] at h2;have h3:q.size+y.i≤y'.i:=h2.2.2.2;rw [sizeL_snoc];omega
theorem kids_exitX {g:PS→Except Er (Pt×PS)} {y0 y:Xs} {j n:Nat} {ks:List Pt} (hs:ResX y0 y (kidsF g j y0.ps) (fun v=>v=ks)) (hj:j≤n) (hd:(decide (j<n)&&(y.why==0))=false):ResX y0 y (kidsF g n y0.ps) (fun v=>v=ks):=by
 by_cases hlt:j<n
 ·have h0:y.why≠0:=fun h=>by rw [h,dT_ hlt] at hd;cases hd
  refine ⟨fun h00=>?_,hs.2⟩;have h1:=hs.1 h00
  cases hk:kidsF g j y0.ps with
  | error e=>rw [hk] at h1;rw [kidsF_err hk hj];exact h1
  | ok v=>rw [hk] at h1;exact absurd h1.1 h0
 ·obtain rfl:j=n:=by omega
  exact hs
theorem app_finX {T:List (Bs×Nat)} {fin:Nat} {y:Xs} {left:Bool} {f n:Nat} {x y0:Xs} {q:Pt} {ks:List Pt} (hx:x.why=0)
  (hr:ResX x y0 (wrdF T fin (operF left) x.ps) (fun v=>v=q∧x.i+1≤y0.i)) (hn:n=(arF q.op).getD 0)
  (hs:ResX y0 y (kidsF (termF T fin left f) n y0.ps) (fun v=>v=ks)) (hz:y.why=0→Pt.sizeL ks+y0.i≤y.i) :
  ResX x (exY T fin [41] y) (appF T fin left f x.ps) (fun v=>v=.mk q.v q.op q.imm q.iv ks∧(Pt.mk q.v q.op q.imm q.iv ks).size+x.i≤(exY T fin [41] y).i):=by
 refine ⟨fun _=>?_,fun h=>absurd hx h⟩;have h1:=hr.1 hx;unfold appF
 cases hw:wrdF T fin (operF left) x.ps with
 | error e =>
  rw [hw] at h1;have hne:y0.why≠0:=by rw [h1.1];exact wrdF_err hw
  have h2:=hs.2 hne;rw [exY_err (by rw [h2.1];exact hne)];exact ⟨h2.1.trans h1.1,h2.2.trans h1.2⟩
 | ok v =>
  obtain ⟨q',ps⟩:=v;rw [hw] at h1;obtain ⟨h00,rfl,h1q,h1i⟩:=h1;subst h1q;have h2:=hs.1 h00;dsimp only;rw [←hn]
  cases hk:kidsF (termF T fin left f) n y0.ps with
  | error e =>
   rw [hk] at h2;have hne:y.why≠0:=by rw [h2.1];exact kidsF_e0 (termF_err f) hk
   rw [exY_err hne];exact h2
  | ok v =>
   obtain ⟨l,ps⟩:=v;rw [hk] at h2;obtain ⟨hy0,rfl,h2l⟩:=h2;subst h2l;dsimp only;have h3:=exY_res (T:=T) (fin:=fin) (s:=[41]) hy0
   cases he:expF T fin [41] y.ps with
   | error e=>rw [he] at h3;exact h3
   | ok u =>
    rw [he] at h3;refine ⟨h3.1,h3.2,by rw [wrdF_v hw],?_⟩;have h4:=hz hy0;have h5:y.i≤(exY T fin [41] y).i:=exY_i;rw [Pt.size_eq];show 1+Pt.sizeL l+x.i≤_;omega
theorem dec_pn {s:Bs} {n:Int} (h:decF s=some n):isPn (s.headD 0)=false:=by
 cases s with
 | nil=>rfl
 | cons c l =>
  show isPn c=false
  cases hp:isPn c with
  | false=>rfl
  | true =>
   exfalso
   simp only [isPn,decide_eq_true_eq] at hp;have h1:c≠45:=fun e=>by rw [e] at hp;exact absurd hp (by decide)
   have h3:isDg c=false:=by simp only [isDg,decide_eq_false_iff_not];omega
   unfold decF at h;simp [h1,h3] at h
theorem atom_dec {left:Bool} {s:Bs} {x:PS} {n:Int} (h:decF s=some n):atomF left s x=some (.mk 0 1 n 0 [],x):=by
 unfold atomF;rw [h]
theorem decF_q (b:UInt8):decF [63,b]=none:=by simp [decF,isDg]
theorem decF_d (b:UInt8):decF [36,b]=none:=by simp [decF,isDg]
theorem atom_q {left:Bool} {b:UInt8} (x:PS) (hb:isLw b=true):atomF left [63,b] x=if 0<(lookF x.vs b left).1 then some (.mk (lookF x.vs b left).1 0 0 0 [],{ x with vs:=(lookF x.vs b left).2 }) else none:=by
 unfold atomF;rw [decF_q];dsimp only
 have e1:varF [63,b] 63 x.vs left=lookF x.vs b left:=by
  show (if (63:UInt8).toNat=63∧isLw b=true then lookF x.vs b left else (0,x.vs))=_;rw [if_pos ⟨rfl,hb⟩]
 have e2:varF [63,b] 36 x.ms left=(0,x.ms):=by
  show (if (63:UInt8).toNat=36∧isLw b=true then lookF x.ms b left else (0,x.ms))=_;rw [if_neg (fun q=>absurd q.1 (by decide))]
 rw [e1,e2]
 split
 ·rfl
 ·exact if_neg (Nat.lt_irrefl 0)
theorem atom_d {left:Bool} {b:UInt8} (x:PS) (hb:isLw b=true):atomF left [36,b] x=if 0<(lookF x.ms b left).1 then some (.mk 0 1 0 (lookF x.ms b left).1 [],{ x with ms:=(lookF x.ms b left).2 }) else none:=by
 unfold atomF;rw [decF_d];dsimp only
 have e1:varF [36,b] 63 x.vs left=(0,x.vs):=by
  show (if (36:UInt8).toNat=63∧isLw b=true then lookF x.vs b left else (0,x.vs))=_;rw [if_neg (fun q=>absurd q.1 (by decide))]
 have e2:varF [36,b] 36 x.ms left=lookF x.ms b left:=by
  show (if (36:UInt8).toNat=36∧isLw b=true then lookF x.ms b left else (0,x.ms))=_;rw [if_pos ⟨rfl,hb⟩]
 rw [e1,e2];rw [if_neg (Nat.lt_irrefl 0)]
theorem varF_no {s:Bs} {c:Nat} {l:Bs} {left:Bool} (h:∀a b,s=[a,b]→isLw b=true→a.toNat≠c):varF s c l left=(0,l):=by
 match s,h with
 | [],_=>rfl
 | [_],_=>rfl
 | [a,b],h =>
  show (if a.toNat=c∧isLw b=true then lookF l b left else (0,l))=_;rw [if_neg (fun q=>h a b rfl q.2 q.1)]
 | _::_::_::_,_=>rfl
theorem atom_no {left:Bool} {s:Bs} {x:PS} (hd:decF s=none) (h:∀a b,s=[a,b]→isLw b=true→a.toNat≠63∧a.toNat≠36):atomF left s x=none:=by
 unfold atomF;rw [hd];dsimp only;rw [varF_no (c:=63) (fun a b e hb=>(h a b e hb).1),varF_no (c:=36) (fun a b e hb=>(h a b e hb).2)];rfl
theorem oper_i {left:Bool} {s:Bs} {i j:Nat} {vs ms:Bs}:operF left s ⟨j,vs,ms⟩=(operF left s ⟨i,vs,ms⟩).map fun v=>(v.1,{ v.2 with i:=j }):=by
 unfold operF;dsimp only
 split
 ·rfl
 ·split
  ·rfl
  ·split
   ·rfl
   ·split
    ·rfl
    ·split
     ·split <;> rfl
     ·rfl
theorem nameL_pn:∀s∈nameL,s≠[]∧isPn (s.headD 0)=false:=by decide
theorem findL_mem {l:List Bs} {s:Bs}:∀{k i:Nat},findL l s k=some i→s∈l:=by
 induction l with
 | nil=>intro k i h;cases h
 | cons x l ih =>
  intro k i h;rw [findL] at h
  split at h
  ·rename_i e;rw [e];exact List.mem_cons_self
  ·exact List.mem_cons_of_mem _ (ih h)
theorem oper_pn {left:Bool} {s:Bs} {z:PS} {v:Pt×PS} (h:operF left s z=some v):isPn (s.headD 0)=false:=by
 unfold operF at h;dsimp only at h
 split at h
 ·cases h
 ·rename_i op ho;unfold opF at ho
  cases hf:findL nameL (List.takeWhile (fun c=>decide (c.toNat≠46)) s) 0 with
  | none=>rw [hf] at ho;cases ho
  | some i =>
   have:=nameL_pn _ (findL_mem hf)
   cases s with
   | nil=>exact absurd rfl this.1
   | cons c l =>
    rw [List.takeWhile_cons] at this
    split at this
    ·exact this.2
    ·exact absurd rfl this.1
theorem op_resX {T:List (Bs×Nat)} {fin:Nat} {left:Bool} {y1 y2 y0:Xs} {s2:Bs} {q0:Pt} {b:Bool} (hg:GoodX T y1) (h0:y1.why=0) (hs:nxS T y1=s2) (hy2:nxY T fin y1=y2) (hl:y1.left=left) (hb:b=true→s2≠[])
  (ho:match operF y2.left s2 y2.ps with | some (q',ps)=>b=true∧q0=q'∧y0={ y2 with ms:=ps.ms }∧ps.vs=y2.vs∧ps.i=y2.i | none=>(b=false∧y0=y2)∨(b=true∧y0=y2.fail 2 (offF T fin y1.i))) :
  ResX y1 (bif b then y0 else y0.fail 2 (offF T fin y1.i)) (wrdF T fin (operF left) y1.ps) (fun v=>v=q0∧y1.i+1≤y0.i)∧GoodX T y0∧y0.left=left∧y1.i≤y0.i∧(b=true→y0.i=y1.i+1):=by
 subst hl;by_cases q:y1.i<T.length
 ·obtain ⟨t,ht⟩:=tk_some q;obtain ⟨e1,e2,_⟩:=nx_some (fin:=fin) h0 ht;rw [e1] at hs;rw [e2] at hy2;subst hs hy2;have hg2:GoodX T { y1 with i:=y1.i+1 }:=⟨q,by have:=hg.2.1;show y1.vs.length≤y1.i+1;omega,by have:=hg.2.2;show y1.ms.length≤y1.i+1;omega⟩
  have e3:operF y1.left t y1.ps=(operF y1.left t ⟨y1.i+1,y1.vs,y1.ms⟩).map fun v=>(v.1,{ v.2 with i:=y1.i }):=oper_i
  change match operF y1.left t ⟨y1.i+1,y1.vs,y1.ms⟩ with | some (q',ps)=>b=true∧q0=q'∧y0={ ({ y1 with i:=y1.i+1 }:Xs) with ms:=ps.ms }∧ps.vs=y1.vs∧ps.i=y1.i+1 | none=>(b=false∧y0={ y1 with i:=y1.i+1 })∨(b=true∧y0=({ y1 with i:=y1.i+1 }:Xs).fail 2 (offF T fin y1.i)) at ho
  cases ho2:operF y1.left t ⟨y1.i+1,y1.vs,y1.ms⟩ with
  | some v =>
   obtain ⟨q',ps⟩:=v;rw [ho2] at ho e3;obtain ⟨rfl,rfl,rfl,h4,h5⟩:=ho;have hol:=oper_len ho2;refine ⟨?_,⟨q,hg2.2.1,?_⟩,rfl,Nat.le_succ _,fun _=>rfl⟩
   ·rw [wrd_good (z:=y1.ps) ht (oper_pn ho2) e3];refine ⟨fun _=>⟨h0,?_,rfl,Nat.le_refl _⟩,fun q=>absurd h0 q⟩;show (⟨y1.i+1,y1.vs,ps.ms⟩:PS)=⟨y1.i+1,ps.vs,ps.ms⟩;rw [h4]
   ·have:=hol.2;have:=hg.2.2;show ps.ms.length≤y1.i+1;dsimp only at *;omega
  | none =>
   rw [ho2] at ho e3;rw [wrd_bad (z:=y1.ps) ht e3];rcases ho with ⟨rfl,rfl⟩ | ⟨rfl,rfl⟩
   ·exact ⟨ResX.err (fun _=>h0) (fun q=>absurd h0 q),hg2,rfl,Nat.le_succ _,fun q=>by cases q⟩
   ·exact ⟨ResX.err (z:={ y1 with i:=y1.i+1 }) (fun _=>h0) (fun q=>absurd h0 q),hg2.fail _ _,by rw [xfail_left],by rw [xfail_i];exact Nat.le_succ _,fun _=>xfail_i _ _ _⟩
 ·obtain ⟨e1,e2⟩:=nx_none (T:=T) (fin:=fin) (x:=y1) (fun r=>q r.2);rw [e1] at hs;rw [e2] at hy2;subst hs hy2
  have hbf:b=false:=by
   cases b with
   | false=>rfl
   | true=>exact absurd rfl (hb rfl)
  subst hbf
  have e3:y0=y1.fail 2 (offF T fin y1.i):=by
   split at ho
   ·cases ho.1
   ·rcases ho with ho | ho
    ·exact ho.2
    ·cases ho.1
  subst e3;refine ⟨?_,hg.fail _ _,by rw [xfail_left],by rw [xfail_i];exact Nat.le_refl _,fun q=>by cases q⟩;rw [wrd_none (z:=y1.ps) (tk_none q),cond_false,xfail_why (xfail_ne _ (by decide))];exact ResX.err (fun _=>h0) (fun q=>absurd h0 q)
theorem var_resX {T:List (Bs×Nat)} {fin:Nat} {left:Bool} {x y1:Xs} {Yf:Bs→Xs} {s:Bs} {K:Nat×Bs} {q:Pt} {u:PS} (hg:GoodX T x) (h0:x.why=0) (hy:y1={ x with i:=x.i+1 }) (ht:tkF T x.i=some s) (hp:isPn (s.headD 0)=false)
  (ha:atomF left s x.ps=if 0<K.1 then some (q,u) else none) (hY:(Yf K.2).why=0) (hi:(Yf K.2).i=x.i+1) (hps:(Yf K.2).ps={ u with i:=x.i+1 }) (hv:(Yf K.2).vs.length≤x.i+1) (hm:(Yf K.2).ms.length≤x.i+1) (hl:(Yf K.2).left=x.left) (hq:q.size=1) :
  ∀y,y=xvY y1 (offF T fin x.i) Yf K→GoodX T y∧y.left=x.left∧y.i=x.i+1∧ResX x y (wrdF T fin (atomF left) x.ps) (fun v=>v=q∧q.size+x.i≤y.i):=by
 intro y ey;unfold xvY at ey;have hlt:=xtk_lt ht;have hg1:GoodX T y1:=by subst hy;exact ⟨hlt,by have:=hg.2.1;show x.vs.length≤x.i+1;omega,by have:=hg.2.2;show x.ms.length≤x.i+1;omega⟩
 by_cases h:K.1=0
 ·rw [if_pos h] at ey;subst ey;refine ⟨hg1.fail _ _,by rw [xfail_left,hy],by rw [xfail_i,hy],?_⟩;rw [wrd_bad (z:=x.ps) ht (by rw [ha,if_neg (by omega)])];exact ResX.err (fun _=>by rw [hy];exact h0) (fun q=>absurd h0 q)
 ·rw [if_neg h] at ey;subst ey;refine ⟨⟨by omega,by omega,by omega⟩,hl,hi,?_⟩;rw [wrd_good (z:=x.ps) ht hp (by rw [ha,if_pos (by omega)])];exact ⟨fun _=>⟨hY,hps,rfl,by omega⟩,fun q=>absurd h0 q⟩
def XTermP (w:World) (p:Nat) (A:Option Addr) (c:Nat) (T:List (Bs×Nat)) (fin:Nat) (x:Xs) (r:Except Er (Pt×PS)) (e:Ending) (w':World):Prop :=
 ∃(q:Pt) (KA:Option Addr) (kc:Nat) (y:Xs),e=.returned (pv q KA kc)∧PtK w' (fun k=>w.heap.size≤k) q KA kc∧XdS w' p A c T fin y∧GoodX T y∧y.left=x.left∧x.i≤y.i∧q.size+x.i≤y.i+1∧Upd (·=p) w w'∧ResX x y r (fun v=>v=q∧q.size+x.i≤y.i)
structure XAp (w0 w:World) (g p:Nat) (A:Option Addr) (c:Nat) (T:List (Bs×Nat)) (fin:Nat) (y:Xs) (pc:Array Value):Prop where
 xd:XdS w p A c T fin y
 res:Blk w w0.heap.size 40 (p0 (.mk 0 0 0 0 []))
 pat:Blk w g 40 pc
 lt:w0.heap.size<g
 plt:p<w0.heap.size
 upd:Upd (·=p) w0 w
section
variable {w0 w w':World} {g p:Nat} {A:Option Addr} {c:Nat} {T:List (Bs×Nat)} {fin:Nat} {y y':Xs} {pc pc':Array Value} {S:Nat→Prop}
theorem XAp.non (h:XAp w0 w g p A c T fin y pc) (u:Upd Non w w'):XAp w0 w' g p A c T fin y pc :=
 ⟨h.xd.non u,h.res.upd u (fun f=>f),h.pat.upd u (fun f=>f),h.lt,h.plt,h.upd.then_non u⟩
theorem XAp.call (h:XAp w0 w g p A c T fin y pc) (hr:XdS w' p A c T fin y') (u:Upd (·=p) w w'):XAp w0 w' g p A c T fin y' pc :=
 ⟨hr,h.res.upd u (by have:=h.plt;omega),h.pat.upd u (by have:=h.plt;have:=h.lt;omega),h.lt,h.plt,h.upd.trans u (fun _ _ e=>e)⟩
theorem XAp.far (h:XAp w0 w g p A c T fin y pc) (u:Upd S w w') (hS:∀k,S k→g<k):XAp w0 w' g p A c T fin y pc :=
 ⟨h.xd.upd u (fun k _ s=>by have:=hS k s;have:=h.lt;have:=h.plt;omega),h.res.upd u (fun s=>by have:=hS _ s;have:=h.lt;omega),h.pat.upd u (fun s=>by have:=hS _ s;omega),h.lt,h.plt,h.upd.trans u (fun k hk s=>by have:=hS k s;have:=h.lt;omega)⟩
theorem XAp.setPat (h:XAp w0 w g p A c T fin y pc) (u:Upd (·=g) w w') (hb:Blk w' g 40 pc'):XAp w0 w' g p A c T fin y pc' :=
 ⟨h.xd.upd u (fun k _ s=>by have:=h.lt;have:=h.plt;omega),h.res.upd u (by have:=h.lt;omega),hb,h.lt,h.plt,h.upd.trans u (fun k hk s=>by have:=h.lt;omega)⟩
end
set_option maxRecDepth 100000 in
set_option maxHeartbeats 4000000 in
theorem xTerm_c {T:List (Bs×Nat)} {fin:Nat} (hT:XOk T) (left:Bool) (f:Nat)
  (HT:Hid (∀{w:World} {p:Nat} {A:Option Addr} {c:Nat} {x:Xs},XdS w p A c T fin x→GoodX T x→x.left=left→x.why=0→T.length<x.i+f→Calls Tryz.prog 83 #[.pointer (some ⟨p,0,none⟩)] w (XTermP w p A c T fin x (termF T fin left f x.ps))))
  {w:World} {p:Nat} {A:Option Addr} {c:Nat} {x:Xs} (h:XdS w p A c T fin x) (hx:GoodX T x) (hl:x.left=left) (hf:x.why=0→T.length<x.i+(f+1)) :
  Calls Tryz.prog 83 #[.pointer (some ⟨p,0,none⟩)] w (XTermP w p A c T fin x (termF T fin left (f+1) x.ps)):=by
 have HS:Hid (termF T fin left (f+1) x.ps=if tkF T x.i=some [40] then appF T fin left f { x.ps with i:=x.i+1 } else wrdF T fin (atomF left) x.ps):=rfl
 obtain ⟨r,Hr⟩:=nm (termF T fin left (f+1) x.ps);rw [Hr.out] at HS ⊢;have hTl:=hT.len;have hxi:=hx.1;obtain ⟨W1,HW1⟩:=nm (w.alloc (.cells #[.int .i64 0,.int .i64 0,.int .i64 0,.int .i64 0,.slice none 0 0] 40));have u1:Upd Non w W1:=by rw [←HW1.out];exact Upd.refl.alloc _
 have b1:Blk W1 w.heap.size 40 (p0 (.mk 0 0 0 0 [])):=by rw [←HW1.out];exact Blk.new _ _ _
 have e1:=HW1.out;have hpw:p<w.heap.size:=h.blk.lt;have CO:=h_ (xOffset_c (h.non u1));have CN:=h_ (fun W (u:Upd Non W1 W)=>xNext_c ((h.non u1).non u) (by omega));have HX:=h_ hx;have HB1:=h_ b1;have HU1:=h_ u1;have HXT:=h_ hT;have HNG:=h_ (nxY_good (fin:=fin) hx);have HNN:Hid (¬(x.why=0∧x.i<T.length)→nxS T x=[]∧nxY T fin x=x.fail 2 (offF T fin x.i)):=nx_none;have HNS:Hid (∀s,x.why=0→tkF T x.i=some s→nxS T x=s∧nxY T fin x={ x with i:=x.i+1 }∧x.i<T.length):=fun s=>nx_some
 have hsl:(nxS T x).length≤20000:=by
  by_cases q:x.why=0∧x.i<T.length
  ·obtain ⟨s,hs⟩:=tk_some q.2;rw [(nx_some (fin:=fin) q.1 hs).1];exact (hT.tk hs).2
  ·rw [(nx_none (fin:=fin) q).1];simp
 obtain ⟨off,Hoff⟩:=nm (offF T fin x.i);obtain ⟨s,Hs⟩:=nm (nxS T x);obtain ⟨y1,Hy1⟩:=nm (nxY T fin x);rw [Hs.out] at hsl HNN HNS;rw [Hs.out] at CN;rw [Hy1.out] at CN HNG HNN HNS;rw [Hoff.out] at CO HNN
 have HTK:Hid (s≠[]→x.why=0∧tkF T x.i=some s∧y1={ x with i:=x.i+1 }∧x.i<T.length):=fun hne=>by
  by_cases q:x.why=0∧x.i<T.length
  ·obtain ⟨t,ht⟩:=tk_some q.2;obtain ⟨e1,e2,e3⟩:=HNS.out t q.1 ht;subst e1;exact ⟨q.1,ht,e2,e3⟩
  ·exact absurd (HNN.out q).1 hne
 have CP:=h_ (fun W=>r1Parse_c s W (by omega));obtain ⟨m,Hm⟩:=nm s.length;have hqz:(kstr s).size=m:=by rw [kstr_size,Hm.out]
 obtain ⟨qs,Hqs⟩:=nm (kstr s);rw [Hqs.out] at CN CP hqz;clear h hx HW1 u1 b1 hT
 cases hd:decF s with
 | some n =>
  obtain ⟨k1,k2,k3,k4⟩:=HTK.out (fun q=>by rw [q] at hd;cases hd)
  have HR:Hid (r=.ok (.mk 0 1 n 0 [],{ x.ps with i:=x.i+1 })):=by
   show _=_;rw [HS.out,if_neg (fun q=>by rw [k2] at q;injection q with q;rw [q] at hd;cases hd)];exact wrd_good (z:=x.ps) k2 (dec_pn hd) (atom_dec hd)
  have HY:Hid (y1={ x with i:=x.i+1 }):=k3;rw [hd] at CP;simp only [Option.getD_some,Option.isSome_some] at CP;have hw0:=k1;clear HS HNN HNS HTK hd k1 k2 k3 HT hf;go_enter Tryz.func83,Tryz.ntmps83;go_wp2_with fail
  refine CO.out.mono ?_;rintro e w2 ⟨rfl,u2⟩;have CN2:=h_ (CN.out _ u2);go_wp2_with fail
  refine CN2.out.mono ?_;rintro e w3 ⟨rfl,h3,u3⟩;have H3:=h_ h3;have U3:Hid (Upd (·=p) w w3):=(upd_eq (HU1.out.then_non u2)).trans u3 (fun _ _ e=>e);have HB3:=h_ ((HB1.out.upd u2 (fun f=>f)).upd u3 (by omega));clear CO CN CN2 h3 u2 u3 e1;go_wp2_with fail
  refine (CP.out w3).mono ?_;rintro e w4 ⟨rfl,rfl⟩;clear CP;obtain ⟨w9,rfl⟩:∃v:World,v=w4:=⟨_,rfl⟩;have HB9:=HB3;unfold p0 at HB9;have b9:=HB9.out;have rc0:=b9.cell 0;have rc1:=b9.cell 1;have rc2:=b9.cell 2;have rc3:=b9.cell 3;have rc4:=b9.cell 4;have rcf:=b9.frozen;clear b9;go_wp2_with fail
  rw [set5_eq];have us:=set5_upd w9 w.heap.size;refine bodyPost_ret (results_cell_row rfl _ _ w.heap.size 40 _ (0,0) _ rfl (set5_blk HB9.out _ _ _ _ _) Tryz.underlying40 rfl (by kernel_rfl)) rfl ?_;refine ⟨.mk 0 1 n 0 [],none,0,y1,rfl,PtK.leaf,H3.out.upd (us _ _ _ _ _) (fun k _ e=>by omega),HNG.out.1,HNG.out.2.2.1,HNG.out.2.1,?_,U3.out.trans (us _ _ _ _ _) (fun k hk e=>by omega),?_⟩
  ·rw [Pt.size_leaf];have:=HNG.out.2.1;omega
  ·rw [HR.out];refine ⟨fun _=>?_,fun q=>absurd hw0 q⟩;rw [HY.out];exact ⟨hw0,rfl,rfl,by rw [Pt.size_leaf];show 1+x.i≤x.i+1;omega⟩
 | none =>
  rw [hd] at CP;simp only [Option.getD_none,Option.isSome_none] at CP;have HD:=h_ hd;clear hd
  have HRB:Hid ((∀a b,s=[a,b]→isLw b=true→a.toNat≠63∧a.toNat≠36)→s≠[40]→ResX x (y1.fail 2 off) r (fun v=>v=(Pt.mk 0 0 0 0 [])∧(Pt.mk 0 0 0 0 []).size+x.i≤(y1.fail 2 off).i)):=fun hno h40=>by
   have hr:x.why=0→r=.error (serr T fin x.i):=fun h0=>by
    rw [HS.out];by_cases q:x.i<T.length
    ·obtain ⟨t,ht⟩:=tk_some q;obtain ⟨e1,_⟩:=HNS.out t h0 ht;subst e1;rw [if_neg (fun q=>by rw [ht] at q;injection q with q;exact h40 q)];exact wrd_bad (z:=x.ps) ht (atom_no HD.out hno)
    ·rw [if_neg (fun q2=>by rw [tk_none q] at q2;cases q2)];exact wrd_none (z:=x.ps) (tk_none q)
   by_cases h0:x.why=0
   ·rw [hr h0]
    have key:(y1.fail 2 off).why=2∧(y1.fail 2 off).ea=off:=by
     by_cases q:x.i<T.length
     ·obtain ⟨t,ht⟩:=tk_some q;obtain ⟨_,e2,_⟩:=HNS.out t h0 ht;rw [e2,xfail_zero (show ({ x with i:=x.i+1 }:Xs).why=0 from h0)];exact ⟨rfl,rfl⟩
     ·obtain ⟨_,e2⟩:=HNN.out (fun r=>q r.2);rw [e2,xfail_why (xfail_ne _ (by decide)),xfail_zero h0];exact ⟨rfl,rfl⟩
    refine ⟨fun _=>⟨key.1,key.2.trans ?_⟩,fun q=>absurd h0 q⟩;rw [←Hoff.out];rfl
   ·obtain ⟨_,e2⟩:=HNN.out (fun q=>h0 q.1);rw [e2,xfail_why h0,xfail_why h0];exact ⟨fun q=>absurd q h0,fun _=>⟨rfl,rfl⟩⟩
  by_cases h2:m=2
  ·obtain ⟨a,b,rfl⟩:∃a b,s=[a,b]:=by
    have h3:=Hm.out;rw [h2] at h3
    match s,h3 with
    | [a,b],_=>exact ⟨a,b,rfl⟩
   subst h2
   have hsl1:∀W,(Instr.slice 9 (.string qs) (some (.int .i64 (1:Int))) none none).run Tryz.prog W=.ok (.string (kstr [b])) W:=fun W=>by
    have:=run_from_str (s:=[a,b]) (n:=2) (i:=1) rfl (by omega) W;rw [Hqs.out] at this;exact this
   have CL:=h_ (fun W=>xIsLetter_c (kstr [b]) W);rw [kx_kstr,show isLt [b]=isLw b from rfl] at CL;have i0:=fun W=>run_at_str hqz (show 0<2 by omega) W
   rw [←Hqs.out,kx_kstr,show ([a,b]:Bs).getD 0 0=a from rfl,show ((0:Nat):Int)=0 from rfl,Hqs.out] at i0;have HN40:Hid ([a,b]≠[40]):=by show _≠_;simp
   obtain ⟨qb,Hqb⟩:=nm (kstr [b]);rw [Hqb.out] at hsl1 CL;obtain ⟨lw,Hlw⟩:=nm (isLw b);rw [Hlw.out] at CL
   cases lw with
   | false =>
    have HR:=h_ (HRB.out (fun a' b' e hb=>by injection e with _ e;injection e with e _;subst e;rw [Hlw.out] at hb;cases hb) HN40.out);clear HRB HTK HNS HNN HS HT hf;go_enter Tryz.func83,Tryz.ntmps83;go_wp2_with fail
    refine CO.out.mono ?_;rintro e w2 ⟨rfl,u2⟩;have CN2:=h_ (CN.out _ u2);go_wp2_with fail
    refine CN2.out.mono ?_;rintro e w3 ⟨rfl,h3,u3⟩;have H3:=h_ h3;have U3:Hid (Upd (·=p) w w3):=(upd_eq (HU1.out.then_non u2)).trans u3 (fun _ _ e=>e);have HB3:=h_ ((HB1.out.upd u2 (fun f=>f)).upd u3 (by omega));clear CO CN CN2 h3 u2 u3 e1;go_wp2_with fail
    refine (CP.out w3).mono ?_;rintro e w4 ⟨rfl,rfl⟩;clear CP;go_wp2_with fail
    refine (CL.out _).mono ?_;rintro e w5 ⟨rfl,rfl⟩;obtain ⟨w4,rfl⟩:∃v:World,v=w5:=⟨_,rfl⟩;clear CL
    have hfq:(qs.toList==[40])=false:=by
     rw [←Hqs.out,xktl];exact beq_eq_false_iff_ne.2 HN40.out
    have CF:=h_ (fun W (u:Upd Non w4 W)=>xFail_c (H3.out.non u) 2 off);go_wp2_with fail
    refine (CF.out _ (by first | exact Upd.refl | assumption)).mono ?_;rintro e w9 ⟨rfl,h9,u9⟩;have HB9:=h_ (HB3.out.upd u9 (by omega));have H9:=h_ h9;have U9:Hid (Upd (·=p) w w9):=U3.out.trans u9 (fun _ _ e=>e);clear CF h9 u9;unfold p0 at HB9;have b9:=HB9.out;have rc0:=b9.cell 0;have rc1:=b9.cell 1;have rc2:=b9.cell 2;have rc3:=b9.cell 3;have rc4:=b9.cell 4;have rcf:=b9.frozen;clear b9;go_wp2_with fail
    rw [set5_eq];have us:=set5_upd w9 w.heap.size;refine bodyPost_ret (results_cell_row rfl _ _ w.heap.size 40 _ (0,0) _ rfl (set5_blk HB9.out _ _ _ _ _) Tryz.underlying40 rfl (by kernel_rfl)) rfl ?_;refine ⟨.mk 0 0 0 0 [],none,0,y1.fail 2 off,rfl,PtK.leaf,H9.out.upd (us _ _ _ _ _) (fun k _ e=>by omega),HNG.out.1.fail _ _,by rw [xfail_left];exact HNG.out.2.2.1,by rw [xfail_i];exact HNG.out.2.1,?_,U9.out.trans (us _ _ _ _ _) (fun k hk e=>by omega),HR.out⟩
    rw [Pt.size_leaf,xfail_i];have:=HNG.out.2.1;omega
   | true =>
    obtain ⟨k1,k2,k3,k4⟩:=HTK.out (by simp);by_cases h63:a.toNat=63
    ·obtain rfl:a=63:=UInt8.toNat_inj.1 h63;have f63:((((63:UInt8).toNat:Nat):Int)==63)=true:=rfl;have HR:Hid (r=wrdF T fin (atomF left) x.ps):=by show _=_;rw [HS.out,if_neg (fun q=>by rw [k2] at q;cases q)]
     have HA:=h_ (atom_q (left:=left) x.ps Hlw.out);have HK1:=h_ k1;have HK2:=h_ k2;have HK3:=h_ k3;clear HRB HTK HNS HNN HS HT hf k1 k2 k3 h63;go_enter Tryz.func83,Tryz.ntmps83;go_wp2_with fail
     refine CO.out.mono ?_;rintro e w2 ⟨rfl,u2⟩;have CN2:=h_ (CN.out _ u2);go_wp2_with fail
     refine CN2.out.mono ?_;rintro e w3 ⟨rfl,h3,u3⟩;have H3:=h_ h3;have U3:Hid (Upd (·=p) w w3):=(upd_eq (HU1.out.then_non u2)).trans u3 (fun _ _ e=>e);have HB3:=h_ ((HB1.out.upd u2 (fun f=>f)).upd u3 (by omega));clear CO CN CN2 h3 u2 u3 e1;go_wp2_with fail
     refine (CP.out w3).mono ?_;rintro e w4 ⟨rfl,rfl⟩;clear CP;go_wp2_with fail
     refine (CL.out _).mono ?_;rintro e w5 ⟨rfl,rfl⟩;obtain ⟨w4,rfl⟩:∃v:World,v=w5:=⟨_,rfl⟩;clear CL
     go_upto_region 8 with fail
     have CK:=h_ (fun W (u:Upd Non w4 W)=>xVariable_g (H3.out.non u) 5 y1.vs (fun v=>{ y1 with vs:=v }) rfl (fun v=>rfl) (by have h5:=HNG.out.1.2.1;have h6:=HNG.out.1.1;omega) b off)
     obtain ⟨wD,HwD⟩:=nm w4.drew;have uD:Upd Non w4 wD:=by rw [←HwD.out];exact Upd.refl.drew
     have HYLE:Hid (y1.left=left):=HNG.out.2.2.1.trans hl;rw [Hqb.out] at CK;refine wp_region_held_drew (S:=fun _=>True) (by kernel_rfl) trivial (fun hHeld=>?_);rw [HwD.out];refine wpT 0 ?_;(try simp only [y_,z_]);refine wpT 1 ?_;(try simp only [y_,z_]);refine wpT 2 ?_;(try simp only [y_,z_]);refine wpT 3 ?_;(try simp only [y_,z_]);refine wpT 4 ?_;(try simp only [y_,z_]);refine wpT 5 ?_;(try simp only [y_,z_]);refine wpT 6 ?_;(try simp only [y_,z_]);refine aR_ (rs:=[7]) (by kernel_rfl) (by simp) ?_;refine aC_ rfl (fun K hK=>?_) aN_;go_simp;refine (CK.out _ uD).mono ?_;rintro e w7 ⟨rfl,h7,u7⟩;go_wp2_with fail
     refine hK.out _ _ ?_ (fun hHeld=>?_)
     ·exact trivial
     clear hK K;(try simp only [y_,z_]);refine wpT 8 ?_;(try simp only [y_,z_]);have HB9:=h_ ((HB3.out.upd uD (fun f=>f)).upd u7 (by omega));have H7:=h_ h7;have U7:Hid (Upd (·=p) w w7):=(U3.out.then_non uD).trans u7 (fun _ _ e=>e);clear h7 u7 CK uD;unfold p0 at HB9;have b9:=HB9.out;have rc0:=b9.cell 0;have rc1:=b9.cell 1;have rc2:=b9.cell 2;have rc3:=b9.cell 3;have rc4:=b9.cell 4;have rcf:=b9.frozen;clear b9;refine aR_ (rs:=[9]) (by kernel_rfl) (by simp) ?_;refine aC_ rfl (fun K hK=>?_) aN_;go_simp;rw [set5_eq];refine hK.out _ _ ?_ (fun hHeld=>?_)
     ·exact trivial
     clear hK K;(try simp only [y_,z_]);refine aD_ (by kernel_rfl) ?_ _;go_wp2_with fail
     have us:=set5_upd w7 w.heap.size;refine bodyPost_ret (results_cell_row rfl _ _ w.heap.size 40 _ (0,0) _ rfl (set5_blk HB9.out _ _ _ _ _) Tryz.underlying40 rfl (by kernel_rfl)) rfl ?_;have hyv:y1.vs=x.vs:=HNG.out.2.2.2.1;have hkl:=lookF_len y1.vs b y1.left;have hv7:y1.vs.length=x.vs.length:=by rw [hyv]
     have hv:=var_resX (fin:=fin) (left:=left) (Yf:=fun v=>{ y1 with vs:=v }) (K:=lookF y1.vs b y1.left) (q:=.mk (lookF y1.vs b y1.left).1 0 0 0 []) (u:={ x.ps with vs:=(lookF x.vs b left).2 }) HX.out HK1.out HK3.out HK2.out rfl (by have h5:=HA.out;rw [hyv,HYLE.out];exact h5) (by rw [HK3.out];exact HK1.out) (by rw [HK3.out]) (by rw [HK3.out];show (⟨x.i+1,(lookF x.vs b x.left).2,x.ms⟩:PS)=⟨x.i+1,(lookF x.vs b left).2,x.ms⟩;rw [hl]) (by have h5:=HX.out.2.1;show (lookF y1.vs b y1.left).2.length≤x.i+1;omega) (by rw [HK3.out];have h5:=HX.out.2.2;show x.ms.length≤x.i+1;omega) (by rw [HK3.out]) (Pt.size_leaf _ _ _ _) _ rfl
     rw [Hoff.out] at hv;refine ⟨_,none,0,_,rfl,PtK.leaf,H7.out.upd (us _ _ _ _ _) (fun k _ e=>by omega),hv.1,hv.2.1,by rw [hv.2.2.1];omega,?_,U7.out.trans (us _ _ _ _ _) (fun k hk e=>by omega),by rw [HR.out];exact hv.2.2.2⟩
     rw [Pt.size_leaf,hv.2.2.1];omega
    ·have f63:(((a.toNat:Nat):Int)==63)=false:=by simp;omega
     by_cases h36:a.toNat=36
     ·obtain rfl:a=36:=UInt8.toNat_inj.1 h36;have f36:((((36:UInt8).toNat:Nat):Int)==36)=true:=rfl;have HR:Hid (r=wrdF T fin (atomF left) x.ps):=by show _=_;rw [HS.out,if_neg (fun q=>by rw [k2] at q;cases q)]
      have HA:=h_ (atom_d (left:=left) x.ps Hlw.out);have HK1:=h_ k1;have HK2:=h_ k2;have HK3:=h_ k3;clear HRB HTK HNS HNN HS HT hf k1 k2 k3 h63 h36;go_enter Tryz.func83,Tryz.ntmps83;go_wp2_with fail
      refine CO.out.mono ?_;rintro e w2 ⟨rfl,u2⟩;have CN2:=h_ (CN.out _ u2);go_wp2_with fail
      refine CN2.out.mono ?_;rintro e w3 ⟨rfl,h3,u3⟩;have H3:=h_ h3;have U3:Hid (Upd (·=p) w w3):=(upd_eq (HU1.out.then_non u2)).trans u3 (fun _ _ e=>e);have HB3:=h_ ((HB1.out.upd u2 (fun f=>f)).upd u3 (by omega));clear CO CN CN2 h3 u2 u3 e1;go_wp2_with fail
      refine (CP.out w3).mono ?_;rintro e w4 ⟨rfl,rfl⟩;clear CP;go_wp2_with fail
      refine (CL.out _).mono ?_;rintro e w5 ⟨rfl,rfl⟩;obtain ⟨w4,rfl⟩:∃v:World,v=w5:=⟨_,rfl⟩;clear CL
      go_upto_region 10 with fail
      have CK:=h_ (fun W (u:Upd Non w4 W)=>xVariable_g (H3.out.non u) 6 y1.ms (fun v=>{ y1 with ms:=v }) rfl (fun v=>rfl) (by have h5:=HNG.out.1.2.2;have h6:=HNG.out.1.1;omega) b off)
      obtain ⟨wD,HwD⟩:=nm w4.drew;have uD:Upd Non w4 wD:=by rw [←HwD.out];exact Upd.refl.drew
      have HYLE:Hid (y1.left=left):=HNG.out.2.2.1.trans hl;rw [Hqb.out] at CK;refine wp_region_held_drew (S:=fun _=>True) (by kernel_rfl) trivial (fun hHeld=>?_);rw [HwD.out];refine wpT 0 ?_;(try simp only [y_,z_]);refine wpT 1 ?_;(try simp only [y_,z_]);refine wpT 2 ?_;(try simp only [y_,z_]);refine wpT 3 ?_;(try simp only [y_,z_]);refine wpT 4 ?_;(try simp only [y_,z_]);refine wpT 5 ?_;(try simp only [y_,z_]);refine wpT 6 ?_;(try simp only [y_,z_]);refine aR_ (rs:=[7]) (by kernel_rfl) (by simp) ?_;refine aC_ rfl (fun K hK=>?_) aN_;go_simp;refine (CK.out _ uD).mono ?_;rintro e w7 ⟨rfl,h7,u7⟩;go_wp2_with fail
      refine hK.out _ _ ?_ (fun hHeld=>?_)
      ·exact trivial
      clear hK K;(try simp only [y_,z_]);refine wpT 8 ?_;(try simp only [y_,z_]);have HB9:=h_ ((HB3.out.upd uD (fun f=>f)).upd u7 (by omega));have H7:=h_ h7;have U7:Hid (Upd (·=p) w w7):=(U3.out.then_non uD).trans u7 (fun _ _ e=>e);clear h7 u7 CK uD;unfold p0 at HB9;have b9:=HB9.out;have rc0:=b9.cell 0;have rc1:=b9.cell 1;have rc2:=b9.cell 2;have rc3:=b9.cell 3;have rc4:=b9.cell 4;have rcf:=b9.frozen;clear b9;refine aR_ (rs:=[9]) (by kernel_rfl) (by simp) ?_;refine aC_ rfl (fun K hK=>?_) aN_;go_simp;rw [set5_eq];refine hK.out _ _ ?_ (fun hHeld=>?_)
      ·exact trivial
      clear hK K;(try simp only [y_,z_]);refine aD_ (by kernel_rfl) ?_ _;go_wp2_with fail
      have us:=set5_upd w7 w.heap.size;refine bodyPost_ret (results_cell_row rfl _ _ w.heap.size 40 _ (0,0) _ rfl (set5_blk HB9.out _ _ _ _ _) Tryz.underlying40 rfl (by kernel_rfl)) rfl ?_;have hyv:y1.ms=x.ms:=HNG.out.2.2.2.2;have hkl:=lookF_len y1.ms b y1.left;have hv7:y1.ms.length=x.ms.length:=by rw [hyv]
      have hv:=var_resX (fin:=fin) (left:=left) (Yf:=fun v=>{ y1 with ms:=v }) (K:=lookF y1.ms b y1.left) (q:=.mk 0 1 0 (lookF y1.ms b y1.left).1 []) (u:={ x.ps with ms:=(lookF x.ms b left).2 }) HX.out HK1.out HK3.out HK2.out rfl (by have h5:=HA.out;rw [hyv,HYLE.out];exact h5) (by rw [HK3.out];exact HK1.out) (by rw [HK3.out]) (by rw [HK3.out];show (⟨x.i+1,x.vs,(lookF x.ms b x.left).2⟩:PS)=⟨x.i+1,x.vs,(lookF x.ms b left).2⟩;rw [hl]) (by rw [HK3.out];have h5:=HX.out.2.1;show x.vs.length≤x.i+1;omega) (by have h5:=HX.out.2.2;show (lookF y1.ms b y1.left).2.length≤x.i+1;omega) (by rw [HK3.out]) (Pt.size_leaf _ _ _ _) _ rfl
      rw [Hoff.out] at hv;refine ⟨_,none,0,_,rfl,PtK.leaf,H7.out.upd (us _ _ _ _ _) (fun k _ e=>by omega),hv.1,hv.2.1,by rw [hv.2.2.1];omega,?_,U7.out.trans (us _ _ _ _ _) (fun k hk e=>by omega),by rw [HR.out];exact hv.2.2.2⟩
      rw [Pt.size_leaf,hv.2.2.1];omega
     ·have f36:(((a.toNat:Nat):Int)==36)=false:=by simp;omega
      have HR:=h_ (HRB.out (fun a' b' e hb=>by injection e with e _;subst e;exact ⟨h63,h36⟩) HN40.out);clear HRB HTK HNS HNN HS HT hf k1 k2 k3 h63 h36;go_enter Tryz.func83,Tryz.ntmps83;go_wp2_with fail
      refine CO.out.mono ?_;rintro e w2 ⟨rfl,u2⟩;have CN2:=h_ (CN.out _ u2);go_wp2_with fail
      refine CN2.out.mono ?_;rintro e w3 ⟨rfl,h3,u3⟩;have H3:=h_ h3;have U3:Hid (Upd (·=p) w w3):=(upd_eq (HU1.out.then_non u2)).trans u3 (fun _ _ e=>e);have HB3:=h_ ((HB1.out.upd u2 (fun f=>f)).upd u3 (by omega));clear CO CN CN2 h3 u2 u3 e1;go_wp2_with fail
      refine (CP.out w3).mono ?_;rintro e w4 ⟨rfl,rfl⟩;clear CP;go_wp2_with fail
      refine (CL.out _).mono ?_;rintro e w5 ⟨rfl,rfl⟩;obtain ⟨w4,rfl⟩:∃v:World,v=w5:=⟨_,rfl⟩;clear CL
      have hfq:(qs.toList==[40])=false:=by
       rw [←Hqs.out,xktl];exact beq_eq_false_iff_ne.2 HN40.out
      have CF:=h_ (fun W (u:Upd Non w4 W)=>xFail_c (H3.out.non u) 2 off);go_wp2_with fail
      refine (CF.out _ (by first | exact Upd.refl | assumption)).mono ?_;rintro e w9 ⟨rfl,h9,u9⟩;have HB9:=h_ (HB3.out.upd u9 (by omega));have H9:=h_ h9;have U9:Hid (Upd (·=p) w w9):=U3.out.trans u9 (fun _ _ e=>e);clear CF h9 u9;unfold p0 at HB9;have b9:=HB9.out;have rc0:=b9.cell 0;have rc1:=b9.cell 1;have rc2:=b9.cell 2;have rc3:=b9.cell 3;have rc4:=b9.cell 4;have rcf:=b9.frozen;clear b9;go_wp2_with fail
      rw [set5_eq];have us:=set5_upd w9 w.heap.size;refine bodyPost_ret (results_cell_row rfl _ _ w.heap.size 40 _ (0,0) _ rfl (set5_blk HB9.out _ _ _ _ _) Tryz.underlying40 rfl (by kernel_rfl)) rfl ?_;refine ⟨.mk 0 0 0 0 [],none,0,y1.fail 2 off,rfl,PtK.leaf,H9.out.upd (us _ _ _ _ _) (fun k _ e=>by omega),HNG.out.1.fail _ _,by rw [xfail_left];exact HNG.out.2.2.1,by rw [xfail_i];exact HNG.out.2.1,?_,U9.out.trans (us _ _ _ _ _) (fun k hk e=>by omega),HR.out⟩
      rw [Pt.size_leaf,xfail_i];have:=HNG.out.2.1;omega
  ·have fm:((m:Int)==2)=false:=by simp;omega
   by_cases h40:s=[40]
   ·obtain ⟨k1,k2,k3,k4⟩:=HTK.out (by rw [h40];simp);have HR:Hid (r=appF T fin left f { x.ps with i:=x.i+1 }):=by show _=_;rw [HS.out,if_pos (by rw [k2,h40])]
    have hfq:(qs.toList==[40])=true:=by
     rw [←Hqs.out,xktl,h40];rfl
    have HY1:Hid (y1={ x with i:=x.i+1 }):=k3;have h1i:y1.i=x.i+1:=by rw [k3]
    have h1w:y1.why=0:=by rw [k3];exact k1
    have HK1:=h_ k1;have h1l:y1.left=left:=HNG.out.2.2.1.trans hl;have HL1:=h_ h1l;have HW1Y:=h_ h1w;have HNG2:=h_ (nxY_good (fin:=fin) HNG.out.1)
    have hs2l:(nxS T y1).length≤20000:=by
     by_cases q:y1.i<T.length
     ·obtain ⟨t,ht⟩:=tk_some q;rw [(nx_some (fin:=fin) h1w ht).1];exact (HXT.out.tk ht).2
     ·rw [(nx_none (fin:=fin) (fun r=>q r.2)).1];simp
    have HFU:Hid (T.length<x.i+(f+1)):=hf k1;clear HRB HTK HNS HNN HS hf k1 k2 k3 h40 h2;go_enter Tryz.func83,Tryz.ntmps83;go_wp2_with fail
    refine CO.out.mono ?_;rintro e w2 ⟨rfl,u2⟩;have CN2:=h_ (CN.out _ u2);go_wp2_with fail
    refine CN2.out.mono ?_;rintro e w3 ⟨rfl,h3,u3⟩;have H3:=h_ h3;have U3:Hid (Upd (·=p) w w3):=(upd_eq (HU1.out.then_non u2)).trans u3 (fun _ _ e=>e);have HB3:=h_ ((HB1.out.upd u2 (fun f=>f)).upd u3 (by omega));clear CO CN CN2 h3 u2 u3 e1;go_wp2_with fail
    refine (CP.out w3).mono ?_;rintro e w4 ⟨rfl,rfl⟩;clear CP;have CO2:=h_ (xOffset_c H3.out);have CN2:=h_ (fun W (u:Upd Non w4 W)=>xNext_c (H3.out.non u) (by omega));obtain ⟨off2,Hoff2⟩:=nm (offF T fin y1.i);obtain ⟨s2,Hs2⟩:=nm (nxS T y1);obtain ⟨y2,Hy2⟩:=nm (nxY T fin y1)
    have h2ms:y2.ms.length≤100000:=by
     have:=HNG2.out.1;rw [Hy2.out] at this;have h5:=this.2.2;have h6:=this.1;omega
    rw [Hs2.out] at hs2l;have COP:=h_ (fun (W:World) (h:XdS W p A c T fin y2)=>xOperation_c h h2ms s2 (by omega) off2);rw [Hs2.out,Hy2.out] at CN2;rw [Hoff2.out] at CO2;have HLB3:w.heap.size<w4.heap.size:=HB3.out.lt;clear h2ms hs2l h1i h1w h1l;go_wp2_with fail
    refine CO2.out.mono ?_;rintro e w5 ⟨rfl,u5⟩;have CN5:=h_ (CN2.out _ u5);clear CO2 CN2;go_wp2_with fail
    refine CN5.out.mono ?_;rintro e w6 ⟨rfl,h6,u6⟩;have CO6:=h_ (COP.out _ h6);have U6:Hid (Upd (·=p) w w6):=(U3.out.then_non u5).trans u6 (fun _ _ e=>e);have HB6:=h_ ((HB3.out.upd u5 (fun f=>f)).upd u6 (by omega));have z6:=u6.size;have z5:=u5.size;clear CN5 COP h6 u6 u5;go_wp2_with fail
    refine CO6.out.mono ?_;rintro e w8 ⟨q0,b,y0,rfl,hqk,h8,u8,hb8,hop⟩
    have HOP:Hid (ResX y1 (bif b then y0 else y0.fail 2 off2) (wrdF T fin (operF left) y1.ps) (fun v=>v=q0∧y1.i+1≤y0.i)∧GoodX T y0∧y0.left=left∧y1.i≤y0.i∧(b=true→y0.i=y1.i+1)):=by
     have:=op_resX (fin:=fin) (b:=b) (q0:=q0) (y0:=y0) HNG.out.1 HW1Y.out Hs2.out Hy2.out HL1.out (fun q=>(hb8 q).1) (by rw [Hoff2.out];exact hop);rw [Hoff2.out] at this;exact this
    have HB8:=h_ (HB6.out.upd u8 (by omega));have U8:Hid (Upd (·=p) w w8):=U6.out.trans u8 (fun _ _ e=>e);have HQK:=h_ hqk;have z8:=u8.size;have HBT:=h_ hb8;have H8:=h_ h8;clear CO6 hop h8 u8 hqk hb8 HB6 U6 HB3 U3;unfold pv;rw [HQK.out];obtain ⟨W9,HW9⟩:=nm (w8.alloc (.cells #[.int .i64 q0.v,.int .i64 q0.op,.int .i64 q0.imm,.int .i64 q0.iv,.slice none 0 0] 40));have u9:Upd Non w8 W9:=by rw [←HW9.out];exact Upd.refl.alloc _
    have b9:Blk W9 w8.heap.size 40 #[.int .i64 q0.v,.int .i64 q0.op,.int .i64 q0.imm,.int .i64 q0.iv,.slice none 0 0]:=by rw [←HW9.out];exact Blk.new _ _ _
    have s9:W9.heap.size=w8.heap.size+1:=by rw [←HW9.out];simp
    have HS9:Hid (XAp w W9 w8.heap.size p A c T fin y0 #[.int .i64 q0.v,.int .i64 q0.op,.int .i64 q0.imm,.int .i64 q0.iv,.slice none 0 0]):=⟨H8.out.non u9,HB8.out.upd u9 (fun f=>f),b9,by omega,hpw,U8.out.then_non u9⟩
    clear u9 b9
    go_upto_region 16 with fail
    rw [HW9.out];clear HW9
    cases b with
    | false =>
     have CF:=h_ (xFail_c HS9.out.xd 2 off2);go_wp2_with fail
     refine CF.out.mono ?_;rintro e w9 ⟨rfl,h9,u9⟩;have HS10:=h_ (HS9.out.call h9 u9);have HB9:=h_ HS10.out.res;clear CF h9 u9 HT;unfold p0 at HB9;have b9:=HB9.out;have rc0:=b9.cell 0;have rc1:=b9.cell 1;have rc2:=b9.cell 2;have rc3:=b9.cell 3;have rc4:=b9.cell 4;have rcf:=b9.frozen;clear b9;go_wp2_with fail
     rw [set5_eq];have us:=set5_upd w9 w.heap.size;refine bodyPost_ret (results_cell_row rfl _ _ w.heap.size 40 _ (0,0) _ rfl (set5_blk HB9.out _ _ _ _ _) Tryz.underlying40 rfl (by kernel_rfl)) rfl ?_;have hor:=HOP.out;dsimp only [cond_false] at hor;have h1i:y1.i=x.i+1:=by rw [HY1.out]
     refine ⟨.mk 0 0 0 0 [],none,0,y0.fail 2 off2,rfl,PtK.leaf,HS10.out.xd.upd (us _ _ _ _ _) (fun k _ e=>by omega),hor.2.1.fail _ _,by rw [xfail_left,hor.2.2.1,hl],by rw [xfail_i];have:=hor.2.2.2.1;omega,?_,HS10.out.upd.trans (us _ _ _ _ _) (fun k hk e=>by omega),?_⟩
     ·rw [Pt.size_leaf,xfail_i];have:=hor.2.2.2.1;omega
     ·rw [HR.out];refine ⟨fun _=>?_,fun q=>absurd HK1.out q⟩;have h5:=hor.1.1 HW1Y.out;rw [HY1.out] at h5;unfold appF;have e:({ x with i:=x.i+1 }:Xs).ps={ x.ps with i:=x.i+1 }:=rfl;rw [e] at h5
      cases hw:wrdF T fin (operF left) { x.ps with i:=x.i+1 } with
      | error e=>rw [hw] at h5;exact h5
      | ok v=>rw [hw] at h5;exact absurd h5.1 (xfail_ne _ (by decide))
    | true =>
     obtain ⟨-,hv0,har⟩:=HBT.out rfl;have HV0:=h_ hv0;have HOR:=HOP.out;dsimp only [cond_true] at HOR;have h0i:y0.i=x.i+2:=by rw [HOR.2.2.2.2 rfl,HY1.out]
     have H0I:=h_ h0i;have HR0:=h_ HOR.1;have CA:=h_ (fun W=>arity_c q0.op W);rw [har] at CA;obtain ⟨n,Hn⟩:=nm ((arF q0.op).getD 0);rw [Hn.out] at CA;have hn3:n≤3:=by rw [←Hn.out];exact arF_le _
     have HG0:=h_ HOR.2.1;have HYL:=h_ HOR.2.2.1;have d1:=HS9.out.pat.cell 1;clear hv0 har HOR HOP HBT h0i;go_wp2_with fail
     refine (CA.out _).mono ?_;rintro e wa ⟨rfl,rfl⟩;clear CA d1;go_wp2_with fail
     go_loopg [11] n (fun g i wr=>∃(j:Nat) (Ak:Option Addr) (ck:Nat) (ks:List Pt) (y:Xs),Hid (g=n - j)∧j≤n∧i=.int .i64 j∧Hid (XAp w wr w8.heap.size p A c T fin y #[.int .i64 q0.v,.int .i64 q0.op,.int .i64 q0.imm,.int .i64 q0.iv,.slice Ak j ck])∧Hid (PtO wr (fun k=>w8.heap.size<k) Ak j ck ks)∧Hid (∀k,At Ak k→w8.heap.size<k)∧Hid (GoodX T y)∧Hid (y.left=left)∧Hid (ResX y0 y (kidsF (termF T fin left f) j y0.ps) (fun v=>v=ks))∧Hid ((y.why=0→Pt.sizeL ks+y0.i≤y.i)∧Pt.sizeL ks+y0.i≤y.i+1∧y0.i≤y.i))
     case atStart=>exact ⟨0,none,0,[],y0,rfl,Nat.zero_le _,rfl,HS9.out,PtO.none_,fun k h=>(At.none_ h).elim,HG0.out,HYL.out,⟨fun h=>⟨h,rfl,rfl⟩,fun h=>⟨rfl,rfl⟩⟩,⟨fun _=>by show Pt.sizeL []+y0.i≤y0.i;simp [Pt.sizeL],by show Pt.sizeL []+y0.i≤y0.i+1;simp [Pt.sizeL],Nat.le_refl _⟩⟩
     case round =>
      obtain ⟨j,Ak,ck,ks,y,Hg,hj,rfl,HS1,HK,HAT,HG1,HL2,HRK,HZ⟩:=hrel;obtain ⟨D,HD⟩:=nm (decide (j<n)&&(y.why==0));have c3:=HS1.out.xd.cells.2.2.2.1;clear HS9 HYL
      go_upto_region 21 with fail
      go_cut [94] (fun s wx=>s=.bool D∧wx=wr)
      case first =>
       obtain ⟨yw,Hyw⟩:=nm y.why;rw [Hyw.out] at c3 HD;obtain ⟨bw,Hbw⟩:=nm (yw==0);rw [Hbw.out] at HD;have hbw:=Hbw.out;by_cases hlt:j<n
       ·have tj:decide ((j:Int)<(n:Int))=true:=dT_ (by omega);have hD:D=bw:=by rw [←HD.out,dT_ hlt];rfl
        subst hD;go_wp2_with fail
        go_meet
        case rel=>exact ⟨rfl,rfl⟩
       ·have tj:decide ((j:Int)<(n:Int))=false:=dF_ (by omega);have hD:D=false:=by rw [←HD.out,dF_ hlt];rfl
        subst hD;go_wp2_with fail
        go_meet
        case rel=>exact ⟨rfl,rfl⟩
      case rest =>
       obtain ⟨rfl,hwc⟩:=hcut;subst hwc;obtain ⟨wr,rfl⟩:∃v:World,v=wc:=⟨_,rfl⟩
       cases D with
       | true =>
        have hDD:=HD.out;simp only [Bool.and_eq_true,decide_eq_true_eq,beq_iff_eq] at hDD;have hlt:=hDD.1;have H0Y:Hid (y.why=0):=hDD.2
        have HF2:Hid (T.length<y.i+f):=by
         show T.length<y.i+f;have h5:=HFU.out;have h6:=HZ.out.2.2;have h7:=H0I.out;omega
        clear hDD HD c3
        go_upto_region 23 with fail
        obtain ⟨wD,HwD⟩:=nm wr.drew;have uD:Upd Non wr wD:=by rw [←HwD.out];exact Upd.refl.drew
        have HS:=h_ (HS1.out.non uD);have HKD:=h_ (HK.out.upd uD (fun _ _ f=>f) (fun _ _ _ f=>f));have CT:=h_ (HT.out HS.out.xd HG1.out HL2.out H0Y.out HF2.out);have hckj:j≤ck:=HK.out.le;clear HS1 HK uD;refine wp_region_held_drew (S:=fun _=>True) (by kernel_rfl) trivial (fun hHeld=>?_);rw [HwD.out];refine wpT 0 ?_;(try simp only [y_,z_]);refine wpT 2 ?_;(try simp only [y_,z_]);refine aR_ (rs:=[1,3]) (by kernel_rfl) (by simp) ?_;refine aC_ rfl (fun K hK=>?_) (aC_ rfl (fun K hK=>?_) aN_)
        ·have d4:=HS.out.pat.cell 4;go_simp;refine hK.out _ _ ?_ (fun hHeld=>?_)
         ·exact trivial
         clear hK K;(try simp only [y_,z_]);clear d4;refine aR_ (rs:=[3]) (by kernel_rfl) (by simp) ?_;refine aC_ rfl (fun K hK=>?_) aN_;go_simp;refine CT.out.mono ?_;rintro e w7 ⟨q,KA,kc,y',rfl,hq,h7,hg7,hl7,hi7,hz7,u7,hr7⟩;unfold pv;go_wp2_with fail
         refine hK.out _ _ ?_ (fun hHeld=>?_)
         ·exact trivial
         clear hK K;(try simp only [y_,z_]);have HS7:=h_ (HS.out.call h7 u7);have HLT:Hid (∀k,At Ak k→k<wD.heap.size):=fun k h=>HKD.out.lt h
         have HGD:Hid (w8.heap.size<wD.heap.size):=HS.out.pat.lt;have HK7:=h_ (HKD.out.upd u7 (fun k h e=>by have h5:=HAT.out k h;have h6:=HS.out.lt;have h7:=HS.out.plt;omega) (fun k _ h e=>by have h6:=HS.out.lt;have h7:=HS.out.plt;omega))
         have HQ7:Hid (PtK w7 (fun k=>w8.heap.size<k∧¬At Ak k) q KA kc):=PtK.mono (fun k _ h=>⟨Nat.lt_of_lt_of_le HGD.out h,fun r=>Nat.lt_irrefl _ (Nat.lt_of_lt_of_le (HLT.out k r) h)⟩) _ _ _ hq
         have HG7:=h_ hg7;have HL7:Hid (y'.left=left):=hl7.trans HL2.out;have HI7:=h_ hi7;have HZ7:=h_ hz7;have HR7:=h_ hr7;clear hq h7 hg7 hl7 hi7 hz7 u7 hr7;refine aR_ (rs:=[4]) (by kernel_rfl) (by simp) ?_;refine aC_ rfl (fun K hK=>?_) aN_;go_simp;have HAL:Hid (Upd Non w7 (w7.alloc (.cells #[.int .i64 q.v,.int .i64 q.op,.int .i64 q.imm,.int .i64 q.iv,.slice KA q.kids.length kc] 40))):=Upd.refl.alloc _
         have HS8:=h_ (HS7.out.non HAL.out);have HK8:=h_ (HK7.out.upd HAL.out (fun _ _ f=>f) (fun _ _ _ f=>f));have HQ8:=h_ (PtK.upd HAL.out (fun _ _ _ f=>f) _ _ _ HQ7.out);obtain ⟨hkn,cs8,hko,hkc⟩:=id HK8.out;refine hK.out _ _ ?_ (fun hHeld=>?_)
         ·exact trivial
         clear hK K;(try simp only [y_,z_]);refine aR_ (rs:=[5]) (by kernel_rfl) (by simp) ?_;refine aC_ rfl (fun K hK=>?_) aN_;refine step_app rfl rfl T_pats rfl hko rfl (Sl.new _ _ _) rfl (by simp [Value.oneCell']) (by simp only [maxLen];omega) (by omega) ?_;intro A8 c8 w10 ho10 hu10 hat10
         have HA8:Hid (∀k,At A8 k→w8.heap.size<k):=fun k h=>by
          rcases hat10 k h with h | h
          ·exact HAT.out k h
          ·have h6:=HS8.out.pat.lt;omega
         have HS10:=h_ (HS8.out.far hu10 (fun k h=>HAT.out k h));have HK10:=h_ (PtO.snoc (G':=fun k=>w8.heap.size<k) HK8.out hkc HQ8.out ho10 hu10 hat10 (fun _ _ h=>h));clear hkn hko hkc ho10 hu10 hat10;have d8:=HS10.out.pat.cell 4;have f8:=HS10.out.pat.frozen 4;refine hK.out _ _ ?_ (fun hHeld=>?_)
         ·exact trivial
         clear hK K;(try simp only [y_,z_]);refine wpT 6 ?_;(try simp only [y_,z_]);refine aR_ (rs:=[7]) (by kernel_rfl) (by simp) ?_;refine aC_ rfl (fun K hK=>?_) aN_;go_simp;have u11:Upd (·=w8.heap.size) w10 (w10.setCell ⟨w8.heap.size,4,none⟩ (.slice A8 (j+1) c8)):=updCell _ _ _ _;have b11:=HS10.out.pat.set_ 4 (.slice A8 (j+1) c8);have HS11:Hid (XAp w (w10.setCell ⟨w8.heap.size,4,none⟩ (.slice A8 (j+1) c8)) w8.heap.size p A c T fin y' #[.int .i64 q0.v,.int .i64 q0.op,.int .i64 q0.imm,.int .i64 q0.iv,.slice A8 (j+1) c8]):=HS10.out.setPat u11 (by simpa using b11)
         have HK11:=h_ (HK10.out.upd u11 (fun k h e=>by have:=HA8.out k h;omega) (fun k _ h e=>by omega));refine hK.out _ _ ?_ (fun hHeld=>?_)
         ·exact trivial
         clear hK K;(try simp only [y_,z_]);refine aD_ (by kernel_rfl) ?_ _;clear d8 f8 u11 b11 hHeld;go_wp2_with fail
         go_roundg (n - (j+1))
         case measure=>rw [Hg.out];omega
         case rel =>
          have hks:=kids_stepX HRK.out H0Y.out (termF_err f) HR7.out HZ.out.1;refine ⟨j+1,A8,c8,ks++[q],y',rfl,by omega,by go_num,HS11.out,HK11.out,HA8.out,HG7.out,HL7.out,hks.1,hks.2,?_,?_⟩
          ·rw [sizeL_snoc];have h5:=HZ.out.1 H0Y.out;have h6:=HZ7.out;omega
          ·have h5:=HZ.out.2.2;have h6:=HI7.out;omega
        ·go_simp;refine CT.out.mono ?_;rintro e w7 ⟨q,KA,kc,y',rfl,hq,h7,hg7,hl7,hi7,hz7,u7,hr7⟩;unfold pv;go_wp2_with fail
         refine hK.out _ _ ?_ (fun hHeld=>?_)
         ·exact trivial
         clear hK K;(try simp only [y_,z_]);have d4:w7.cell? ⟨w8.heap.size,4,none⟩=some (.slice Ak j ck):=(HS.out.call h7 u7).pat.cell 4;refine wpAnyH_takeM (fun w'=>w'.cell? ⟨w8.heap.size,4,none⟩=some (.slice Ak j ck)) (calm_cell _ _) [5,6,7] (i:=1) (v:=?_) rfl (by kernel_rfl) (by kernel_rfl) (by kernel_rfl) (by kernel_rfl) (fun _ _ _ h=>h) (Or.inl ⟨by rfl,?_⟩) (d4) (by assumption) ?_
         rotate_left
         ·intro w hSw;(try dsimp only at hSw);go_simp;try with_reducible rfl
         (try simp only [y_,z_]);clear d4;have HS7:=h_ (HS.out.call h7 u7);have HLT:Hid (∀k,At Ak k→k<wD.heap.size):=fun k h=>HKD.out.lt h
         have HGD:Hid (w8.heap.size<wD.heap.size):=HS.out.pat.lt;have HK7:=h_ (HKD.out.upd u7 (fun k h e=>by have h5:=HAT.out k h;have h6:=HS.out.lt;have h7:=HS.out.plt;omega) (fun k _ h e=>by have h6:=HS.out.lt;have h7:=HS.out.plt;omega))
         have HQ7:Hid (PtK w7 (fun k=>w8.heap.size<k∧¬At Ak k) q KA kc):=PtK.mono (fun k _ h=>⟨Nat.lt_of_lt_of_le HGD.out h,fun r=>Nat.lt_irrefl _ (Nat.lt_of_lt_of_le (HLT.out k r) h)⟩) _ _ _ hq
         have HG7:=h_ hg7;have HL7:Hid (y'.left=left):=hl7.trans HL2.out;have HI7:=h_ hi7;have HZ7:=h_ hz7;have HR7:=h_ hr7;clear hq h7 hg7 hl7 hi7 hz7 u7 hr7;refine aR_ (rs:=[4]) (by kernel_rfl) (by simp) ?_;refine aC_ rfl (fun K hK=>?_) aN_;go_simp;have HAL:Hid (Upd Non w7 (w7.alloc (.cells #[.int .i64 q.v,.int .i64 q.op,.int .i64 q.imm,.int .i64 q.iv,.slice KA q.kids.length kc] 40))):=Upd.refl.alloc _
         have HS8:=h_ (HS7.out.non HAL.out);have HK8:=h_ (HK7.out.upd HAL.out (fun _ _ f=>f) (fun _ _ _ f=>f));have HQ8:=h_ (PtK.upd HAL.out (fun _ _ _ f=>f) _ _ _ HQ7.out);obtain ⟨hkn,cs8,hko,hkc⟩:=id HK8.out;refine hK.out _ _ ?_ (fun hHeld=>?_)
         ·exact trivial
         clear hK K;(try simp only [y_,z_]);refine aR_ (rs:=[5]) (by kernel_rfl) (by simp) ?_;refine aC_ rfl (fun K hK=>?_) aN_;refine step_app rfl rfl T_pats rfl hko rfl (Sl.new _ _ _) rfl (by simp [Value.oneCell']) (by simp only [maxLen];omega) (by omega) ?_;intro A8 c8 w10 ho10 hu10 hat10
         have HA8:Hid (∀k,At A8 k→w8.heap.size<k):=fun k h=>by
          rcases hat10 k h with h | h
          ·exact HAT.out k h
          ·have h6:=HS8.out.pat.lt;omega
         have HS10:=h_ (HS8.out.far hu10 (fun k h=>HAT.out k h));have HK10:=h_ (PtO.snoc (G':=fun k=>w8.heap.size<k) HK8.out hkc HQ8.out ho10 hu10 hat10 (fun _ _ h=>h));clear hkn hko hkc ho10 hu10 hat10;have d8:=HS10.out.pat.cell 4;have f8:=HS10.out.pat.frozen 4;refine hK.out _ _ ?_ (fun hHeld=>?_)
         ·exact trivial
         clear hK K;(try simp only [y_,z_]);refine wpT 6 ?_;(try simp only [y_,z_]);refine aR_ (rs:=[7]) (by kernel_rfl) (by simp) ?_;refine aC_ rfl (fun K hK=>?_) aN_;go_simp;have u11:Upd (·=w8.heap.size) w10 (w10.setCell ⟨w8.heap.size,4,none⟩ (.slice A8 (j+1) c8)):=updCell _ _ _ _;have b11:=HS10.out.pat.set_ 4 (.slice A8 (j+1) c8);have HS11:Hid (XAp w (w10.setCell ⟨w8.heap.size,4,none⟩ (.slice A8 (j+1) c8)) w8.heap.size p A c T fin y' #[.int .i64 q0.v,.int .i64 q0.op,.int .i64 q0.imm,.int .i64 q0.iv,.slice A8 (j+1) c8]):=HS10.out.setPat u11 (by simpa using b11)
         have HK11:=h_ (HK10.out.upd u11 (fun k h e=>by have:=HA8.out k h;omega) (fun k _ h e=>by omega));refine hK.out _ _ ?_ (fun hHeld=>?_)
         ·exact trivial
         clear hK K;(try simp only [y_,z_]);refine aD_ (by kernel_rfl) ?_ _;clear d8 f8 u11 b11 hHeld;go_wp2_with fail
         go_roundg (n - (j+1))
         case measure=>rw [Hg.out];omega
         case rel =>
          have hks:=kids_stepX HRK.out H0Y.out (termF_err f) HR7.out HZ.out.1;refine ⟨j+1,A8,c8,ks++[q],y',rfl,by omega,by go_num,HS11.out,HK11.out,HA8.out,HG7.out,HL7.out,hks.1,hks.2,?_,?_⟩
          ·rw [sizeL_snoc];have h5:=HZ.out.1 H0Y.out;have h6:=HZ7.out;omega
          ·have h5:=HZ.out.2.2;have h6:=HI7.out;omega
       | false =>
        have HR2:=h_ (kids_exitX HRK.out hj HD.out);have CE:=h_ (xExpect_c HS1.out.xd [41] (by have:=HG1.out.1;omega));go_wp2_with fail
        refine CE.out.mono ?_;rintro e w6 ⟨rfl,h6,u6⟩;have HS6:=h_ (HS1.out.call h6 u6);have HK6:=h_ (HK.out.upd u6 (fun k h e=>by have h5:=HAT.out k h;have h6:=HS1.out.lt;have h7:=HS1.out.plt;omega) (fun k _ h e=>by have h6:=HS1.out.lt;have h7:=HS1.out.plt;omega))
        have v0:=HS6.out.pat.cell 0;have v1:=HS6.out.pat.cell 1;have v2:=HS6.out.pat.cell 2;have v3:=HS6.out.pat.cell 3;have v4:=HS6.out.pat.cell 4;have HB9:=h_ HS6.out.res;clear CE h6 u6 c3 HT;unfold p0 at HB9;have b9:=HB9.out;have rc0:=b9.cell 0;have rc1:=b9.cell 1;have rc2:=b9.cell 2;have rc3:=b9.cell 3;have rc4:=b9.cell 4;have rcf:=b9.frozen;clear b9;go_wp2_with fail
        rw [set5_eq];have us:=set5_upd w6 w.heap.size (.int .i64 q0.v) (.int .i64 q0.op) (.int .i64 q0.imm) (.int .i64 q0.iv) (.slice Ak j ck);have hkl:ks.length=j:=HK.out.1.symm;refine bodyPost_ret (results_cell_row rfl _ _ w.heap.size 40 _ (0,0) _ rfl (set5_blk HB9.out _ _ _ _ _) Tryz.underlying40 rfl (by kernel_rfl)) rfl ?_;refine ⟨.mk q0.v q0.op q0.imm q0.iv ks,Ak,ck,exY T fin [41] y,by unfold pv;rw [←hkl];rfl,?_,HS6.out.xd.upd us (fun k _ e=>by omega),exY_good HG1.out,by rw [exY_left,HL2.out,hl],?_,?_,HS6.out.upd.trans us (fun k hk e=>by omega),?_⟩
        ·have hpt:PtK w6 (fun k=>w8.heap.size<k) (.mk q0.v q0.op q0.imm q0.iv ks) Ak ck:=HK6.out.view (fun k hk=>HAT.out k hk) (fun k _ q=>q) _ _ _ _;exact PtK.mono (fun k _ q=>by have:=HS6.out.lt;omega) _ _ _ (PtK.upd us (fun k _ q e=>by have:=HS6.out.lt;omega) _ _ _ hpt)
        ·have h5:y.i≤(exY T fin [41] y).i:=exY_i;have h6:=HZ.out.2.2;have h7:=H0I.out;omega
        ·have h5:y.i≤(exY T fin [41] y).i:=exY_i;have h6:=HZ.out.2.1;have h7:=H0I.out;rw [Pt.size_eq];show 1+Pt.sizeL ks+x.i≤_;omega
        ·have h5:=app_finX (f:=f) (left:=left) HW1Y.out HR0.out Hn.out.symm HR2.out HZ.out.1;have e:y1.ps={ x.ps with i:=x.i+1 }:=by rw [HY1.out];rfl
         rw [e] at h5;rw [HR.out];refine ⟨fun _=>?_,fun q=>absurd HK1.out q⟩;have h6:=h5.1 HW1Y.out
         cases hap:appF T fin left f { x.ps with i:=x.i+1 } with
         | error e=>rw [hap] at h6;exact h6
         | ok v =>
          rw [hap] at h6;refine ⟨h6.1,h6.2.1,h6.2.2.1,?_⟩;have h7:=h6.2.2.2;have h8:y1.i=x.i+1:=by rw [HY1.out]
          omega
   ·have HN40:Hid (s≠[40]):=h40;have HR:=h_ (HRB.out (fun a' b' e hb=>by have:=Hm.out;rw [e] at this;exact absurd this.symm h2) HN40.out);clear HRB HTK HNS HNN HS HT hf h40;go_enter Tryz.func83,Tryz.ntmps83;go_wp2_with fail
    refine CO.out.mono ?_;rintro e w2 ⟨rfl,u2⟩;have CN2:=h_ (CN.out _ u2);go_wp2_with fail
    refine CN2.out.mono ?_;rintro e w3 ⟨rfl,h3,u3⟩;have H3:=h_ h3;have U3:Hid (Upd (·=p) w w3):=(upd_eq (HU1.out.then_non u2)).trans u3 (fun _ _ e=>e);have HB3:=h_ ((HB1.out.upd u2 (fun f=>f)).upd u3 (by omega));clear CO CN CN2 h3 u2 u3 e1;go_wp2_with fail
    refine (CP.out w3).mono ?_;rintro e w4 ⟨rfl,rfl⟩;clear CP
    have hfq:(qs.toList==[40])=false:=by
     rw [←Hqs.out,xktl];exact beq_eq_false_iff_ne.2 HN40.out
    have CF:=h_ (fun W (u:Upd Non w4 W)=>xFail_c (H3.out.non u) 2 off);go_wp2_with fail
    refine (CF.out _ (by first | exact Upd.refl | assumption)).mono ?_;rintro e w9 ⟨rfl,h9,u9⟩;have HB9:=h_ (HB3.out.upd u9 (by omega));have H9:=h_ h9;have U9:Hid (Upd (·=p) w w9):=U3.out.trans u9 (fun _ _ e=>e);clear CF h9 u9;unfold p0 at HB9;have b9:=HB9.out;have rc0:=b9.cell 0;have rc1:=b9.cell 1;have rc2:=b9.cell 2;have rc3:=b9.cell 3;have rc4:=b9.cell 4;have rcf:=b9.frozen;clear b9;go_wp2_with fail
    rw [set5_eq];have us:=set5_upd w9 w.heap.size;refine bodyPost_ret (results_cell_row rfl _ _ w.heap.size 40 _ (0,0) _ rfl (set5_blk HB9.out _ _ _ _ _) Tryz.underlying40 rfl (by kernel_rfl)) rfl ?_;refine ⟨.mk 0 0 0 0 [],none,0,y1.fail 2 off,rfl,PtK.leaf,H9.out.upd (us _ _ _ _ _) (fun k _ e=>by omega),HNG.out.1.fail _ _,by rw [xfail_left];exact HNG.out.2.2.1,by rw [xfail_i];exact HNG.out.2.1,?_,U9.out.trans (us _ _ _ _ _) (fun k hk e=>by omega),HR.out⟩
    rw [Pt.size_leaf,xfail_i];have:=HNG.out.2.1;omega
theorem xTerm_any {T:List (Bs×Nat)} {fin:Nat} (hT:XOk T) (left:Bool):∀(f:Nat) {w:World} {p:Nat} {A:Option Addr} {c:Nat} {x:Xs},XdS w p A c T fin x→GoodX T x→x.left=left→(x.why=0→T.length<x.i+(f+1)) →
  Calls Tryz.prog 83 #[.pointer (some ⟨p,0,none⟩)] w (XTermP w p A c T fin x (termF T fin left (f+1) x.ps))
 | 0,_,_,_,_,_,h,hx,hl,hf=>xTerm_c hT left 0 (fun {w p A c x} h hx hl h0 hf=>absurd hx.1 (by omega)) h hx hl hf
 | f+1,_,_,_,_,_,h,hx,hl,hf=>xTerm_c hT left (f+1) (fun {w p A c x} h hx hl h0 hf=>xTerm_any hT left f h hx hl (fun _=>hf)) h hx hl hf
def XNumP (w:World) (p:Nat) (A:Option Addr) (c:Nat) (T:List (Bs×Nat)) (fin:Nat) (x:Xs) (r:Except Er (Nat×PS)) (e:Ending) (w':World):Prop :=
 ∃(n:Nat) (y:Xs),e=.returned (.int .i64 n)∧XdS w' p A c T fin y∧GoodX T y∧y.left=x.left∧x.i≤y.i∧Upd (·=p) w w'∧ResX x y r (fun v=>v=n)
def XIntP (w:World) (p:Nat) (A:Option Addr) (c:Nat) (T:List (Bs×Nat)) (fin:Nat) (x:Xs) (r:Except Er (Int×PS)) (e:Ending) (w':World):Prop :=
 ∃(n:Int) (y:Xs),e=.returned (.int .i64 n)∧XdS w' p A c T fin y∧GoodX T y∧y.left=x.left∧x.i≤y.i∧Upd (·=p) w w'∧ResX x y r (fun v=>v=n)
theorem bad_resX {α:Type} {T:List (Bs×Nat)} {fin:Nat} {x:Xs} {f:Bs→PS→Option (α×PS)} {P:α→Prop} (hf:∀s,tkF T x.i=some s→f s x.ps=none):ResX x ((nxY T fin x).fail 2 (offF T fin x.i)) (wrdF T fin f x.ps) P:=by
 by_cases h0:x.why=0
 ·by_cases q:x.i<T.length
  ·obtain ⟨t,ht⟩:=tk_some q;rw [wrd_bad (z:=x.ps) ht (hf t ht),(nx_some (fin:=fin) h0 ht).2.1];exact ResX.err (fun _=>h0) (fun q=>absurd h0 q)
  ·rw [wrd_none (z:=x.ps) (tk_none q),(nx_none (fin:=fin) (fun r=>q r.2)).2,xfail_why (xfail_ne _ (by decide))];exact ResX.err (fun _=>h0) (fun q=>absurd h0 q)
 ·rw [(nx_none (fin:=fin) (fun r=>h0 r.1)).2,xfail_why h0,xfail_why h0];exact ⟨fun q=>absurd q h0,fun _=>⟨rfl,rfl⟩⟩
set_option maxRecDepth 100000 in
set_option maxHeartbeats 2000000 in
theorem xNumber_c {T:List (Bs×Nat)} {fin:Nat} (hT:XOk T) {w:World} {p:Nat} {A:Option Addr} {c:Nat} {x:Xs} (h:XdS w p A c T fin x) (hx:GoodX T x) :
  Calls Tryz.prog 109 #[.pointer (some ⟨p,0,none⟩)] w (XIntP w p A c T fin x (numbF T fin x.ps)):=by
 have hTl:=hT.len;have hxi:=hx.1;have CO:=h_ (xOffset_c h);have CN:=h_ (fun W (u:Upd Non w W)=>xNext_c (h.non u) (by omega));have HX:=h_ hx;have HNG:=h_ (nxY_good (fin:=fin) hx)
 have hsl:(nxS T x).length≤20000:=by
  by_cases q:x.why=0∧x.i<T.length
  ·obtain ⟨s,hs⟩:=tk_some q.2;rw [(nx_some (fin:=fin) q.1 hs).1];exact (hT.tk hs).2
  ·rw [(nx_none (fin:=fin) q).1];simp
 have HTK:Hid (nxS T x≠[]→x.why=0∧tkF T x.i=some (nxS T x)∧nxY T fin x={ x with i:=x.i+1 }∧x.i<T.length):=fun hne=>by
  by_cases q:x.why=0∧x.i<T.length
  ·obtain ⟨t,ht⟩:=tk_some q.2;obtain ⟨e1,e2,e3⟩:=nx_some (fin:=fin) q.1 ht;rw [e1];exact ⟨q.1,ht,e2,e3⟩
  ·exact absurd (nx_none (fin:=fin) q).1 hne
 have HTS:Hid (∀t,x.why=0→tkF T x.i=some t→t=nxS T x):=fun t h0 ht=>(nx_some (fin:=fin) h0 ht).1.symm
 obtain ⟨off,Hoff⟩:=nm (offF T fin x.i);obtain ⟨s,Hs⟩:=nm (nxS T x);obtain ⟨y1,Hy1⟩:=nm (nxY T fin x);rw [Hs.out] at hsl CN HTK HTS;rw [Hy1.out] at CN HNG HTK;rw [Hoff.out] at CO;have CP:=h_ (fun W=>r1Parse_c s W (by omega));obtain ⟨qs,Hqs⟩:=nm (kstr s);rw [Hqs.out] at CN CP
 have HRB:Hid (decF s=none→ResX x (y1.fail 2 off) (numbF T fin x.ps) (fun v=>v=0)):=fun hd=>by
  by_cases h0:x.why=0
  ·have:=bad_resX (fin:=fin) (x:=x) (f:=fun s x=>(decF s).map fun n=>(n,x)) (P:=fun v=>v=0) (fun t ht=>by rw [HTS.out t h0 ht,hd];rfl);rw [Hy1.out,Hoff.out] at this;exact this
  ·have e:=(nx_none (T:=T) (fin:=fin) (x:=x) (fun r=>h0 r.1)).2;rw [Hy1.out] at e;rw [e,xfail_why h0,xfail_why h0];exact ⟨fun q=>absurd q h0,fun _=>⟨rfl,rfl⟩⟩
 have HRG:Hid (∀n,decF s=some n→ResX x y1 (numbF T fin x.ps) (fun v=>v=n)):=fun n hd=>by
  obtain ⟨k1,k2,k3,k4⟩:=HTK.out (fun q=>by rw [q] at hd;cases hd);unfold numbF;rw [wrd_good (z:=x.ps) k2 (dec_pn hd) (u:=x.ps) (a:=n) (by rw [hd];rfl),k3];exact ⟨fun _=>⟨k1,rfl,rfl⟩,fun q=>absurd k1 q⟩
 obtain ⟨r,Hr⟩:=nm (numbF T fin x.ps);rw [Hr.out] at HRB HRG ⊢;clear h hx hT HTK HTS
 cases hd:decF s with
 | none =>
  rw [hd] at CP;simp only [Option.getD_none,Option.isSome_none] at CP;have HR:=h_ (HRB.out hd);clear HRB HRG hd;go_enter Tryz.func109,Tryz.ntmps109;go_wp2_with fail
  refine CO.out.mono ?_;rintro e w2 ⟨rfl,u2⟩;have CN2:=h_ (CN.out _ u2);go_wp2_with fail
  refine CN2.out.mono ?_;rintro e w3 ⟨rfl,h3,u3⟩;have H3:=h_ h3;have U3:Hid (Upd (·=p) w w3):=(upd_eq u2).trans u3 (fun _ _ e=>e);clear CO CN CN2 h3 u2 u3;go_wp2_with fail
  refine (CP.out _).mono ?_;rintro e w4 ⟨rfl,rfl⟩;have CF:=h_ (xFail_c H3.out 2 off);go_wp2_with fail
  refine CF.out.mono ?_;rintro e w9 ⟨rfl,h9,u9⟩;go_wp2_with fail
  go_ret;exact ⟨0,y1.fail 2 off,rfl,h9,HNG.out.1.fail _ _,by rw [xfail_left];exact HNG.out.2.2.1,by rw [xfail_i];exact HNG.out.2.1,U3.out.trans u9 (fun _ _ e=>e),HR.out⟩
 | some n =>
  rw [hd] at CP;simp only [Option.getD_some,Option.isSome_some] at CP;have HR:=h_ (HRG.out n hd);clear HRB HRG hd;go_enter Tryz.func109,Tryz.ntmps109;go_wp2_with fail
  refine CO.out.mono ?_;rintro e w2 ⟨rfl,u2⟩;have CN2:=h_ (CN.out _ u2);go_wp2_with fail
  refine CN2.out.mono ?_;rintro e w3 ⟨rfl,h3,u3⟩;have H3:=h_ h3;have U3:Hid (Upd (·=p) w w3):=(upd_eq u2).trans u3 (fun _ _ e=>e);clear CO CN CN2 h3 u2 u3;go_wp2_with fail
  refine (CP.out _).mono ?_;rintro e w4 ⟨rfl,rfl⟩;go_wp2_with fail
  go_ret;exact ⟨n,y1,rfl,H3.out,HNG.out.1,HNG.out.2.2.1,HNG.out.2.1,U3.out,HR.out⟩
theorem lookF_false (l:Bs) (b:UInt8):(lookF l b false).2=l:=by
 unfold lookF
 split <;> rfl
set_option maxRecDepth 100000 in
set_option maxHeartbeats 2000000 in
theorem xImmVar_c {T:List (Bs×Nat)} {fin:Nat} (hT:XOk T) {w:World} {p:Nat} {A:Option Addr} {c:Nat} {x:Xs} (h:XdS w p A c T fin x) (hx:GoodX T x) (hl:x.left=false) :
  Calls Tryz.prog 110 #[.pointer (some ⟨p,0,none⟩)] w (XNumP w p A c T fin x (ivarF T fin x.ps)):=by
 have hTl:=hT.len;have hxi:=hx.1;have CO:=h_ (xOffset_c h);have CN:=h_ (fun W (u:Upd Non w W)=>xNext_c (h.non u) (by omega));have HX:=h_ hx;have HNG:=h_ (nxY_good (fin:=fin) hx)
 have hsl:(nxS T x).length≤20000:=by
  by_cases q:x.why=0∧x.i<T.length
  ·obtain ⟨s,hs⟩:=tk_some q.2;rw [(nx_some (fin:=fin) q.1 hs).1];exact (hT.tk hs).2
  ·rw [(nx_none (fin:=fin) q).1];simp
 have HTK:Hid (nxS T x≠[]→x.why=0∧tkF T x.i=some (nxS T x)∧nxY T fin x={ x with i:=x.i+1 }∧x.i<T.length):=fun hne=>by
  by_cases q:x.why=0∧x.i<T.length
  ·obtain ⟨t,ht⟩:=tk_some q.2;obtain ⟨e1,e2,e3⟩:=nx_some (fin:=fin) q.1 ht;rw [e1];exact ⟨q.1,ht,e2,e3⟩
  ·exact absurd (nx_none (fin:=fin) q).1 hne
 have HTS:Hid (∀t,x.why=0→tkF T x.i=some t→t=nxS T x):=fun t h0 ht=>(nx_some (fin:=fin) h0 ht).1.symm
 obtain ⟨off,Hoff⟩:=nm (offF T fin x.i);obtain ⟨s,Hs⟩:=nm (nxS T x);obtain ⟨y1,Hy1⟩:=nm (nxY T fin x);rw [Hs.out] at hsl CN HTK HTS;rw [Hy1.out] at CN HNG HTK;rw [Hoff.out] at CO;have CL:=h_ (fun W=>xIsLetter_c (kstr s) W);rw [kx_kstr] at CL;obtain ⟨qs,Hqs⟩:=nm (kstr s);rw [Hqs.out] at CN CL
 have HRB:Hid (isLt s=false→ResX x (y1.fail 2 off) (ivarF T fin x.ps) (fun v=>v=0)):=fun hd=>by
  by_cases h0:x.why=0
  ·have:=bad_resX (fin:=fin) (x:=x) (f:=fun s x=>match s with
     | [c]=>if isLw c=true∧0<(lookF x.ms c false).1 then some ((lookF x.ms c false).1,x) else none
     | _=>none) (P:=fun v=>v=0) (fun t ht=>by
    rw [HTS.out t h0 ht]
    match s,hd with
    | [],_=>rfl
    | [c],hd=>exact if_neg (fun q=>by rw [show isLt [c]=isLw c from rfl,q.1] at hd;cases hd)
    | _::_::_,_=>rfl)
   rw [Hy1.out,Hoff.out] at this;exact this
  ·have e:=(nx_none (T:=T) (fin:=fin) (x:=x) (fun r=>h0 r.1)).2;rw [Hy1.out] at e;rw [e,xfail_why h0,xfail_why h0];exact ⟨fun q=>absurd q h0,fun _=>⟨rfl,rfl⟩⟩
 have HRG:Hid (∀b,s=[b]→isLw b=true→ResX x (xvY y1 off (fun v=>{ y1 with ms:=v }) (lookF y1.ms b y1.left)) (ivarF T fin x.ps) (fun v=>v=(lookF y1.ms b y1.left).1)∧GoodX T (xvY y1 off (fun v=>{ y1 with ms:=v }) (lookF y1.ms b y1.left))∧(xvY y1 off (fun v=>{ y1 with ms:=v }) (lookF y1.ms b y1.left)).left=x.left∧x.i≤(xvY y1 off (fun v=>{ y1 with ms:=v }) (lookF y1.ms b y1.left)).i):=fun b hb hlw=>by
  obtain ⟨k1,k2,k3,k4⟩:=HTK.out (by rw [hb];simp);have hyl:y1.left=false:=HNG.out.2.2.1.trans hl;have hym:y1.ms=x.ms:=HNG.out.2.2.2.2
  have hpn:isPn ([b].headD 0)=false:=by
   simp only [isLw,decide_eq_true_eq] at hlw;show isPn b=false;simp only [isPn,decide_eq_false_iff_not];omega
  obtain ⟨K,HK⟩:=nm (lookF y1.ms b y1.left);have hK:K.2=y1.ms:=by rw [←HK.out,hyl];exact lookF_false _ _
  have hKx:lookF x.ms b false=K:=by rw [←HK.out,hyl,hym]
  rw [HK.out];unfold xvY;by_cases hk:K.1=0
  ·rw [if_pos hk];refine ⟨?_,HNG.out.1.fail _ _,by rw [xfail_left];exact HNG.out.2.2.1,by rw [xfail_i];exact HNG.out.2.1⟩;unfold ivarF;rw [wrd_bad (z:=x.ps) k2 (by rw [hb];exact if_neg (fun q=>by have:=q.2;rw [show x.ps.ms=x.ms from rfl,hKx] at this;omega)),k3,←Hoff.out];exact ResX.err (fun _=>k1) (fun q=>absurd k1 q)
  ·rw [if_neg hk,hK];refine ⟨?_,HNG.out.1,HNG.out.2.2.1,HNG.out.2.1⟩;unfold ivarF;have ha:(if isLw b=true∧0<(lookF x.ms b false).1 then some ((lookF x.ms b false).1,x.ps) else none)=some (K.1,x.ps):=by rw [hKx,if_pos ⟨hlw,by omega⟩]
   rw [wrd_good (z:=x.ps) k2 (by rw [hb];exact hpn) (u:=x.ps) (a:=K.1) (by rw [hb];exact ha)];show ResX x y1 _ _;rw [k3];exact ⟨fun _=>⟨k1,rfl,rfl⟩,fun q=>absurd k1 q⟩
 obtain ⟨r,Hr⟩:=nm (ivarF T fin x.ps);rw [Hr.out] at HRB HRG ⊢
 cases hlt:isLt s with
 | false =>
  rw [hlt] at CL;have HR:=h_ (HRB.out hlt);clear HRB HRG hlt h hx hT HTK HTS;go_enter Tryz.func110,Tryz.ntmps110;go_wp2_with fail
  refine CO.out.mono ?_;rintro e w2 ⟨rfl,u2⟩;have CN2:=h_ (CN.out _ u2);go_wp2_with fail
  refine CN2.out.mono ?_;rintro e w3 ⟨rfl,h3,u3⟩;have H3:=h_ h3;have U3:Hid (Upd (·=p) w w3):=(upd_eq u2).trans u3 (fun _ _ e=>e);clear CO CN CN2 h3 u2 u3;go_wp2_with fail
  refine (CL.out _).mono ?_;rintro e w4 ⟨rfl,rfl⟩;have CF:=h_ (xFail_c H3.out 2 off);go_wp2_with fail
  refine CF.out.mono ?_;rintro e w9 ⟨rfl,h9,u9⟩;go_wp2_with fail
  go_ret;exact ⟨0,y1.fail 2 off,rfl,h9,HNG.out.1.fail _ _,by rw [xfail_left];exact HNG.out.2.2.1,by rw [xfail_i];exact HNG.out.2.1,U3.out.trans u9 (fun _ _ e=>e),HR.out⟩
 | true =>
  rw [hlt] at CL;obtain ⟨b,rfl,hlw⟩:=isLt_some hlt;have HRS:=h_ (HRG.out b rfl hlw);clear HRB HRG hlt h hx hT HTK HTS;go_enter Tryz.func110,Tryz.ntmps110;go_wp2_with fail
  refine CO.out.mono ?_;rintro e w2 ⟨rfl,u2⟩;have CN2:=h_ (CN.out _ u2);go_wp2_with fail
  refine CN2.out.mono ?_;rintro e w3 ⟨rfl,h3,u3⟩;have H3:=h_ h3;have U3:Hid (Upd (·=p) w w3):=(upd_eq u2).trans u3 (fun _ _ e=>e);clear CO CN CN2 h3 u2 u3;go_wp2_with fail
  refine (CL.out _).mono ?_;rintro e w4 ⟨rfl,rfl⟩;have CK:=h_ (xVariable_g H3.out 6 y1.ms (fun v=>{ y1 with ms:=v }) rfl (fun v=>rfl) (by have h5:=HNG.out.1.2.2;have h6:=HNG.out.1.1;omega) b off)
  rw [Hqs.out] at CK;go_wp2_with fail
  refine CK.out.mono ?_;rintro e w7 ⟨rfl,h7,u7⟩;go_wp2_with fail
  go_ret;exact ⟨_,_,rfl,h7,HRS.out.2.1,HRS.out.2.2.1,HRS.out.2.2.2,U3.out.trans u7 (fun _ _ e=>e),HRS.out.1⟩
set_option maxRecDepth 100000 in
set_option maxHeartbeats 2000000 in
theorem xPatternVar_c {T:List (Bs×Nat)} {fin:Nat} (hT:XOk T) {w:World} {p:Nat} {A:Option Addr} {c:Nat} {x:Xs} (h:XdS w p A c T fin x) (hx:GoodX T x) (hl:x.left=false) :
  Calls Tryz.prog 108 #[.pointer (some ⟨p,0,none⟩)] w (XNumP w p A c T fin x (pvarF T fin x.ps)):=by
 have hTl:=hT.len;have hxi:=hx.1;have CO:=h_ (xOffset_c h);have CN:=h_ (fun W (u:Upd Non w W)=>xNext_c (h.non u) (by omega));have HX:=h_ hx;have HNG:=h_ (nxY_good (fin:=fin) hx)
 have hsl:(nxS T x).length≤20000:=by
  by_cases q:x.why=0∧x.i<T.length
  ·obtain ⟨s,hs⟩:=tk_some q.2;rw [(nx_some (fin:=fin) q.1 hs).1];exact (hT.tk hs).2
  ·rw [(nx_none (fin:=fin) q).1];simp
 have HTK:Hid (nxS T x≠[]→x.why=0∧tkF T x.i=some (nxS T x)∧nxY T fin x={ x with i:=x.i+1 }∧x.i<T.length):=fun hne=>by
  by_cases q:x.why=0∧x.i<T.length
  ·obtain ⟨t,ht⟩:=tk_some q.2;obtain ⟨e1,e2,e3⟩:=nx_some (fin:=fin) q.1 ht;rw [e1];exact ⟨q.1,ht,e2,e3⟩
  ·exact absurd (nx_none (fin:=fin) q).1 hne
 have HTS:Hid (∀t,x.why=0→tkF T x.i=some t→t=nxS T x):=fun t h0 ht=>(nx_some (fin:=fin) h0 ht).1.symm
 obtain ⟨off,Hoff⟩:=nm (offF T fin x.i);obtain ⟨s,Hs⟩:=nm (nxS T x);obtain ⟨y1,Hy1⟩:=nm (nxY T fin x);rw [Hs.out] at hsl CN HTK HTS;rw [Hy1.out] at CN HNG HTK;rw [Hoff.out] at CO;have hqz:(kstr s).size=s.length:=kstr_size s;obtain ⟨qs,Hqs⟩:=nm (kstr s);rw [Hqs.out] at CN hqz
 have HRB:Hid ((∀b,s=[63,b]→isLw b=true→False)→ResX x (y1.fail 2 off) (pvarF T fin x.ps) (fun v=>v=0)):=fun hd=>by
  by_cases h0:x.why=0
  ·have:=bad_resX (fin:=fin) (x:=x) (f:=fun s x=>if 0<(varF s 63 x.vs false).1 then some ((varF s 63 x.vs false).1,x) else none) (P:=fun v=>v=0) (fun t ht=>by
    rw [HTS.out t h0 ht];rw [varF_no (c:=63) (fun a b e hb q=>hd b (by rw [e,show a=63 from UInt8.toNat_inj.1 q]) hb)]
    exact if_neg (Nat.lt_irrefl 0))
   rw [Hy1.out,Hoff.out] at this;exact this
  ·have e:=(nx_none (T:=T) (fin:=fin) (x:=x) (fun r=>h0 r.1)).2;rw [Hy1.out] at e;rw [e,xfail_why h0,xfail_why h0];exact ⟨fun q=>absurd q h0,fun _=>⟨rfl,rfl⟩⟩
 have HRG:Hid (∀b,s=[63,b]→isLw b=true→ResX x (xvY y1 off (fun v=>{ y1 with vs:=v }) (lookF y1.vs b y1.left)) (pvarF T fin x.ps) (fun v=>v=(lookF y1.vs b y1.left).1)∧GoodX T (xvY y1 off (fun v=>{ y1 with vs:=v }) (lookF y1.vs b y1.left))∧(xvY y1 off (fun v=>{ y1 with vs:=v }) (lookF y1.vs b y1.left)).left=x.left∧x.i≤(xvY y1 off (fun v=>{ y1 with vs:=v }) (lookF y1.vs b y1.left)).i):=fun b hb hlw=>by
  obtain ⟨k1,k2,k3,k4⟩:=HTK.out (by rw [hb];simp);have hyl:y1.left=false:=HNG.out.2.2.1.trans hl;have hym:y1.vs=x.vs:=HNG.out.2.2.2.1
  have hvf:varF [63,b] 63 x.vs false=lookF x.vs b false:=by
   show (if (63:UInt8).toNat=63∧isLw b=true then lookF x.vs b false else (0,x.vs))=_;rw [if_pos ⟨rfl,hlw⟩]
  obtain ⟨K,HK⟩:=nm (lookF y1.vs b y1.left);have hK:K.2=y1.vs:=by rw [←HK.out,hyl];exact lookF_false _ _
  have hKx:lookF x.vs b false=K:=by rw [←HK.out,hyl,hym]
  rw [hKx] at hvf;rw [HK.out];unfold xvY;by_cases hk:K.1=0
  ·rw [if_pos hk];refine ⟨?_,HNG.out.1.fail _ _,by rw [xfail_left];exact HNG.out.2.2.1,by rw [xfail_i];exact HNG.out.2.1⟩;unfold pvarF;have ha:(if 0<(varF [63,b] 63 x.vs false).1 then some ((varF [63,b] 63 x.vs false).1,x.ps) else none)=none:=by rw [hvf,if_neg (by omega)]
   rw [wrd_bad (z:=x.ps) k2 (by rw [hb];exact ha),k3,←Hoff.out];exact ResX.err (fun _=>k1) (fun q=>absurd k1 q)
  ·rw [if_neg hk,hK];refine ⟨?_,HNG.out.1,HNG.out.2.2.1,HNG.out.2.1⟩;unfold pvarF;have ha:(if 0<(varF [63,b] 63 x.vs false).1 then some ((varF [63,b] 63 x.vs false).1,x.ps) else none)=some (K.1,x.ps):=by rw [hvf,if_pos (by omega)]
   rw [wrd_good (z:=x.ps) k2 (by rw [hb];rfl) (u:=x.ps) (a:=K.1) (by rw [hb];exact ha)];show ResX x y1 _ _;rw [k3];exact ⟨fun _=>⟨k1,rfl,rfl⟩,fun q=>absurd k1 q⟩
 obtain ⟨r,Hr⟩:=nm (pvarF T fin x.ps);rw [Hr.out] at HRB HRG ⊢;clear h hx hT HTK HTS;by_cases h2:s.length=2
 ·obtain ⟨a,b,rfl⟩:∃a b,s=[a,b]:=by
   match s,h2 with
   | [a,b],_=>exact ⟨a,b,rfl⟩
  have hsl1:∀W,(Instr.slice 9 (.string qs) (some (.int .i64 (1:Int))) none none).run Tryz.prog W=.ok (.string (kstr [b])) W:=fun W=>by
   have:=run_from_str (s:=[a,b]) (n:=2) (i:=1) rfl (by omega) W;rw [Hqs.out] at this;exact this
  have CL:=h_ (fun W=>xIsLetter_c (kstr [b]) W);rw [kx_kstr,show isLt [b]=isLw b from rfl] at CL;have hqz2:qs.size=2:=hqz;have i0:=fun W=>run_at_str hqz2 (show 0<2 by omega) W
  rw [←Hqs.out,kx_kstr,show ([a,b]:Bs).getD 0 0=a from rfl,show ((0:Nat):Int)=0 from rfl,Hqs.out] at i0;obtain ⟨qb,Hqb⟩:=nm (kstr [b]);rw [Hqb.out] at hsl1 CL;obtain ⟨lw,Hlw⟩:=nm (isLw b);rw [Hlw.out] at CL;clear h2 hqz;by_cases h63:a.toNat=63
  ·obtain rfl:a=63:=UInt8.toNat_inj.1 h63;have f63:((((63:UInt8).toNat:Nat):Int) != 63)=false:=rfl
   cases lw with
   | false =>
    have HR:=h_ (HRB.out (fun b' e hb=>by injection e with _ e;injection e with e _;subst e;rw [Hlw.out] at hb;cases hb));clear HRB HRG h63;go_enter Tryz.func108,Tryz.ntmps108;go_wp2_with fail
    refine CO.out.mono ?_;rintro e w2 ⟨rfl,u2⟩;have CN2:=h_ (CN.out _ u2);go_wp2_with fail
    refine CN2.out.mono ?_;rintro e w3 ⟨rfl,h3,u3⟩;have H3:=h_ h3;have U3:Hid (Upd (·=p) w w3):=(upd_eq u2).trans u3 (fun _ _ e=>e);clear CO CN CN2 h3 u2 u3;go_wp2_with fail
    refine (CL.out _).mono ?_;rintro e w4 ⟨rfl,rfl⟩;have CF:=h_ (xFail_c H3.out 2 off);go_wp2_with fail
    refine CF.out.mono ?_;rintro e w9 ⟨rfl,h9,u9⟩;go_wp2_with fail
    go_ret;exact ⟨0,y1.fail 2 off,rfl,h9,HNG.out.1.fail _ _,by rw [xfail_left];exact HNG.out.2.2.1,by rw [xfail_i];exact HNG.out.2.1,U3.out.trans u9 (fun _ _ e=>e),HR.out⟩
   | true =>
    have HRS:=h_ (HRG.out b rfl Hlw.out);clear HRB HRG h63;go_enter Tryz.func108,Tryz.ntmps108;go_wp2_with fail
    refine CO.out.mono ?_;rintro e w2 ⟨rfl,u2⟩;have CN2:=h_ (CN.out _ u2);go_wp2_with fail
    refine CN2.out.mono ?_;rintro e w3 ⟨rfl,h3,u3⟩;have H3:=h_ h3;have U3:Hid (Upd (·=p) w w3):=(upd_eq u2).trans u3 (fun _ _ e=>e);clear CO CN CN2 h3 u2 u3;go_wp2_with fail
    refine (CL.out _).mono ?_;rintro e w4 ⟨rfl,rfl⟩;clear CL
    go_upto_region 6 with fail
    obtain ⟨wD,HwD⟩:=nm w4.drew;have uD:Upd Non w4 wD:=by rw [←HwD.out];exact Upd.refl.drew
    have CK:=h_ (xVariable_g (H3.out.non uD) 5 y1.vs (fun v=>{ y1 with vs:=v }) rfl (fun v=>rfl) (by have h5:=HNG.out.1.2.1;have h6:=HNG.out.1.1;omega) b off)
    rw [Hqb.out] at CK;refine wp_region_held_drew (S:=fun _=>True) (by kernel_rfl) trivial (fun hHeld=>?_);rw [HwD.out];refine wpT 0 ?_;(try simp only [y_,z_]);refine wpT 1 ?_;(try simp only [y_,z_]);refine wpT 2 ?_;(try simp only [y_,z_]);refine wpT 3 ?_;(try simp only [y_,z_]);refine wpT 4 ?_;(try simp only [y_,z_]);refine wpT 5 ?_;(try simp only [y_,z_]);refine wpT 6 ?_;(try simp only [y_,z_]);refine aR_ (rs:=[7]) (by kernel_rfl) (by simp) ?_;refine aC_ rfl (fun K hK=>?_) aN_;go_simp;refine CK.out.mono ?_;rintro e w7 ⟨rfl,h7,u7⟩;go_wp2_with fail
    refine hK.out _ _ ?_ (fun hHeld=>?_)
    ·exact trivial
    clear hK K;(try simp only [y_,z_]);refine wpT 8 ?_;(try simp only [y_,z_]);refine aD_ (by kernel_rfl) ?_ _;go_wp2_with fail
    go_ret;exact ⟨_,_,rfl,h7,HRS.out.2.1,HRS.out.2.2.1,HRS.out.2.2.2,(U3.out.then_non uD).trans u7 (fun _ _ e=>e),HRS.out.1⟩
  ·have f63:(((a.toNat:Nat):Int) != 63)=true:=by simp;omega
   have HR:=h_ (HRB.out (fun b' e hb=>by injection e with e _;subst e;exact h63 rfl));clear HRB HRG h63;go_enter Tryz.func108,Tryz.ntmps108;go_wp2_with fail
   refine CO.out.mono ?_;rintro e w2 ⟨rfl,u2⟩;have CN2:=h_ (CN.out _ u2);go_wp2_with fail
   refine CN2.out.mono ?_;rintro e w3 ⟨rfl,h3,u3⟩;have H3:=h_ h3;have U3:Hid (Upd (·=p) w w3):=(upd_eq u2).trans u3 (fun _ _ e=>e);clear CO CN CN2 h3 u2 u3;have CF:=h_ (xFail_c H3.out 2 off);go_wp2_with fail
   refine CF.out.mono ?_;rintro e w9 ⟨rfl,h9,u9⟩;go_wp2_with fail
   go_ret;exact ⟨0,y1.fail 2 off,rfl,h9,HNG.out.1.fail _ _,by rw [xfail_left];exact HNG.out.2.2.1,by rw [xfail_i];exact HNG.out.2.1,U3.out.trans u9 (fun _ _ e=>e),HR.out⟩
 ·have fm:(((s.length:Nat):Int) != 2)=true:=by simp;omega
  obtain ⟨m,Hm⟩:=nm s.length;rw [Hm.out] at fm hqz;have HR:=h_ (HRB.out (fun b' e hb=>h2 (by rw [e];rfl)));clear HRB HRG h2;go_enter Tryz.func108,Tryz.ntmps108;go_wp2_with fail
  refine CO.out.mono ?_;rintro e w2 ⟨rfl,u2⟩;have CN2:=h_ (CN.out _ u2);go_wp2_with fail
  refine CN2.out.mono ?_;rintro e w3 ⟨rfl,h3,u3⟩;have H3:=h_ h3;have U3:Hid (Upd (·=p) w w3):=(upd_eq u2).trans u3 (fun _ _ e=>e);clear CO CN CN2 h3 u2 u3;have CF:=h_ (xFail_c H3.out 2 off);go_wp2_with fail
  refine CF.out.mono ?_;rintro e w9 ⟨rfl,h9,u9⟩;go_wp2_with fail
  go_ret;exact ⟨0,y1.fail 2 off,rfl,h9,HNG.out.1.fail _ _,by rw [xfail_left];exact HNG.out.2.2.1,by rw [xfail_i];exact HNG.out.2.1,U3.out.trans u9 (fun _ _ e=>e),HR.out⟩
theorem ResX.bind {α β:Type} {x y z:Xs} {r1:Except Er (α×PS)} {a:α} {g:α→PS→Except Er (β×PS)} {Q:β→Prop} (h1:ResX x y r1 (fun v=>v=a)) (hne:∀e,r1=.error e→e.1≠0) (h2:ResX y z (g a y.ps) Q):ResX x z (bindE r1 fun v=>g v.1 v.2) Q:=by
 refine ⟨fun h0=>?_,fun h0=>?_⟩
 ·have h3:=h1.1 h0
  cases r1 with
  | error e =>
   have hy:y.why≠0:=by rw [h3.1];exact hne e rfl
   have h4:=h2.2 hy;exact ⟨h4.1.trans h3.1,h4.2.trans h3.2⟩
  | ok v =>
   obtain ⟨v,ps⟩:=v;obtain ⟨hy,rfl,rfl⟩:=h3;exact h2.1 hy
 ·have h3:=h1.2 h0;have h4:=h2.2 (by rw [h3.1];exact h0);exact ⟨h4.1.trans h3.1,h4.2.trans h3.2⟩
theorem ResX.pure {α:Type} {x:Xs} {v:α} {P:α→Prop} (h:P v):ResX x x (.ok (v,x.ps)) P:=⟨fun h0=>⟨h0,rfl,h⟩,fun _=>⟨rfl,rfl⟩⟩
section
variable (T:List (Bs×Nat)) (fin:Nat)
def pk2 (k a:Nat) (z:PS):Except Er (Cd×PS) :=
 if k=1 then .ok (⟨1,a,0,0⟩,z)
 else if k=2∨k=3 then bindE (numbF T fin z) fun v=>.ok (⟨k,a,0,v.1⟩,v.2)
 else if k=4 then bindE (pvarF T fin z) fun v=>.ok (⟨4,a,v.1,0⟩,v.2)
 else bindE (ivarF T fin z) fun v=>.ok (⟨k,a,v.1,0⟩,v.2)
def pk1 (k:Nat) (y:PS):Except Er (Cd×PS):=bindE (if k=6 then ivarF T fin y else pvarF T fin y) fun v=>pk2 T fin k v.1 v.2
theorem pcond_pk (x:PS):pcondF T fin x=bindE (kindF T fin x) fun v=>pk1 T fin v.1 v.2:=by
 unfold pcondF bindE
 cases kindF T fin x with
 | error e=>rfl
 | ok v =>
  obtain ⟨k,y⟩:=v;dsimp only;unfold pk1 bindE
  cases (if k=6 then ivarF T fin y else pvarF T fin y) with
  | error e=>rfl
  | ok v =>
   obtain ⟨a,z⟩:=v;dsimp only;unfold pk2 bindE
   split
   ·rfl
   ·split
    ·cases numbF T fin z <;> rfl
    ·split
     ·cases pvarF T fin z <;> rfl
     ·cases ivarF T fin z <;> rfl
end
def XCondP (w:World) (p:Nat) (A:Option Addr) (c:Nat) (T:List (Bs×Nat)) (fin:Nat) (x:Xs) (r:Except Er (Cd×PS)) (e:Ending) (w':World):Prop :=
 ∃(cd:Cd) (y:Xs),e=.returned (.agg #[.int .i64 cd.kind,.int .i64 cd.a,.int .i64 cd.b,.int .i64 cd.n])∧XdS w' p A c T fin y∧GoodX T y∧y.left=x.left∧x.i≤y.i∧Upd (·=p) w w'∧ResX x y r (fun v=>v=cd)
set_option maxRecDepth 100000 in
set_option maxHeartbeats 4000000 in
theorem xCond_c {T:List (Bs×Nat)} {fin:Nat} (hT:XOk T) {w:World} {p:Nat} {A:Option Addr} {c:Nat} {x:Xs} (h:XdS w p A c T fin x) (hx:GoodX T x) (hl:x.left=false) :
  Calls Tryz.prog 84 #[.pointer (some ⟨p,0,none⟩)] w (XCondP w p A c T fin x (pcondF T fin x.ps)):=by
 have hTl:=hT.len;have hxi:=hx.1;obtain ⟨W1,HW1⟩:=nm (w.alloc (.cells #[.int .i64 0,.int .i64 0,.int .i64 0,.int .i64 0] 69));have u1:Upd Non w W1:=by rw [←HW1.out];exact Upd.refl.alloc _
 have b1:Blk W1 w.heap.size 69 #[.int .i64 0,.int .i64 0,.int .i64 0,.int .i64 0]:=by rw [←HW1.out];exact Blk.new _ _ _
 have e1:=HW1.out;have hpw:p<w.heap.size:=h.blk.lt;have CO:=h_ (xOffset_c (h.non u1));have CN:=h_ (fun W (u:Upd Non W1 W)=>xNext_c ((h.non u1).non u) (by omega));have HX:=h_ hx;have HB1:=h_ b1;have HU1:=h_ u1;have HNG:=h_ (nxY_good (fin:=fin) hx)
 have HTK:Hid (nxS T x≠[]→x.why=0∧tkF T x.i=some (nxS T x)∧nxY T fin x={ x with i:=x.i+1 }∧x.i<T.length):=fun hne=>by
  by_cases q:x.why=0∧x.i<T.length
  ·obtain ⟨t,ht⟩:=tk_some q.2;obtain ⟨e1,e2,e3⟩:=nx_some (fin:=fin) q.1 ht;rw [e1];exact ⟨q.1,ht,e2,e3⟩
  ·exact absurd (nx_none (fin:=fin) q).1 hne
 have HTS:Hid (∀t,x.why=0→tkF T x.i=some t→t=nxS T x):=fun t h0 ht=>(nx_some (fin:=fin) h0 ht).1.symm
 obtain ⟨off,Hoff⟩:=nm (offF T fin x.i);obtain ⟨s,Hs⟩:=nm (nxS T x);obtain ⟨y1,Hy1⟩:=nm (nxY T fin x);rw [Hs.out] at CN HTK HTS;rw [Hy1.out] at CN HNG HTK;rw [Hoff.out] at CO;have HL1:Hid (y1.left=false):=HNG.out.2.2.1.trans hl;have HG1:=h_ HNG.out.1;obtain ⟨qs,Hqs⟩:=nm (kstr s);rw [Hqs.out] at CN;have HXT:=h_ hT;clear u1 b1 HW1;by_cases h1:s=[110,111,110,122,101,114,111]
 ·subst h1;obtain ⟨k1,k2,k3,k4⟩:=HTK.out (by simp);have t1:(qs.toList==[110,111,110,122,101,114,111])=true:=by rw [←Hqs.out,xktl];rfl
  have HRK:Hid (ResX x y1 (kindF T fin x.ps) (fun v=>v=1)):=by
   show ResX _ _ _ _;unfold kindF;rw [wrd_good (z:=x.ps) k2 rfl (u:=x.ps) (a:=1) rfl,k3];exact ⟨fun _=>⟨k1,rfl,rfl⟩,fun q=>absurd k1 q⟩
  clear HTK HTS k1 k2 k3 k4;go_enter Tryz.func84,Tryz.ntmps84;go_wp2_with fail
  refine CO.out.mono ?_;rintro e w2 ⟨rfl,u2⟩;obtain ⟨W3,HW3⟩:=nm (w2.alloc (.cells #[.int .i64 0,.int .i64 0,.int .i64 0,.int .i64 0] 69));have u3:Upd Non w2 W3:=by rw [←HW3.out];exact Upd.refl.alloc _
  have b3:Blk W3 w2.heap.size 69 #[.int .i64 0,.int .i64 0,.int .i64 0,.int .i64 0]:=by rw [←HW3.out];exact Blk.new _ _ _
  have e3:=HW3.out;have hg2:w.heap.size<w2.heap.size:=by have:=HB1.out.lt;have:=u2.size;omega
  have CN3:=h_ (CN.out _ (u2.then_non u3));clear e1 HW3;go_wp2_with fail
  refine CN3.out.mono ?_;rintro e w4 ⟨rfl,h4,u4⟩;have H4:=h_ h4;have U4:Hid (Upd (·=p) w w4):=(upd_eq ((HU1.out.then_non u2).then_non u3)).trans u4 (fun _ _ e=>e);have HR4:=h_ (((HB1.out.upd u2 (fun f=>f)).upd u3 (fun f=>f)).upd u4 (by omega));have hc4:=b3.upd u4 (by omega);have z0:=hc4.cell 0;have zf:=hc4.frozen;have HC4:=h_ hc4;obtain ⟨g,Hgn⟩:=nm w2.heap.size;rw [Hgn.out] at hg2 z0 zf HC4 ⊢;clear CO CN CN3 h4 u2 u3 u4 b3 e3 hc4 HB1 HU1;obtain ⟨w5,Hw5⟩:=nm (w4.setCell ⟨g,0,none⟩ (.int .i64 1));have e5:=Hw5.out;have u5:Upd (·=g) w4 w5:=by rw [←e5];exact updCell _ _ _ _
  have hb5:Blk w5 g 69 #[.int .i64 1,.int .i64 0,.int .i64 0,.int .i64 0]:=by rw [←e5];simpa using HC4.out.set_ 0 (.int .i64 1)
  have H5:=h_ (H4.out.upd u5 (fun k _ e=>by omega));have HR5:=h_ (HR4.out.upd u5 (by omega));have U5:Hid (Upd (·=p) w w5):=U4.out.trans u5 (fun k hk e=>by omega);have HC5:=h_ hb5;clear u5 hb5;have CA:=h_ (xPatternVar_c HXT.out H5.out HG1.out HL1.out);go_wp2_with fail
  refine CA.out.mono ?_;rintro e w6 hw;obtain ⟨a,y2,ev,hd,hgd,hld,hid,ud,hrd⟩:=hw;subst ev;have H6:=h_ hd;have HG2:=h_ hgd;have HL2:Hid (y2.left=false):=hld.trans HL1.out;have HI2:=h_ hid;have HRS2:=h_ hrd;have HR6:=h_ (HR5.out.upd ud (by omega));have hc:=HC5.out.upd ud (by omega);have U6:Hid (Upd (·=p) w w6):=U5.out.trans ud (fun _ _ e=>e);have v1:=hc.cell 1;have vf:=hc.frozen 1;clear e5 CA hd hgd hld hid ud hrd z0 zf;obtain ⟨w7,Hw7⟩:=nm (w6.setCell ⟨g,1,none⟩ (.int .i64 (a:Nat)));have e7:=Hw7.out;have us:Upd (·=g) w6 w7:=by rw [←e7];exact updCell _ _ _ _
  have hb:Blk w7 g 69 #[.int .i64 1,.int .i64 (a:Nat),.int .i64 0,.int .i64 0]:=by rw [←e7];simpa using hc.set_ 1 (.int .i64 (a:Nat))
  have H7:=h_ (H6.out.upd us (fun k _ e=>by omega));have HR7:=h_ (HR6.out.upd us (by omega));have U7:Hid (Upd (·=p) w w7):=U6.out.trans us (fun k hk e=>by omega);have HC7:=h_ hb;clear us hb hc;have HCF:=HC7;have HRF:=HR7;obtain ⟨wF,HwF⟩:=nm w7;rw [HwF.out] at e7 HCF HRF;have g0:=HCF.out.cell 0;have g1:=HCF.out.cell 1;have g2:=HCF.out.cell 2;have g3:=HCF.out.cell 3;have r0:=HRF.out.cell 0;have r1:=HRF.out.cell 1;have r2:=HRF.out.cell 2;have r3:=HRF.out.cell 3;have rf:=HRF.out.frozen;go_wp2_with fail
  rw [set4_eq];refine bodyPost_ret (results_cell_row rfl _ _ w.heap.size 69 _ (0,0) _ rfl (set4_blk HRF.out _ _ _ _) Tryz.underlying69 rfl (by kernel_rfl)) rfl ?_;have us:=set4_upd wF w.heap.size;have hXF:=H7.out;have hUF:=U7.out;rw [HwF.out] at hXF hUF;refine ⟨⟨1,(a:Nat),0,0⟩,y2,rfl,hXF.upd (us _ _ _ _) (fun k _ e=>by omega),HG2.out,HL2.out.trans hl.symm,by have q1:=HNG.out.2.1;have q2:=HI2.out;omega,hUF.trans (us _ _ _ _) (fun k hk e=>by omega),?_⟩
  rw [pcond_pk];refine ResX.bind HRK.out (fun e he=>wrdF_err he) ?_;unfold pk1;rw [if_neg (by decide)];refine ResX.bind HRS2.out (fun e he=>wrdF_err he) ?_;unfold pk2;rw [if_pos rfl];exact ResX.pure rfl
 ·skip;by_cases h2:s=[108,101,97,115,116]
  ·subst h2;obtain ⟨k1,k2,k3,k4⟩:=HTK.out (by simp);have t1:(qs.toList==[110,111,110,122,101,114,111])=false:=by rw [←Hqs.out,xktl];rfl
   have t2:(qs.toList==[108,101,97,115,116])=true:=by rw [←Hqs.out,xktl];rfl
   have HRK:Hid (ResX x y1 (kindF T fin x.ps) (fun v=>v=2)):=by
    show ResX _ _ _ _;unfold kindF;rw [wrd_good (z:=x.ps) k2 rfl (u:=x.ps) (a:=2) rfl,k3];exact ⟨fun _=>⟨k1,rfl,rfl⟩,fun q=>absurd k1 q⟩
   clear HTK HTS k1 k2 k3 k4 h1;go_enter Tryz.func84,Tryz.ntmps84;go_wp2_with fail
   refine CO.out.mono ?_;rintro e w2 ⟨rfl,u2⟩;obtain ⟨W3,HW3⟩:=nm (w2.alloc (.cells #[.int .i64 0,.int .i64 0,.int .i64 0,.int .i64 0] 69));have u3:Upd Non w2 W3:=by rw [←HW3.out];exact Upd.refl.alloc _
   have b3:Blk W3 w2.heap.size 69 #[.int .i64 0,.int .i64 0,.int .i64 0,.int .i64 0]:=by rw [←HW3.out];exact Blk.new _ _ _
   have e3:=HW3.out;have hg2:w.heap.size<w2.heap.size:=by have:=HB1.out.lt;have:=u2.size;omega
   have CN3:=h_ (CN.out _ (u2.then_non u3));clear e1 HW3;go_wp2_with fail
   refine CN3.out.mono ?_;rintro e w4 ⟨rfl,h4,u4⟩;have H4:=h_ h4;have U4:Hid (Upd (·=p) w w4):=(upd_eq ((HU1.out.then_non u2).then_non u3)).trans u4 (fun _ _ e=>e);have HR4:=h_ (((HB1.out.upd u2 (fun f=>f)).upd u3 (fun f=>f)).upd u4 (by omega));have hc4:=b3.upd u4 (by omega);have z0:=hc4.cell 0;have zf:=hc4.frozen;have HC4:=h_ hc4;obtain ⟨g,Hgn⟩:=nm w2.heap.size;rw [Hgn.out] at hg2 z0 zf HC4 ⊢;clear CO CN CN3 h4 u2 u3 u4 b3 e3 hc4 HB1 HU1;obtain ⟨w5,Hw5⟩:=nm (w4.setCell ⟨g,0,none⟩ (.int .i64 2));have e5:=Hw5.out;have u5:Upd (·=g) w4 w5:=by rw [←e5];exact updCell _ _ _ _
   have hb5:Blk w5 g 69 #[.int .i64 2,.int .i64 0,.int .i64 0,.int .i64 0]:=by rw [←e5];simpa using HC4.out.set_ 0 (.int .i64 2)
   have H5:=h_ (H4.out.upd u5 (fun k _ e=>by omega));have HR5:=h_ (HR4.out.upd u5 (by omega));have U5:Hid (Upd (·=p) w w5):=U4.out.trans u5 (fun k hk e=>by omega);have HC5:=h_ hb5;clear u5 hb5;have CA:=h_ (xPatternVar_c HXT.out H5.out HG1.out HL1.out);go_wp2_with fail
   refine CA.out.mono ?_;rintro e w6 hw;obtain ⟨a,y2,ev,hd,hgd,hld,hid,ud,hrd⟩:=hw;subst ev;have H6:=h_ hd;have HG2:=h_ hgd;have HL2:Hid (y2.left=false):=hld.trans HL1.out;have HI2:=h_ hid;have HRS2:=h_ hrd;have HR6:=h_ (HR5.out.upd ud (by omega));have hc:=HC5.out.upd ud (by omega);have U6:Hid (Upd (·=p) w w6):=U5.out.trans ud (fun _ _ e=>e);have v1:=hc.cell 1;have vf:=hc.frozen 1;clear e5 CA hd hgd hld hid ud hrd z0 zf;obtain ⟨w7,Hw7⟩:=nm (w6.setCell ⟨g,1,none⟩ (.int .i64 (a:Nat)));have e7:=Hw7.out;have us:Upd (·=g) w6 w7:=by rw [←e7];exact updCell _ _ _ _
   have hb:Blk w7 g 69 #[.int .i64 2,.int .i64 (a:Nat),.int .i64 0,.int .i64 0]:=by rw [←e7];simpa using hc.set_ 1 (.int .i64 (a:Nat))
   have H7:=h_ (H6.out.upd us (fun k _ e=>by omega));have HR7:=h_ (HR6.out.upd us (by omega));have U7:Hid (Upd (·=p) w w7):=U6.out.trans us (fun k hk e=>by omega);have HC7:=h_ hb;clear us hb hc;have CA:=h_ (xNumber_c HXT.out H7.out HG2.out);go_wp2_with fail
   refine CA.out.mono ?_;rintro e w8 hw;obtain ⟨b,y3,ev,hd,hgd,hld,hid,ud,hrd⟩:=hw;subst ev;have H8:=h_ hd;have HG3:=h_ hgd;have HL3:Hid (y3.left=false):=hld.trans HL2.out;have HI3:=h_ hid;have HRS3:=h_ hrd;have HR8:=h_ (HR7.out.upd ud (by omega));have hc:=HC7.out.upd ud (by omega);have U8:Hid (Upd (·=p) w w8):=U7.out.trans ud (fun _ _ e=>e);have v3:=hc.cell 3;have vf:=hc.frozen 3;clear e7 CA hd hgd hld hid ud hrd;obtain ⟨w9,Hw9⟩:=nm (w8.setCell ⟨g,3,none⟩ (.int .i64 b));have e9:=Hw9.out;have us:Upd (·=g) w8 w9:=by rw [←e9];exact updCell _ _ _ _
   have hb:Blk w9 g 69 #[.int .i64 2,.int .i64 (a:Nat),.int .i64 0,.int .i64 b]:=by rw [←e9];simpa using hc.set_ 3 (.int .i64 b)
   have H9:=h_ (H8.out.upd us (fun k _ e=>by omega));have HR9:=h_ (HR8.out.upd us (by omega));have U9:Hid (Upd (·=p) w w9):=U8.out.trans us (fun k hk e=>by omega);have HC9:=h_ hb;clear us hb hc;have HCF:=HC9;have HRF:=HR9;obtain ⟨wF,HwF⟩:=nm w9;rw [HwF.out] at e9 HCF HRF;have g0:=HCF.out.cell 0;have g1:=HCF.out.cell 1;have g2:=HCF.out.cell 2;have g3:=HCF.out.cell 3;have r0:=HRF.out.cell 0;have r1:=HRF.out.cell 1;have r2:=HRF.out.cell 2;have r3:=HRF.out.cell 3;have rf:=HRF.out.frozen;go_wp2_with fail
   rw [set4_eq];refine bodyPost_ret (results_cell_row rfl _ _ w.heap.size 69 _ (0,0) _ rfl (set4_blk HRF.out _ _ _ _) Tryz.underlying69 rfl (by kernel_rfl)) rfl ?_;have us:=set4_upd wF w.heap.size;have hXF:=H9.out;have hUF:=U9.out;rw [HwF.out] at hXF hUF;refine ⟨⟨2,(a:Nat),0,b⟩,y3,rfl,hXF.upd (us _ _ _ _) (fun k _ e=>by omega),HG3.out,HL3.out.trans hl.symm,by have q1:=HNG.out.2.1;have q2:=HI2.out;have q3:=HI3.out;omega,hUF.trans (us _ _ _ _) (fun k hk e=>by omega),?_⟩
   rw [pcond_pk];refine ResX.bind HRK.out (fun e he=>wrdF_err he) ?_;unfold pk1;rw [if_neg (by decide)];refine ResX.bind HRS2.out (fun e he=>wrdF_err he) ?_;unfold pk2;rw [if_neg (by decide),if_pos (by decide)];refine ResX.bind (g:=fun v ps=>(Except.ok ((⟨((2:Nat):Int),(a:Nat),0,v⟩:Cd),ps):Except Er (Cd×PS))) HRS3.out (fun e he=>wrdF_err he) ?_
   exact ResX.pure rfl
  ·skip;by_cases h3:s=[109,111,115,116]
   ·subst h3;obtain ⟨k1,k2,k3,k4⟩:=HTK.out (by simp);have t1:(qs.toList==[110,111,110,122,101,114,111])=false:=by rw [←Hqs.out,xktl];rfl
    have t2:(qs.toList==[108,101,97,115,116])=false:=by rw [←Hqs.out,xktl];rfl
    have t3:(qs.toList==[109,111,115,116])=true:=by rw [←Hqs.out,xktl];rfl
    have HRK:Hid (ResX x y1 (kindF T fin x.ps) (fun v=>v=3)):=by
     show ResX _ _ _ _;unfold kindF;rw [wrd_good (z:=x.ps) k2 rfl (u:=x.ps) (a:=3) rfl,k3];exact ⟨fun _=>⟨k1,rfl,rfl⟩,fun q=>absurd k1 q⟩
    clear HTK HTS k1 k2 k3 k4 h1 h2;go_enter Tryz.func84,Tryz.ntmps84;go_wp2_with fail
    refine CO.out.mono ?_;rintro e w2 ⟨rfl,u2⟩;obtain ⟨W3,HW3⟩:=nm (w2.alloc (.cells #[.int .i64 0,.int .i64 0,.int .i64 0,.int .i64 0] 69));have u3:Upd Non w2 W3:=by rw [←HW3.out];exact Upd.refl.alloc _
    have b3:Blk W3 w2.heap.size 69 #[.int .i64 0,.int .i64 0,.int .i64 0,.int .i64 0]:=by rw [←HW3.out];exact Blk.new _ _ _
    have e3:=HW3.out;have hg2:w.heap.size<w2.heap.size:=by have:=HB1.out.lt;have:=u2.size;omega
    have CN3:=h_ (CN.out _ (u2.then_non u3));clear e1 HW3;go_wp2_with fail
    refine CN3.out.mono ?_;rintro e w4 ⟨rfl,h4,u4⟩;have H4:=h_ h4;have U4:Hid (Upd (·=p) w w4):=(upd_eq ((HU1.out.then_non u2).then_non u3)).trans u4 (fun _ _ e=>e);have HR4:=h_ (((HB1.out.upd u2 (fun f=>f)).upd u3 (fun f=>f)).upd u4 (by omega));have hc4:=b3.upd u4 (by omega);have z0:=hc4.cell 0;have zf:=hc4.frozen;have HC4:=h_ hc4;obtain ⟨g,Hgn⟩:=nm w2.heap.size;rw [Hgn.out] at hg2 z0 zf HC4 ⊢;clear CO CN CN3 h4 u2 u3 u4 b3 e3 hc4 HB1 HU1;obtain ⟨w5,Hw5⟩:=nm (w4.setCell ⟨g,0,none⟩ (.int .i64 3));have e5:=Hw5.out;have u5:Upd (·=g) w4 w5:=by rw [←e5];exact updCell _ _ _ _
    have hb5:Blk w5 g 69 #[.int .i64 3,.int .i64 0,.int .i64 0,.int .i64 0]:=by rw [←e5];simpa using HC4.out.set_ 0 (.int .i64 3)
    have H5:=h_ (H4.out.upd u5 (fun k _ e=>by omega));have HR5:=h_ (HR4.out.upd u5 (by omega));have U5:Hid (Upd (·=p) w w5):=U4.out.trans u5 (fun k hk e=>by omega);have HC5:=h_ hb5;clear u5 hb5;have CA:=h_ (xPatternVar_c HXT.out H5.out HG1.out HL1.out);go_wp2_with fail
    refine CA.out.mono ?_;rintro e w6 hw;obtain ⟨a,y2,ev,hd,hgd,hld,hid,ud,hrd⟩:=hw;subst ev;have H6:=h_ hd;have HG2:=h_ hgd;have HL2:Hid (y2.left=false):=hld.trans HL1.out;have HI2:=h_ hid;have HRS2:=h_ hrd;have HR6:=h_ (HR5.out.upd ud (by omega));have hc:=HC5.out.upd ud (by omega);have U6:Hid (Upd (·=p) w w6):=U5.out.trans ud (fun _ _ e=>e);have v1:=hc.cell 1;have vf:=hc.frozen 1;clear e5 CA hd hgd hld hid ud hrd z0 zf;obtain ⟨w7,Hw7⟩:=nm (w6.setCell ⟨g,1,none⟩ (.int .i64 (a:Nat)));have e7:=Hw7.out;have us:Upd (·=g) w6 w7:=by rw [←e7];exact updCell _ _ _ _
    have hb:Blk w7 g 69 #[.int .i64 3,.int .i64 (a:Nat),.int .i64 0,.int .i64 0]:=by rw [←e7];simpa using hc.set_ 1 (.int .i64 (a:Nat))
    have H7:=h_ (H6.out.upd us (fun k _ e=>by omega));have HR7:=h_ (HR6.out.upd us (by omega));have U7:Hid (Upd (·=p) w w7):=U6.out.trans us (fun k hk e=>by omega);have HC7:=h_ hb;clear us hb hc;have CA:=h_ (xNumber_c HXT.out H7.out HG2.out);go_wp2_with fail
    refine CA.out.mono ?_;rintro e w8 hw;obtain ⟨b,y3,ev,hd,hgd,hld,hid,ud,hrd⟩:=hw;subst ev;have H8:=h_ hd;have HG3:=h_ hgd;have HL3:Hid (y3.left=false):=hld.trans HL2.out;have HI3:=h_ hid;have HRS3:=h_ hrd;have HR8:=h_ (HR7.out.upd ud (by omega));have hc:=HC7.out.upd ud (by omega);have U8:Hid (Upd (·=p) w w8):=U7.out.trans ud (fun _ _ e=>e);have v3:=hc.cell 3;have vf:=hc.frozen 3;clear e7 CA hd hgd hld hid ud hrd;obtain ⟨w9,Hw9⟩:=nm (w8.setCell ⟨g,3,none⟩ (.int .i64 b));have e9:=Hw9.out;have us:Upd (·=g) w8 w9:=by rw [←e9];exact updCell _ _ _ _
    have hb:Blk w9 g 69 #[.int .i64 3,.int .i64 (a:Nat),.int .i64 0,.int .i64 b]:=by rw [←e9];simpa using hc.set_ 3 (.int .i64 b)
    have H9:=h_ (H8.out.upd us (fun k _ e=>by omega));have HR9:=h_ (HR8.out.upd us (by omega));have U9:Hid (Upd (·=p) w w9):=U8.out.trans us (fun k hk e=>by omega);have HC9:=h_ hb;clear us hb hc;have HCF:=HC9;have HRF:=HR9;obtain ⟨wF,HwF⟩:=nm w9;rw [HwF.out] at e9 HCF HRF;have g0:=HCF.out.cell 0;have g1:=HCF.out.cell 1;have g2:=HCF.out.cell 2;have g3:=HCF.out.cell 3;have r0:=HRF.out.cell 0;have r1:=HRF.out.cell 1;have r2:=HRF.out.cell 2;have r3:=HRF.out.cell 3;have rf:=HRF.out.frozen;go_wp2_with fail
    rw [set4_eq];refine bodyPost_ret (results_cell_row rfl _ _ w.heap.size 69 _ (0,0) _ rfl (set4_blk HRF.out _ _ _ _) Tryz.underlying69 rfl (by kernel_rfl)) rfl ?_;have us:=set4_upd wF w.heap.size;have hXF:=H9.out;have hUF:=U9.out;rw [HwF.out] at hXF hUF;refine ⟨⟨3,(a:Nat),0,b⟩,y3,rfl,hXF.upd (us _ _ _ _) (fun k _ e=>by omega),HG3.out,HL3.out.trans hl.symm,by have q1:=HNG.out.2.1;have q2:=HI2.out;have q3:=HI3.out;omega,hUF.trans (us _ _ _ _) (fun k hk e=>by omega),?_⟩
    rw [pcond_pk];refine ResX.bind HRK.out (fun e he=>wrdF_err he) ?_;unfold pk1;rw [if_neg (by decide)];refine ResX.bind HRS2.out (fun e he=>wrdF_err he) ?_;unfold pk2;rw [if_neg (by decide),if_pos (by decide)];refine ResX.bind (g:=fun v ps=>(Except.ok ((⟨((3:Nat):Int),(a:Nat),0,v⟩:Cd),ps):Except Er (Cd×PS))) HRS3.out (fun e he=>wrdF_err he) ?_
    exact ResX.pure rfl
   ·skip;by_cases h4:s=[97,112,97,114,116]
    ·subst h4;obtain ⟨k1,k2,k3,k4⟩:=HTK.out (by simp);have t1:(qs.toList==[110,111,110,122,101,114,111])=false:=by rw [←Hqs.out,xktl];rfl
     have t2:(qs.toList==[108,101,97,115,116])=false:=by rw [←Hqs.out,xktl];rfl
     have t3:(qs.toList==[109,111,115,116])=false:=by rw [←Hqs.out,xktl];rfl
     have t4:(qs.toList==[97,112,97,114,116])=true:=by rw [←Hqs.out,xktl];rfl
     have HRK:Hid (ResX x y1 (kindF T fin x.ps) (fun v=>v=4)):=by
      show ResX _ _ _ _;unfold kindF;rw [wrd_good (z:=x.ps) k2 rfl (u:=x.ps) (a:=4) rfl,k3];exact ⟨fun _=>⟨k1,rfl,rfl⟩,fun q=>absurd k1 q⟩
     clear HTK HTS k1 k2 k3 k4 h1 h2 h3;go_enter Tryz.func84,Tryz.ntmps84;go_wp2_with fail
     refine CO.out.mono ?_;rintro e w2 ⟨rfl,u2⟩;obtain ⟨W3,HW3⟩:=nm (w2.alloc (.cells #[.int .i64 0,.int .i64 0,.int .i64 0,.int .i64 0] 69));have u3:Upd Non w2 W3:=by rw [←HW3.out];exact Upd.refl.alloc _
     have b3:Blk W3 w2.heap.size 69 #[.int .i64 0,.int .i64 0,.int .i64 0,.int .i64 0]:=by rw [←HW3.out];exact Blk.new _ _ _
     have e3:=HW3.out;have hg2:w.heap.size<w2.heap.size:=by have:=HB1.out.lt;have:=u2.size;omega
     have CN3:=h_ (CN.out _ (u2.then_non u3));clear e1 HW3;go_wp2_with fail
     refine CN3.out.mono ?_;rintro e w4 ⟨rfl,h4,u4⟩;have H4:=h_ h4;have U4:Hid (Upd (·=p) w w4):=(upd_eq ((HU1.out.then_non u2).then_non u3)).trans u4 (fun _ _ e=>e);have HR4:=h_ (((HB1.out.upd u2 (fun f=>f)).upd u3 (fun f=>f)).upd u4 (by omega));have hc4:=b3.upd u4 (by omega);have z0:=hc4.cell 0;have zf:=hc4.frozen;have HC4:=h_ hc4;obtain ⟨g,Hgn⟩:=nm w2.heap.size;rw [Hgn.out] at hg2 z0 zf HC4 ⊢;clear CO CN CN3 h4 u2 u3 u4 b3 e3 hc4 HB1 HU1;obtain ⟨w5,Hw5⟩:=nm (w4.setCell ⟨g,0,none⟩ (.int .i64 4));have e5:=Hw5.out;have u5:Upd (·=g) w4 w5:=by rw [←e5];exact updCell _ _ _ _
     have hb5:Blk w5 g 69 #[.int .i64 4,.int .i64 0,.int .i64 0,.int .i64 0]:=by rw [←e5];simpa using HC4.out.set_ 0 (.int .i64 4)
     have H5:=h_ (H4.out.upd u5 (fun k _ e=>by omega));have HR5:=h_ (HR4.out.upd u5 (by omega));have U5:Hid (Upd (·=p) w w5):=U4.out.trans u5 (fun k hk e=>by omega);have HC5:=h_ hb5;clear u5 hb5;have CA:=h_ (xPatternVar_c HXT.out H5.out HG1.out HL1.out);go_wp2_with fail
     refine CA.out.mono ?_;rintro e w6 hw;obtain ⟨a,y2,ev,hd,hgd,hld,hid,ud,hrd⟩:=hw;subst ev;have H6:=h_ hd;have HG2:=h_ hgd;have HL2:Hid (y2.left=false):=hld.trans HL1.out;have HI2:=h_ hid;have HRS2:=h_ hrd;have HR6:=h_ (HR5.out.upd ud (by omega));have hc:=HC5.out.upd ud (by omega);have U6:Hid (Upd (·=p) w w6):=U5.out.trans ud (fun _ _ e=>e);have v1:=hc.cell 1;have vf:=hc.frozen 1;clear e5 CA hd hgd hld hid ud hrd z0 zf;obtain ⟨w7,Hw7⟩:=nm (w6.setCell ⟨g,1,none⟩ (.int .i64 (a:Nat)));have e7:=Hw7.out;have us:Upd (·=g) w6 w7:=by rw [←e7];exact updCell _ _ _ _
     have hb:Blk w7 g 69 #[.int .i64 4,.int .i64 (a:Nat),.int .i64 0,.int .i64 0]:=by rw [←e7];simpa using hc.set_ 1 (.int .i64 (a:Nat))
     have H7:=h_ (H6.out.upd us (fun k _ e=>by omega));have HR7:=h_ (HR6.out.upd us (by omega));have U7:Hid (Upd (·=p) w w7):=U6.out.trans us (fun k hk e=>by omega);have HC7:=h_ hb;clear us hb hc;have CA:=h_ (xPatternVar_c HXT.out H7.out HG2.out HL2.out);go_wp2_with fail
     refine CA.out.mono ?_;rintro e w8 hw;obtain ⟨b,y3,ev,hd,hgd,hld,hid,ud,hrd⟩:=hw;subst ev;have H8:=h_ hd;have HG3:=h_ hgd;have HL3:Hid (y3.left=false):=hld.trans HL2.out;have HI3:=h_ hid;have HRS3:=h_ hrd;have HR8:=h_ (HR7.out.upd ud (by omega));have hc:=HC7.out.upd ud (by omega);have U8:Hid (Upd (·=p) w w8):=U7.out.trans ud (fun _ _ e=>e);have v2:=hc.cell 2;have vf:=hc.frozen 2;clear e7 CA hd hgd hld hid ud hrd;obtain ⟨w9,Hw9⟩:=nm (w8.setCell ⟨g,2,none⟩ (.int .i64 (b:Nat)));have e9:=Hw9.out;have us:Upd (·=g) w8 w9:=by rw [←e9];exact updCell _ _ _ _
     have hb:Blk w9 g 69 #[.int .i64 4,.int .i64 (a:Nat),.int .i64 (b:Nat),.int .i64 0]:=by rw [←e9];simpa using hc.set_ 2 (.int .i64 (b:Nat))
     have H9:=h_ (H8.out.upd us (fun k _ e=>by omega));have HR9:=h_ (HR8.out.upd us (by omega));have U9:Hid (Upd (·=p) w w9):=U8.out.trans us (fun k hk e=>by omega);have HC9:=h_ hb;clear us hb hc;have HCF:=HC9;have HRF:=HR9;obtain ⟨wF,HwF⟩:=nm w9;rw [HwF.out] at e9 HCF HRF;have g0:=HCF.out.cell 0;have g1:=HCF.out.cell 1;have g2:=HCF.out.cell 2;have g3:=HCF.out.cell 3;have r0:=HRF.out.cell 0;have r1:=HRF.out.cell 1;have r2:=HRF.out.cell 2;have r3:=HRF.out.cell 3;have rf:=HRF.out.frozen;go_wp2_with fail
     rw [set4_eq];refine bodyPost_ret (results_cell_row rfl _ _ w.heap.size 69 _ (0,0) _ rfl (set4_blk HRF.out _ _ _ _) Tryz.underlying69 rfl (by kernel_rfl)) rfl ?_;have us:=set4_upd wF w.heap.size;have hXF:=H9.out;have hUF:=U9.out;rw [HwF.out] at hXF hUF;refine ⟨⟨4,(a:Nat),(b:Nat),0⟩,y3,rfl,hXF.upd (us _ _ _ _) (fun k _ e=>by omega),HG3.out,HL3.out.trans hl.symm,by have q1:=HNG.out.2.1;have q2:=HI2.out;have q3:=HI3.out;omega,hUF.trans (us _ _ _ _) (fun k hk e=>by omega),?_⟩
     rw [pcond_pk];refine ResX.bind HRK.out (fun e he=>wrdF_err he) ?_;unfold pk1;rw [if_neg (by decide)];refine ResX.bind HRS2.out (fun e he=>wrdF_err he) ?_;unfold pk2;rw [if_neg (by decide),if_neg (by decide),if_pos rfl];refine ResX.bind (g:=fun v ps=>(Except.ok ((⟨4,(a:Nat),(v:Nat),0⟩:Cd),ps):Except Er (Cd×PS))) HRS3.out (fun e he=>wrdF_err he) ?_;exact ResX.pure rfl
    ·skip;by_cases h5:s=[105,110,115,105,100,101]
     ·subst h5;obtain ⟨k1,k2,k3,k4⟩:=HTK.out (by simp);have t1:(qs.toList==[110,111,110,122,101,114,111])=false:=by rw [←Hqs.out,xktl];rfl
      have t2:(qs.toList==[108,101,97,115,116])=false:=by rw [←Hqs.out,xktl];rfl
      have t3:(qs.toList==[109,111,115,116])=false:=by rw [←Hqs.out,xktl];rfl
      have t4:(qs.toList==[97,112,97,114,116])=false:=by rw [←Hqs.out,xktl];rfl
      have t5:(qs.toList==[105,110,115,105,100,101])=true:=by rw [←Hqs.out,xktl];rfl
      have HRK:Hid (ResX x y1 (kindF T fin x.ps) (fun v=>v=5)):=by
       show ResX _ _ _ _;unfold kindF;rw [wrd_good (z:=x.ps) k2 rfl (u:=x.ps) (a:=5) rfl,k3];exact ⟨fun _=>⟨k1,rfl,rfl⟩,fun q=>absurd k1 q⟩
      clear HTK HTS k1 k2 k3 k4 h1 h2 h3 h4;go_enter Tryz.func84,Tryz.ntmps84;go_wp2_with fail
      refine CO.out.mono ?_;rintro e w2 ⟨rfl,u2⟩;obtain ⟨W3,HW3⟩:=nm (w2.alloc (.cells #[.int .i64 0,.int .i64 0,.int .i64 0,.int .i64 0] 69));have u3:Upd Non w2 W3:=by rw [←HW3.out];exact Upd.refl.alloc _
      have b3:Blk W3 w2.heap.size 69 #[.int .i64 0,.int .i64 0,.int .i64 0,.int .i64 0]:=by rw [←HW3.out];exact Blk.new _ _ _
      have e3:=HW3.out;have hg2:w.heap.size<w2.heap.size:=by have:=HB1.out.lt;have:=u2.size;omega
      have CN3:=h_ (CN.out _ (u2.then_non u3));clear e1 HW3;go_wp2_with fail
      refine CN3.out.mono ?_;rintro e w4 ⟨rfl,h4,u4⟩;have H4:=h_ h4;have U4:Hid (Upd (·=p) w w4):=(upd_eq ((HU1.out.then_non u2).then_non u3)).trans u4 (fun _ _ e=>e);have HR4:=h_ (((HB1.out.upd u2 (fun f=>f)).upd u3 (fun f=>f)).upd u4 (by omega));have hc4:=b3.upd u4 (by omega);have z0:=hc4.cell 0;have zf:=hc4.frozen;have HC4:=h_ hc4;obtain ⟨g,Hgn⟩:=nm w2.heap.size;rw [Hgn.out] at hg2 z0 zf HC4 ⊢;clear CO CN CN3 h4 u2 u3 u4 b3 e3 hc4 HB1 HU1;obtain ⟨w5,Hw5⟩:=nm (w4.setCell ⟨g,0,none⟩ (.int .i64 5));have e5:=Hw5.out;have u5:Upd (·=g) w4 w5:=by rw [←e5];exact updCell _ _ _ _
      have hb5:Blk w5 g 69 #[.int .i64 5,.int .i64 0,.int .i64 0,.int .i64 0]:=by rw [←e5];simpa using HC4.out.set_ 0 (.int .i64 5)
      have H5:=h_ (H4.out.upd u5 (fun k _ e=>by omega));have HR5:=h_ (HR4.out.upd u5 (by omega));have U5:Hid (Upd (·=p) w w5):=U4.out.trans u5 (fun k hk e=>by omega);have HC5:=h_ hb5;clear u5 hb5;have CA:=h_ (xPatternVar_c HXT.out H5.out HG1.out HL1.out);go_wp2_with fail
      refine CA.out.mono ?_;rintro e w6 hw;obtain ⟨a,y2,ev,hd,hgd,hld,hid,ud,hrd⟩:=hw;subst ev;have H6:=h_ hd;have HG2:=h_ hgd;have HL2:Hid (y2.left=false):=hld.trans HL1.out;have HI2:=h_ hid;have HRS2:=h_ hrd;have HR6:=h_ (HR5.out.upd ud (by omega));have hc:=HC5.out.upd ud (by omega);have U6:Hid (Upd (·=p) w w6):=U5.out.trans ud (fun _ _ e=>e);have v1:=hc.cell 1;have vf:=hc.frozen 1;clear e5 CA hd hgd hld hid ud hrd z0 zf;obtain ⟨w7,Hw7⟩:=nm (w6.setCell ⟨g,1,none⟩ (.int .i64 (a:Nat)));have e7:=Hw7.out;have us:Upd (·=g) w6 w7:=by rw [←e7];exact updCell _ _ _ _
      have hb:Blk w7 g 69 #[.int .i64 5,.int .i64 (a:Nat),.int .i64 0,.int .i64 0]:=by rw [←e7];simpa using hc.set_ 1 (.int .i64 (a:Nat))
      have H7:=h_ (H6.out.upd us (fun k _ e=>by omega));have HR7:=h_ (HR6.out.upd us (by omega));have U7:Hid (Upd (·=p) w w7):=U6.out.trans us (fun k hk e=>by omega);have HC7:=h_ hb;clear us hb hc;have CA:=h_ (xImmVar_c HXT.out H7.out HG2.out HL2.out);go_wp2_with fail
      refine CA.out.mono ?_;rintro e w8 hw;obtain ⟨b,y3,ev,hd,hgd,hld,hid,ud,hrd⟩:=hw;subst ev;have H8:=h_ hd;have HG3:=h_ hgd;have HL3:Hid (y3.left=false):=hld.trans HL2.out;have HI3:=h_ hid;have HRS3:=h_ hrd;have HR8:=h_ (HR7.out.upd ud (by omega));have hc:=HC7.out.upd ud (by omega);have U8:Hid (Upd (·=p) w w8):=U7.out.trans ud (fun _ _ e=>e);have v2:=hc.cell 2;have vf:=hc.frozen 2;clear e7 CA hd hgd hld hid ud hrd;obtain ⟨w9,Hw9⟩:=nm (w8.setCell ⟨g,2,none⟩ (.int .i64 (b:Nat)));have e9:=Hw9.out;have us:Upd (·=g) w8 w9:=by rw [←e9];exact updCell _ _ _ _
      have hb:Blk w9 g 69 #[.int .i64 5,.int .i64 (a:Nat),.int .i64 (b:Nat),.int .i64 0]:=by rw [←e9];simpa using hc.set_ 2 (.int .i64 (b:Nat))
      have H9:=h_ (H8.out.upd us (fun k _ e=>by omega));have HR9:=h_ (HR8.out.upd us (by omega));have U9:Hid (Upd (·=p) w w9):=U8.out.trans us (fun k hk e=>by omega);have HC9:=h_ hb;clear us hb hc;have HCF:=HC9;have HRF:=HR9;obtain ⟨wF,HwF⟩:=nm w9;rw [HwF.out] at e9 HCF HRF;have g0:=HCF.out.cell 0;have g1:=HCF.out.cell 1;have g2:=HCF.out.cell 2;have g3:=HCF.out.cell 3;have r0:=HRF.out.cell 0;have r1:=HRF.out.cell 1;have r2:=HRF.out.cell 2;have r3:=HRF.out.cell 3;have rf:=HRF.out.frozen;go_wp2_with fail
      rw [set4_eq];refine bodyPost_ret (results_cell_row rfl _ _ w.heap.size 69 _ (0,0) _ rfl (set4_blk HRF.out _ _ _ _) Tryz.underlying69 rfl (by kernel_rfl)) rfl ?_;have us:=set4_upd wF w.heap.size;have hXF:=H9.out;have hUF:=U9.out;rw [HwF.out] at hXF hUF;refine ⟨⟨5,(a:Nat),(b:Nat),0⟩,y3,rfl,hXF.upd (us _ _ _ _) (fun k _ e=>by omega),HG3.out,HL3.out.trans hl.symm,by have q1:=HNG.out.2.1;have q2:=HI2.out;have q3:=HI3.out;omega,hUF.trans (us _ _ _ _) (fun k hk e=>by omega),?_⟩
      rw [pcond_pk];refine ResX.bind HRK.out (fun e he=>wrdF_err he) ?_;unfold pk1;rw [if_neg (by decide)];refine ResX.bind HRS2.out (fun e he=>wrdF_err he) ?_;unfold pk2;rw [if_neg (by decide),if_neg (by decide),if_neg (by decide)];refine ResX.bind (g:=fun v ps=>(Except.ok ((⟨((5:Nat):Int),(a:Nat),(v:Nat),0⟩:Cd),ps):Except Er (Cd×PS))) HRS3.out (fun e he=>wrdF_err he) ?_
      exact ResX.pure rfl
     ·skip;by_cases h6:s=[117,110,108,105,107,101]
      ·subst h6;obtain ⟨k1,k2,k3,k4⟩:=HTK.out (by simp);have t1:(qs.toList==[110,111,110,122,101,114,111])=false:=by rw [←Hqs.out,xktl];rfl
       have t2:(qs.toList==[108,101,97,115,116])=false:=by rw [←Hqs.out,xktl];rfl
       have t3:(qs.toList==[109,111,115,116])=false:=by rw [←Hqs.out,xktl];rfl
       have t4:(qs.toList==[97,112,97,114,116])=false:=by rw [←Hqs.out,xktl];rfl
       have t5:(qs.toList==[105,110,115,105,100,101])=false:=by rw [←Hqs.out,xktl];rfl
       have t6:(qs.toList==[117,110,108,105,107,101])=true:=by rw [←Hqs.out,xktl];rfl
       have HRK:Hid (ResX x y1 (kindF T fin x.ps) (fun v=>v=6)):=by
        show ResX _ _ _ _;unfold kindF;rw [wrd_good (z:=x.ps) k2 rfl (u:=x.ps) (a:=6) rfl,k3];exact ⟨fun _=>⟨k1,rfl,rfl⟩,fun q=>absurd k1 q⟩
       clear HTK HTS k1 k2 k3 k4 h1 h2 h3 h4 h5;go_enter Tryz.func84,Tryz.ntmps84;go_wp2_with fail
       refine CO.out.mono ?_;rintro e w2 ⟨rfl,u2⟩;obtain ⟨W3,HW3⟩:=nm (w2.alloc (.cells #[.int .i64 0,.int .i64 0,.int .i64 0,.int .i64 0] 69));have u3:Upd Non w2 W3:=by rw [←HW3.out];exact Upd.refl.alloc _
       have b3:Blk W3 w2.heap.size 69 #[.int .i64 0,.int .i64 0,.int .i64 0,.int .i64 0]:=by rw [←HW3.out];exact Blk.new _ _ _
       have e3:=HW3.out;have hg2:w.heap.size<w2.heap.size:=by have:=HB1.out.lt;have:=u2.size;omega
       have CN3:=h_ (CN.out _ (u2.then_non u3));clear e1 HW3;go_wp2_with fail
       refine CN3.out.mono ?_;rintro e w4 ⟨rfl,h4,u4⟩;have H4:=h_ h4;have U4:Hid (Upd (·=p) w w4):=(upd_eq ((HU1.out.then_non u2).then_non u3)).trans u4 (fun _ _ e=>e);have HR4:=h_ (((HB1.out.upd u2 (fun f=>f)).upd u3 (fun f=>f)).upd u4 (by omega));have hc4:=b3.upd u4 (by omega);have z0:=hc4.cell 0;have zf:=hc4.frozen;have HC4:=h_ hc4;obtain ⟨g,Hgn⟩:=nm w2.heap.size;rw [Hgn.out] at hg2 z0 zf HC4 ⊢;clear CO CN CN3 h4 u2 u3 u4 b3 e3 hc4 HB1 HU1;obtain ⟨w5,Hw5⟩:=nm (w4.setCell ⟨g,0,none⟩ (.int .i64 6));have e5:=Hw5.out;have u5:Upd (·=g) w4 w5:=by rw [←e5];exact updCell _ _ _ _
       have hb5:Blk w5 g 69 #[.int .i64 6,.int .i64 0,.int .i64 0,.int .i64 0]:=by rw [←e5];simpa using HC4.out.set_ 0 (.int .i64 6)
       have H5:=h_ (H4.out.upd u5 (fun k _ e=>by omega));have HR5:=h_ (HR4.out.upd u5 (by omega));have U5:Hid (Upd (·=p) w w5):=U4.out.trans u5 (fun k hk e=>by omega);have HC5:=h_ hb5;clear u5 hb5;have CA:=h_ (xImmVar_c HXT.out H5.out HG1.out HL1.out);go_wp2_with fail
       refine CA.out.mono ?_;rintro e w6 hw;obtain ⟨a,y2,ev,hd,hgd,hld,hid,ud,hrd⟩:=hw;subst ev;have H6:=h_ hd;have HG2:=h_ hgd;have HL2:Hid (y2.left=false):=hld.trans HL1.out;have HI2:=h_ hid;have HRS2:=h_ hrd;have HR6:=h_ (HR5.out.upd ud (by omega));have hc:=HC5.out.upd ud (by omega);have U6:Hid (Upd (·=p) w w6):=U5.out.trans ud (fun _ _ e=>e);have v1:=hc.cell 1;have vf:=hc.frozen 1;clear e5 CA hd hgd hld hid ud hrd z0 zf;obtain ⟨w7,Hw7⟩:=nm (w6.setCell ⟨g,1,none⟩ (.int .i64 (a:Nat)));have e7:=Hw7.out;have us:Upd (·=g) w6 w7:=by rw [←e7];exact updCell _ _ _ _
       have hb:Blk w7 g 69 #[.int .i64 6,.int .i64 (a:Nat),.int .i64 0,.int .i64 0]:=by rw [←e7];simpa using hc.set_ 1 (.int .i64 (a:Nat))
       have H7:=h_ (H6.out.upd us (fun k _ e=>by omega));have HR7:=h_ (HR6.out.upd us (by omega));have U7:Hid (Upd (·=p) w w7):=U6.out.trans us (fun k hk e=>by omega);have HC7:=h_ hb;clear us hb hc;have CA:=h_ (xImmVar_c HXT.out H7.out HG2.out HL2.out);go_wp2_with fail
       refine CA.out.mono ?_;rintro e w8 hw;obtain ⟨b,y3,ev,hd,hgd,hld,hid,ud,hrd⟩:=hw;subst ev;have H8:=h_ hd;have HG3:=h_ hgd;have HL3:Hid (y3.left=false):=hld.trans HL2.out;have HI3:=h_ hid;have HRS3:=h_ hrd;have HR8:=h_ (HR7.out.upd ud (by omega));have hc:=HC7.out.upd ud (by omega);have U8:Hid (Upd (·=p) w w8):=U7.out.trans ud (fun _ _ e=>e);have v2:=hc.cell 2;have vf:=hc.frozen 2;clear e7 CA hd hgd hld hid ud hrd;obtain ⟨w9,Hw9⟩:=nm (w8.setCell ⟨g,2,none⟩ (.int .i64 (b:Nat)));have e9:=Hw9.out;have us:Upd (·=g) w8 w9:=by rw [←e9];exact updCell _ _ _ _
       have hb:Blk w9 g 69 #[.int .i64 6,.int .i64 (a:Nat),.int .i64 (b:Nat),.int .i64 0]:=by rw [←e9];simpa using hc.set_ 2 (.int .i64 (b:Nat))
       have H9:=h_ (H8.out.upd us (fun k _ e=>by omega));have HR9:=h_ (HR8.out.upd us (by omega));have U9:Hid (Upd (·=p) w w9):=U8.out.trans us (fun k hk e=>by omega);have HC9:=h_ hb;clear us hb hc;have HCF:=HC9;have HRF:=HR9;obtain ⟨wF,HwF⟩:=nm w9;rw [HwF.out] at e9 HCF HRF;have g0:=HCF.out.cell 0;have g1:=HCF.out.cell 1;have g2:=HCF.out.cell 2;have g3:=HCF.out.cell 3;have r0:=HRF.out.cell 0;have r1:=HRF.out.cell 1;have r2:=HRF.out.cell 2;have r3:=HRF.out.cell 3;have rf:=HRF.out.frozen;go_wp2_with fail
       rw [set4_eq];refine bodyPost_ret (results_cell_row rfl _ _ w.heap.size 69 _ (0,0) _ rfl (set4_blk HRF.out _ _ _ _) Tryz.underlying69 rfl (by kernel_rfl)) rfl ?_;have us:=set4_upd wF w.heap.size;have hXF:=H9.out;have hUF:=U9.out;rw [HwF.out] at hXF hUF;refine ⟨⟨6,(a:Nat),(b:Nat),0⟩,y3,rfl,hXF.upd (us _ _ _ _) (fun k _ e=>by omega),HG3.out,HL3.out.trans hl.symm,by have q1:=HNG.out.2.1;have q2:=HI2.out;have q3:=HI3.out;omega,hUF.trans (us _ _ _ _) (fun k hk e=>by omega),?_⟩
       rw [pcond_pk];refine ResX.bind HRK.out (fun e he=>wrdF_err he) ?_;unfold pk1;rw [if_pos rfl];refine ResX.bind HRS2.out (fun e he=>wrdF_err he) ?_;unfold pk2;rw [if_neg (by decide),if_neg (by decide),if_neg (by decide)];refine ResX.bind (g:=fun v ps=>(Except.ok ((⟨((6:Nat):Int),(a:Nat),(v:Nat),0⟩:Cd),ps):Except Er (Cd×PS))) HRS3.out (fun e he=>wrdF_err he) ?_
       exact ResX.pure rfl
      ·skip;have t1:(qs.toList==[110,111,110,122,101,114,111])=false:=by rw [←Hqs.out,xktl];exact beq_eq_false_iff_ne.2 h1
       have t2:(qs.toList==[108,101,97,115,116])=false:=by rw [←Hqs.out,xktl];exact beq_eq_false_iff_ne.2 h2
       have t3:(qs.toList==[109,111,115,116])=false:=by rw [←Hqs.out,xktl];exact beq_eq_false_iff_ne.2 h3
       have t4:(qs.toList==[97,112,97,114,116])=false:=by rw [←Hqs.out,xktl];exact beq_eq_false_iff_ne.2 h4
       have t5:(qs.toList==[105,110,115,105,100,101])=false:=by rw [←Hqs.out,xktl];exact beq_eq_false_iff_ne.2 h5
       have t6:(qs.toList==[117,110,108,105,107,101])=false:=by rw [←Hqs.out,xktl];exact beq_eq_false_iff_ne.2 h6
       have HRB:Hid (ResX x (y1.fail 2 off) (pcondF T fin x.ps) (fun v=>v=⟨0,0,0,0⟩)):=by
        have hno:findL condL s 0=none:=by
         simp only [findL,condL];rw [if_neg (fun q=>h1 q.symm),if_neg (fun q=>h2 q.symm),if_neg (fun q=>h3 q.symm),if_neg (fun q=>h4 q.symm),if_neg (fun q=>h5 q.symm),if_neg (fun q=>h6 q.symm)]
        have hk:ResX x (y1.fail 2 off) (kindF T fin x.ps) (fun v=>v=0):=by
         by_cases h0:x.why=0
         ·have:=bad_resX (fin:=fin) (x:=x) (f:=fun s x=>(findL condL s 0).map fun i=>(i+1,x)) (P:=fun v=>v=0) (fun t ht=>by rw [HTS.out t h0 ht,hno];rfl)
          rw [Hy1.out,Hoff.out] at this;exact this
         ·have e:=(nx_none (T:=T) (fin:=fin) (x:=x) (fun r=>h0 r.1)).2;rw [Hy1.out] at e;rw [e,xfail_why h0,xfail_why h0];exact ⟨fun q=>absurd q h0,fun _=>⟨rfl,rfl⟩⟩
        unfold pcondF;refine ⟨fun h0=>?_,hk.2⟩;have h5:=hk.1 h0
        cases hkf:kindF T fin x.ps with
        | error e=>rw [hkf] at h5;exact h5
        | ok v=>rw [hkf] at h5;exact absurd h5.1 (xfail_ne _ (by decide))
       clear HTK HTS h1 h2 h3 h4 h5 h6;go_enter Tryz.func84,Tryz.ntmps84;go_wp2_with fail
       refine CO.out.mono ?_;rintro e w2 ⟨rfl,u2⟩;obtain ⟨W3,HW3⟩:=nm (w2.alloc (.cells #[.int .i64 0,.int .i64 0,.int .i64 0,.int .i64 0] 69));have u3:Upd Non w2 W3:=by rw [←HW3.out];exact Upd.refl.alloc _
       have b3:Blk W3 w2.heap.size 69 #[.int .i64 0,.int .i64 0,.int .i64 0,.int .i64 0]:=by rw [←HW3.out];exact Blk.new _ _ _
       have e3:=HW3.out;have hg2:w.heap.size<w2.heap.size:=by have:=HB1.out.lt;have:=u2.size;omega
       have CN3:=h_ (CN.out _ (u2.then_non u3));clear e1 HW3;go_wp2_with fail
       refine CN3.out.mono ?_;rintro e w4 ⟨rfl,h4,u4⟩;have H4:=h_ h4;have U4:Hid (Upd (·=p) w w4):=(upd_eq ((HU1.out.then_non u2).then_non u3)).trans u4 (fun _ _ e=>e);have HR4:=h_ (((HB1.out.upd u2 (fun f=>f)).upd u3 (fun f=>f)).upd u4 (by omega));have hc4:=b3.upd u4 (by omega);have z0:=hc4.cell 0;have zf:=hc4.frozen;have HC4:=h_ hc4;obtain ⟨g,Hgn⟩:=nm w2.heap.size;rw [Hgn.out] at hg2 z0 zf HC4 ⊢;clear CO CN CN3 h4 u2 u3 u4 b3 e3 hc4 HB1 HU1;have CF:=h_ (xFail_c H4.out 2 off);go_wp2_with fail
       refine CF.out.mono ?_;rintro e wF ⟨rfl,h9,u9⟩;have HCF:=h_ (HC4.out.upd u9 (by omega));have HRF:=h_ (HR4.out.upd u9 (by omega));have H9:=h_ h9;have U9:Hid (Upd (·=p) w wF):=U4.out.trans u9 (fun _ _ e=>e);clear CF h9 u9 z0 zf;have g0:=HCF.out.cell 0;have g1:=HCF.out.cell 1;have g2:=HCF.out.cell 2;have g3:=HCF.out.cell 3;have r0:=HRF.out.cell 0;have r1:=HRF.out.cell 1;have r2:=HRF.out.cell 2;have r3:=HRF.out.cell 3;have rf:=HRF.out.frozen;go_wp2_with fail
       rw [set4_eq];refine bodyPost_ret (results_cell_row rfl _ _ w.heap.size 69 _ (0,0) _ rfl (set4_blk HRF.out _ _ _ _) Tryz.underlying69 rfl (by kernel_rfl)) rfl ?_;have us:=set4_upd wF w.heap.size;exact ⟨⟨0,0,0,0⟩,y1.fail 2 off,rfl,H9.out.upd (us _ _ _ _) (fun k _ e=>by omega),HG1.out.fail _ _,by rw [xfail_left];exact HL1.out.trans hl.symm,by rw [xfail_i];exact HNG.out.2.1,U9.out.trans (us _ _ _ _) (fun k hk e=>by omega),HRB.out⟩
section
variable {T:List (Bs×Nat)} {fin:Nat}
theorem ResX.ebind {β:Type} {y z:Xs} {s:Bs} {g:PS→Except Er (β×PS)} {Q:β→Prop} (h2:ResX (exY T fin s y) z (g (exY T fin s y).ps) Q):ResX y z (bindE (expF T fin s y.ps) g) Q:=by
 refine ⟨fun h0=>?_,fun h0=>?_⟩
 ·have h1:=exY_res (T:=T) (fin:=fin) (s:=s) h0
  cases he:expF T fin s y.ps with
  | error e =>
   rw [he] at h1;have hn:(exY T fin s y).why≠0:=by rw [h1.1];exact expF_err he
   have h3:=h2.2 hn;exact ⟨h3.1.trans h1.1,h3.2.trans h1.2⟩
  | ok u =>
   rw [he] at h1;obtain ⟨h3,rfl⟩:=h1;exact h2.1 h3
 ·have e:=exY_err (T:=T) (fin:=fin) (s:=s) h0;rw [e] at h2;exact h2.2 h0
def CdX (T:List (Bs×Nat)) (fin:Nat) (y5 y:Xs) (cs:List Cd) (f:Nat):Prop :=
 (y5.why=0→(y.why=0→T.length<f+y.i∧ifF T fin (T.length+1) y5.ps=match condsF T fin f y.ps with
  | .error e=>.error e
  | .ok (l,z)=>.ok (cs++l,z))∧(y.why≠0→ifF T fin (T.length+1) y5.ps=.error (y.why,y.ea)))∧(y5.why≠0→y.why=y5.why∧y.ea=y5.ea)
theorem CdX.first {y5 y:Xs} {cd:Cd} (ht:tkF T y5.i=some [105,102]) (h0:y5.why=0) (h:ResX { y5 with i:=y5.i+1 } y (pcondF T fin { y5.ps with i:=y5.i+1 }) (fun v=>v=cd)):CdX T fin y5 y [cd] (T.length+1):=by
 have hc:=h.1 h0;refine ⟨fun _=>⟨fun hy=>?_,fun hy=>?_⟩,fun q=>absurd h0 q⟩
 ·refine ⟨by omega,?_⟩;unfold ifF;rw [show y5.ps.i=y5.i from rfl,if_pos ht]
  cases hp:pcondF T fin { y5.ps with i:=y5.i+1 } with
  | error e=>rw [hp] at hc;exact absurd (hc.1 ▸ hy) (pcondF_err hp)
  | ok v =>
   obtain ⟨v,s⟩:=v;rw [hp] at hc;obtain ⟨_,rfl,rfl⟩:=hc;rfl
 ·unfold ifF;rw [show y5.ps.i=y5.i from rfl,if_pos ht]
  cases hp:pcondF T fin { y5.ps with i:=y5.i+1 } with
  | error e=>rw [hp] at hc;dsimp only;rw [hc.1,hc.2]
  | ok v=>rw [hp] at hc;exact absurd hc.1 hy
theorem CdX.more {y5 y y':Xs} {cs:List Cd} {cd:Cd} {f:Nat} (hl:CdX T fin y5 y cs f) (ht:tkF T y.i=some [44]) (h0:y.why=0) (hi:y.i<T.length) (h:ResX { y with i:=y.i+1 } y' (pcondF T fin { y.ps with i:=y.i+1 }) (fun v=>v=cd)) (hy':y.i+1≤y'.i):0<f∧CdX T fin y5 y' (cs++[cd]) (f - 1):=by
 have hc:=h.1 h0
 have h5:y5.why=0:=by
  by_cases q:y5.why=0
  ·exact q
  ·exact absurd ((hl.2 q).1 ▸ h0) q
 obtain ⟨hf,he⟩:=(hl.1 h5).1 h0
 match f with
 | 0=>omega
 | f+1 =>
 refine ⟨by omega,fun _=>?_,fun q=>absurd h5 q⟩;rw [he,condsF_succ];rw [show y.ps.i=y.i from rfl,if_pos ht];refine ⟨fun hy=>?_,fun hy=>?_⟩
 ·cases hp:pcondF T fin { y.ps with i:=y.i+1 } with
  | error e=>rw [hp] at hc;exact absurd (hc.1 ▸ hy) (pcondF_err hp)
  | ok v =>
   obtain ⟨v,s⟩:=v;rw [hp] at hc;obtain ⟨_,rfl,rfl⟩:=hc;refine ⟨by show T.length<f+1 - 1+y'.i;omega,?_⟩;dsimp only;rw [show f+1 - 1=f from rfl]
   cases condsF T fin f y'.ps with
   | error e=>rfl
   | ok v=>obtain ⟨l,z⟩:=v;simp
 ·cases hp:pcondF T fin { y.ps with i:=y.i+1 } with
  | error e=>rw [hp] at hc;dsimp only;rw [hc.1,hc.2]
  | ok v=>rw [hp] at hc;exact absurd hc.1 hy
theorem CdX.done {y5 y:Xs} {cs:List Cd} {f:Nat} (hl:CdX T fin y5 y cs f) (hD:(y.why==0&&decide (tkF T y.i=some [44]))=false):ResX y5 y (ifF T fin (T.length+1) y5.ps) (fun v=>v=cs):=by
 refine ⟨fun h5=>?_,hl.2⟩;by_cases h0:y.why=0
 ·have he:=((hl.1 h5).1 h0).2;have ht:¬tkF T y.i=some [44]:=by simpa [h0] using hD
  have hc:condsF T fin f y.ps=.ok ([],y.ps):=by
   cases f with
   | zero=>rfl
   | succ f=>rw [condsF_succ,show y.ps.i=y.i from rfl,if_neg ht]
  rw [hc] at he;rw [he];exact ⟨h0,rfl,by simp⟩
 ·rw [(hl.1 h5).2 h0];exact ⟨rfl,rfl⟩
theorem ifX_none {y:Xs} (hD:(y.why==0&&decide (tkF T y.i=some [105,102]))=false):ResX y y (ifF T fin (T.length+1) y.ps) (fun v=>v=[]):=by
 refine ⟨fun h0=>?_,fun _=>⟨rfl,rfl⟩⟩;have ht:¬tkF T y.i=some [105,102]:=by simpa [h0] using hD
 unfold ifF;rw [show y.ps.i=y.i from rfl,if_neg ht];exact ⟨h0,rfl,rfl⟩
def ruleN (T:List (Bs×Nat)) (fin:Nat) (x:PS):Except Er (Rl×PS):=match tkF T x.i with
 | none=>.error (serr T fin x.i)
 | some s=>rg2 T fin s ⟨x.i+1,[],[]⟩
theorem ruleX_fin {x x0 y1 y3 y5 y6:Xs} {s:Bs} {l r:Pt} {cs:List Cd} (h0:x0={ x with vs:=[],ms:=[] }) (hs:nxS T x0=s) (h1:nxY T fin x0=y1)
  (h3:ResX (exY T fin [58] y1) y3 (termF T fin true (T.length+1) (exY T fin [58] y1).ps) (fun v=>v=l))
  (h5:ResX (exY T fin [61,62] y3) y5 (termF T fin false (T.length+1) (exY T fin [61,62] y3).ps) (fun v=>v=r))
  (h6:ResX y5 y6 (ifF T fin (T.length+1) y5.ps) (fun v=>v=cs)) :
  ResX x (exY T fin [59] y6) (ruleN T fin x.ps) (fun v=>v=⟨⟨s.toArray⟩,l,r,cs,(exY T fin [59] y6).vs.length,(exY T fin [59] y6).ms.length⟩):=by
 have k7:ResX y6 (exY T fin [59] y6) (rg7 T fin s l r cs y6.ps) (fun v=>v=⟨⟨s.toArray⟩,l,r,cs,(exY T fin [59] y6).vs.length,(exY T fin [59] y6).ms.length⟩):=by
  unfold rg7;exact ResX.ebind ⟨fun h=>⟨h,rfl,rfl⟩,fun _=>⟨rfl,rfl⟩⟩
 have k6:=ResX.bind (g:=fun q z=>rg7 T fin s l r q z) h6 (fun e=>ifF_err) k7;have k5:=ResX.bind (g:=fun q z=>rg6 T fin s l q z) h5 (fun e=>termF_err _ _ e) k6;have k4:=ResX.ebind (g:=fun u=>rg5 T fin s l u) k5;have k3:=ResX.bind (g:=fun q z=>rg4 T fin s q z) h3 (fun e=>termF_err _ _ e) k4;have k2:=ResX.ebind (g:=fun u=>rg3 T fin s u) k3
 change ResX y1 _ (rg2 T fin s y1.ps) _ at k2
 unfold ruleN;rw [show x.ps.i=x.i from rfl];have ey:x0.why=x.why∧x0.ea=x.ea∧x0.i=x.i:=by subst h0;exact ⟨rfl,rfl,rfl⟩
 by_cases hw:x.why=0
 ·by_cases q:x.i<T.length
  ·obtain ⟨t,ht⟩:=tk_some q;obtain ⟨e1,e2,_⟩:=nx_some (fin:=fin) (x:=x0) (ey.1.trans hw) (by rw [ey.2.2];exact ht);rw [ht];rw [e1] at hs;subst hs;rw [e2] at h1;have e3:y1.ps=⟨x.i+1,[],[]⟩:=by rw [←h1,h0];rfl
   rw [e3] at k2;exact ⟨fun _=>k2.1 (by rw [←h1];exact ey.1.trans hw),fun q=>absurd hw q⟩
  ·obtain ⟨_,e2⟩:=nx_none (T:=T) (fin:=fin) (x:=x0) (fun r=>q (by rw [←ey.2.2];exact r.2));rw [e2,xfail_zero (ey.1.trans hw)] at h1;rw [tk_none q];refine ⟨fun _=>?_,fun q=>absurd hw q⟩;have h2:=k2.2 (by rw [←h1];show (2:Int)≠0;decide);rw [←h1] at h2;rw [ey.2.2] at h2;exact h2
 ·obtain ⟨_,e2⟩:=nx_none (T:=T) (fin:=fin) (x:=x0) (fun r=>hw (ey.1 ▸ r.1));rw [e2,xfail_why (by rw [ey.1];exact hw)] at h1;rw [←h1] at k2;refine ⟨fun q=>absurd q hw,fun _=>?_⟩;have h2:=k2.2 (by rw [ey.1];exact hw);exact ⟨h2.1.trans ey.1,h2.2.trans ey.2.1⟩
end
def XRuleP (w:World) (p:Nat) (A:Option Addr) (c:Nat) (T:List (Bs×Nat)) (fin:Nat) (x:Xs) (r:Except Er (Rl×PS)) (e:Ending) (w':World):Prop :=
 ∃(R:Rl) (a:RlA) (y:Xs),e=.returned (rlv R a)∧RlK w' (fun k=>w.heap.size≤k) R a∧XdS w' p A c T fin y∧GoodX T y∧x.i≤y.i∧Upd (·=p) w w'∧RlSz R∧R.name=kstr (nxS T x)∧ResX x y r (fun v=>v=R)
structure XRs (w0 w:World) (p:Nat) (A:Option Addr) (c:Nat) (T:List (Bs×Nat)) (fin:Nat) (y:Xs) (g:Nat) (R:Rl) (a:RlA):Prop where
 xd:XdS w p A c T fin y
 res:Blk w w0.heap.size 43 z14
 rl:Blk w g 43 (rlCells R a)
 cds:CdO w a.ca a.cc R.conds
 cat:∀k,At a.ca k→g<k
 kl:PtK w (fun k=>g<k∧¬At a.ca k) R.l a.la a.lc
 kr:PtK w (fun k=>g<k∧¬At a.ca k) R.r a.ra a.rc
 lt:w0.heap.size<g
 plt:p<w0.heap.size
 upd:Upd (·=p) w0 w
section
variable {w0 w w':World} {p:Nat} {A:Option Addr} {c:Nat} {T:List (Bs×Nat)} {fin:Nat} {y y':Xs} {g:Nat} {R R':Rl} {a a':RlA}
theorem XRs.call (h:XRs w0 w p A c T fin y g R a) (hr:XdS w' p A c T fin y') (u:Upd (·=p) w w'):XRs w0 w' p A c T fin y' g R a:=by
 have h1:=h.lt;have h2:=h.plt;exact ⟨hr,h.res.upd u (by omega),h.rl.upd u (by omega),h.cds.upd u (fun k hk e=>by have:=h.cat k hk;omega),h.cat,PtK.upd u (fun k _ q e=>by have:=q.1;omega) _ _ _ h.kl,PtK.upd u (fun k _ q e=>by have:=q.1;omega) _ _ _ h.kr,h1,h2,h.upd.trans u (fun _ _ e=>e)⟩
theorem XRs.non (h:XRs w0 w p A c T fin y g R a) (u:Upd Non w w'):XRs w0 w' p A c T fin y g R a:=h.call (h.xd.non u) (upd_eq u)
theorem XRs.rule (h:XRs w0 w p A c T fin y g R a) (u:Upd (·=g) w w') (hb:Blk w' g 43 (rlCells R' a')) (e1:a'.ca=a.ca) (e2:a'.cc=a.cc) (e3:R'.conds=R.conds) (kl:PtK w (fun k=>g<k∧¬At a.ca k) R'.l a'.la a'.lc) (kr:PtK w (fun k=>g<k∧¬At a.ca k) R'.r a'.ra a'.rc):XRs w0 w' p A c T fin y g R' a':=by
 have h1:=h.lt;have h2:=h.plt;have hc:=h.cat;refine ⟨h.xd.upd u (fun k _ e=>by omega),h.res.upd u (by omega),hb,?_,?_,?_,?_,h1,h2,h.upd.trans u (fun k hk e=>by omega)⟩
 ·rw [e1,e2,e3];exact h.cds.upd u (fun k hk e=>by have:=hc k hk;omega)
 ·rw [e1];exact hc
 ·rw [e1];exact PtK.upd u (fun k _ q e=>by have:=q.1;omega) _ _ _ kl
 ·rw [e1];exact PtK.upd u (fun k _ q e=>by have:=q.1;omega) _ _ _ kr
theorem XRs.new (h:XRs w0 w p A c T fin y g R a) {q:Pt} {KA:Option Addr} {kc:Nat} (hq:PtK w' (fun k=>w.heap.size≤k) q KA kc):PtK w' (fun k=>g<k∧¬At a.ca k) q KA kc :=
 PtK.mono (fun _ _ r=>⟨Nat.lt_of_lt_of_le h.rl.lt r,fun s=>Nat.lt_irrefl _ (Nat.lt_of_lt_of_le (CdO.lt h.cds s) r)⟩) _ _ _ hq
theorem XRs.app (h:XRs w0 w p A c T fin y g R a) {CA:Option Addr} {cc:Nat} {cd:Cd} (u:Upd (At a.ca) w w') (hc:CdO w' CA cc (R.conds++[cd])) (hat:∀k,At CA k→At a.ca k∨k=w.heap.size) {w'':World} (u2:Upd (·=g) w' w'') (hb:Blk w'' g 43 (rlCells { R with conds:=R.conds++[cd] } { a with ca:=CA,cc:=cc })):XRs w0 w'' p A c T fin y g { R with conds:=R.conds++[cd] } { a with ca:=CA,cc:=cc }:=by
 have h1:=h.lt;have h2:=h.plt;have hcat:=h.cat;have hg:g<w.heap.size:=h.rl.lt;have uu:Upd (fun k=>At a.ca k∨k=g) w w'':=(u.mono (fun _ _ q=>.inl q)).trans (u2.mono (fun _ _ q=>.inr q)) (fun _ _ q=>q)
 have hge:∀k,(At a.ca k∨k=g)→g≤k:=fun k q=>by
  rcases q with q | q
  ·exact Nat.le_of_lt (hcat k q)
  ·omega
 have hcat2:∀k,At CA k→g<k:=fun k q=>by
  rcases hat k q with r | r
  ·exact hcat k r
  ·omega
 have m1:∀k,k<w.heap.size→(g<k∧¬At a.ca k)→(g<k∧¬At a.ca k)∧k<w.heap.size:=fun _ hk r=>⟨r,hk⟩
 have m2:∀k,k<w.heap.size→((g<k∧¬At a.ca k)∧k<w.heap.size)→¬(At a.ca k∨k=g):=fun k _ r e=>by
  rcases e with e | e
  ·exact r.1.2 e
  ·have:=r.1.1;omega
 have m3:∀k,k<w''.heap.size→((g<k∧¬At a.ca k)∧k<w.heap.size)→g<k∧¬At CA k:=fun k _ r=>⟨r.1.1,fun s=>by
  rcases hat k s with s | s
  ·exact r.1.2 s
  ·have:=r.2;omega⟩
 have hpt:∀{q:Pt} {B:Option Addr} {n:Nat},PtK w (fun k=>g<k∧¬At a.ca k) q B n→PtK w'' (fun k=>g<k∧¬At CA k) q B n:=fun hq =>
  PtK.mono m3 _ _ _ (PtK.upd uu m2 _ _ _ (PtK.mono m1 _ _ _ hq))
 refine ⟨h.xd.upd uu (fun k _ e=>by have:=hge k e;omega),h.res.upd uu (fun e=>by have:=hge _ e;omega),hb,?_,hcat2,hpt h.kl,hpt h.kr,h1,h2,h.upd.trans uu (fun k hk e=>by have:=hge k e;omega)⟩
 exact CdO.upd hc u2 (fun k hk e=>by have:=hcat2 k hk;omega)
theorem XRs.fin_ (h:XRs w0 w p A c T fin y g R a) (u:Upd (·=w0.heap.size) w w'):XdS w' p A c T fin y∧RlK w' (fun k=>w0.heap.size≤k) R a∧Upd (·=p) w0 w':=by
 have h1:=h.lt;have h2:=h.plt;refine ⟨h.xd.upd u (fun k _ e=>by omega),⟨?_,?_,?_,?_⟩,h.upd.trans u (fun k hk e=>by omega)⟩
 ·exact PtK.mono (fun k _ q=>by have:=q.1;omega) _ _ _ (PtK.upd u (fun k _ q e=>by have:=q.1;omega) _ _ _ h.kl)
 ·exact PtK.mono (fun k _ q=>by have:=q.1;omega) _ _ _ (PtK.upd u (fun k _ q e=>by have:=q.1;omega) _ _ _ h.kr)
 ·have hc:CdO w' a.ca a.cc R.conds:=h.cds.upd u (fun k hk e=>by have:=h.cat k hk;omega);exact hc.view.mono (fun k _ q=>by have:=h.cat k q;omega)
 ·exact CdO.le h.cds
theorem XdS.setI (h:XdS w p A c T fin y) (n:Nat):XdS (w.setCell ⟨p,1,none⟩ (.int .i64 n)) p A c T fin { y with i:=n }:=by
 refine h.set (updCell _ _ _ _) ?_;have:=h.blk.set_ 1 (.int .i64 n);simpa [xcells] using this
theorem XdS.setLeft (h:XdS w p A c T fin y) (b:Bool):XdS (w.setCell ⟨p,7,none⟩ (.bool b)) p A c T fin { y with left:=b }:=by
 refine h.set (updCell _ _ _ _) ?_;have:=h.blk.set_ 7 (.bool b);simpa [xcells] using this
theorem XdS.clear (h:XdS w p A c T fin y):XdS ((w.setCell ⟨p,5,none⟩ (.string ⟨#[]⟩)).setCell ⟨p,6,none⟩ (.string ⟨#[]⟩)) p A c T fin { y with vs:=[],ms:=[] }:=by
 refine h.set ((updCell w p 5 _).trans (updCell _ p 6 _) (fun _ _ q=>q)) ?_;have:=(h.blk.set_ 5 (.string ⟨#[]⟩)).set_ 6 (.string ⟨#[]⟩);simpa [xcells,kstr] using this
end
end Go.Proofs.YtblkgjdhaibhgaaGreat
