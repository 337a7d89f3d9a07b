/-
  Lemmas and walks that the claim rests on, part 10 (packed by a program).
-/
import Derived.Test.YtifhejahbbnkiaaGreatD9
import Derived.Test.YtifhejahbbnkiaaGreatD3
import Derived.Test.YtifhejahbbnkiaaGreatD1
import Derived.Test.YtifhejahbbnkiaaGreatD2
namespace Go.Proofs.YtifhejahbbnkiaaGreat
open Go.RowKit
theorem aApplicable_c (r:Rl) (a:RlA) (F:Nat→Prop) (w:World) (hk:RlK w F r a) (hz:RlSz r):Calls Tryz.prog 22 #[rlv r a] w fun e w'=>e=.returned (.bool (applF r))∧Upd Non w w':=by
 obtain ⟨W,HW⟩:=nm (w.alloc (.cells (rlCells r a) 41));have hU:Upd Non w W:=by rw [←HW.out];exact Upd.refl.alloc _
 have hb:Blk W w.heap.size 41 (rlCells r a):=by rw [←HW.out];exact Blk.new _ _ _
 have e0:=HW.out;have hK:=(hk.mono (G:=fun k=>k<w.heap.size) (fun _ h _=>h)).upd hU (fun _ _ _ f=>f);have hc0:=rl_cells hb;obtain ⟨c0,c1,c2,c3,c4,c5,c6,c7,c8,c9,c10,c11,c12,c13⟩:=hc0;have CB:=h_ (aBuild_c r a _ W hK hz);have HU:=h_ hU;clear hk hz hK hb hU;unfold rlv at CB ⊢;unfold rlCells at CB e0 ⊢;go_enter Tryz.func22,Tryz.ntmps22;go_wp2_with fail
 refine CB.out.mono ?_;rintro e w2 ⟨v,rfl,u2,hB⟩;have u3:=HU.out.then_non u2;clear hB;go_wp2_with fail
 go_ret;exact ⟨rfl,u3⟩
def PB (w:World) (i:Nat):Prop:=∃cs,Blk w i 38 cs
def IsQ (w:World) (p:Pt) (v:Value):Prop:=∃KA kc,v=pv p KA kc∧PtK w (PB w) p KA kc
theorem PtK.pb {w w':World} {S:Nat→Prop} {p:Pt} {KA:Option Addr} {kc:Nat} (h:PtK w (PB w) p KA kc) (u:Upd S w w') (d:∀i cs,Blk w i 38 cs→¬S i):PtK w' (PB w') p KA kc:=by
 have h1:=PtK.mono (G:=fun i=>PB w i∧PB w' i) (fun i _ q=>⟨q,by obtain ⟨cs,hb⟩:=q;exact ⟨cs,hb.upd u (d i cs hb)⟩⟩) p KA kc h;exact PtK.mono (fun i _ q=>q.2) p KA kc (PtK.upd u (fun i _ q=>by obtain ⟨cs,hb⟩:=q.1;exact d i cs hb) p KA kc h1)
theorem IsQ.upd {w w':World} {S:Nat→Prop} {p:Pt} {v:Value} (h:IsQ w p v) (u:Upd S w w') (d:∀i cs,Blk w i 38 cs→¬S i):IsQ w' p v:=by
 obtain ⟨KA,kc,h1,h2⟩:=h;exact ⟨KA,kc,h1,h2.pb u d⟩
set_option maxRecDepth 100000 in
set_option maxHeartbeats 4000000 in
theorem pair19_c (w:World) (k:Int) (a b:Pt) {v u:Value} (hv:IsQ w a v) (hu:IsQ w b u):Calls Tryz.prog 65 #[.int .i64 k,v,u] w fun e w'=>∃KA kc,e=.returned (pv (q2 k a b) KA kc)∧PtK w' (PB w') (q2 k a b) KA kc∧Upd Non w w':=by
 obtain ⟨KA,ka,rfl,ha⟩:=hv;obtain ⟨KB,kb,rfl,hb⟩:=hu;go_enter Tryz.func65,Tryz.ntmps65;unfold pv;go_wp2_with fail
 refine bodyPost_ret (results_cell_row rfl _ _ (w.heap.size+1+1) 38 #[.int .i64 0,.int .i64 k,.int .i64 0,.int .i64 0,.slice (some ⟨w.heap.size+1+1+1,0,none⟩) 2 2] (0,0) _ rfl ((Blk.new' (by simp)).alloc _) Tryz.underlying38 rfl (by kernel_rfl)) rfl ?_
 obtain ⟨W1,HW1⟩:=nm ((((w.alloc (.cells #[.int .i64 a.v,.int .i64 a.op,.int .i64 a.imm,.int .i64 a.iv,.slice KA a.kids.length ka] 38)).alloc (.cells #[.int .i64 b.v,.int .i64 b.op,.int .i64 b.imm,.int .i64 b.iv,.slice KB b.kids.length kb] 38)).alloc (.cells #[.int .i64 0,.int .i64 k,.int .i64 0,.int .i64 0,.slice (some ⟨w.heap.size+1+1+1,0,none⟩) 2 2] 38)).alloc (.cells #[.int .i64 a.v,.int .i64 a.op,.int .i64 a.imm,.int .i64 a.iv,.slice KA a.kids.length ka,.int .i64 b.v,.int .i64 b.op,.int .i64 b.imm,.int .i64 b.iv,.slice KB b.kids.length kb] 38))
 rw [HW1.out];have hU:Upd Non w W1:=by rw [←HW1.out];exact (((Upd.refl.alloc _).alloc _).alloc _).alloc _
 have hk:Blk W1 (w.heap.size+1+1+1) 38 #[.int .i64 a.v,.int .i64 a.op,.int .i64 a.imm,.int .i64 a.iv,.slice KA a.kids.length ka,.int .i64 b.v,.int .i64 b.op,.int .i64 b.imm,.int .i64 b.iv,.slice KB b.kids.length kb]:=by rw [←HW1.out];exact Blk.new' (by simp)
 refine ⟨_,_,rfl,?_,hU⟩;exact PtK.two _ _ _ _ hk (ha.pb hU (fun _ _ _ f=>f)) (hb.pb hU (fun _ _ _ f=>f)) ⟨_,hk⟩ (by omega)
theorem updG_at {g:Nat→Value} {d:Nat} {v:Value}:updG g (some d) v d=v:=if_pos rfl
def zero14:Array Value:=#[.string ⟨#[]⟩,.int .i64 0,.int .i64 0,.int .i64 0,.int .i64 0,.slice none 0 0,.int .i64 0,.int .i64 0,.int .i64 0,.int .i64 0,.slice none 0 0,.slice none 0 0,.int .i64 0,.int .i64 0]
def IsVarR (n:Nat) (w:World) (v:Value):Prop:=∃b,v=.pointer (some ⟨b,0,none⟩)∧n≤b∧Blk w b 41 zero14
def IsRl (r:Rl) (w:World) (v:Value):Prop:=∃a,v=rlv r a∧RlK w (PB w) r a
theorem RlK.pb {w w':World} {S:Nat→Prop} {r:Rl} {a:RlA} (hc:r.conds=[]) (h:RlK w (PB w) r a) (u:Upd S w w') (d:∀i cs,Blk w i 38 cs→¬S i):RlK w' (PB w') r a:=⟨h.l.pb u d,h.r.pb u d,.inl hc,h.le⟩
def eqv (n:Int):Value:=.agg #[.int .i64 n,.int .i64 0,.int .i64 0,.int .i64 0,.slice none 0 0]
theorem isQ_v (w:World) (n:Int):IsQ w (qv n) (eqv n):=⟨none,0,rfl,PtK.leaf⟩
theorem isQ_c (w:World) (n:Int):IsQ w (q1c n) (.agg #[.int .i64 0,.int .i64 1,.int .i64 n,.int .i64 0,.slice none 0 0]):=⟨none,0,rfl,PtK.leaf⟩
def eV3 (n:Nat) (i:Nat) (g:Nat→Value) (w:World):Prop :=
 match i with
 | 2=>IsQ w exL1 (g 15)
 | 5=>IsQ w (q2 11 (qv 1) (qv 2)) (g 18)
 | 8=>IsQ w (q2 9 (qv 1) (qv 2)) (g 21)
 | 10=>IsQ w (q2 12 (q2 9 (qv 1) (qv 2)) (q1c 1)) (g 23)
 | 11=>IsQ w exR1 (g 24)
 | 12=>IsRl exA w (g 25)
 | 13=>IsVarR n w (g 4)
 | _=>True
def eV5 (n:Nat) (i:Nat) (g:Nat→Value) (w:World):Prop :=
 match i with
 | 2=>IsQ w exL1 (g 33)
 | 5=>IsQ w (q2 10 (qv 1) (qv 2)) (g 36)
 | 6=>IsRl exB w (g 37)
 | 7=>IsVarR n w (g 7)
 | _=>True
def eS5 (i:Nat):List Nat :=
 match i with
 | 2=>[33]
 | 5=>[36]
 | 6=>[37]
 | 7=>[7]
 | _=>[]
def eS3 (i:Nat):List Nat :=
 match i with
 | 2=>[15]
 | 5=>[18]
 | 8=>[21]
 | 10=>[23]
 | 11=>[24]
 | 12=>[25]
 | 13=>[4]
 | _=>[]
set_option maxRecDepth 100000 in
set_option maxHeartbeats 16000000 in
theorem auExamples_c (w:World):Calls Tryz.prog 26 #[] w fun e w'=>e=.returned (.bool true)∧Upd Non w w':=by
 go_enter Tryz.func26,Tryz.ntmps26
 go_upto_region 3 with fail
 obtain ⟨W0,HW0⟩:=nm (((w.alloc (.cells #[.int .i64 1,.int .i64 0,.int .i64 0,.int .i64 0,.slice none 0 0] 38)).alloc (.cells #[.int .i64 2,.int .i64 0,.int .i64 0,.int .i64 0,.slice none 0 0] 38)).alloc (.cells #[.int .i64 0,.int .i64 1,.int .i64 1,.int .i64 0,.slice none 0 0] 38))
 rw [HW0.out];have hU0:Upd Non w W0:=by rw [←HW0.out];exact ((Upd.refl.alloc _).alloc _).alloc _
 have hb1:Blk W0 w.heap.size 38 #[.int .i64 1,.int .i64 0,.int .i64 0,.int .i64 0,.slice none 0 0]:=by rw [←HW0.out];exact ((Blk.new' rfl).alloc _).alloc _
 have hb2:Blk W0 (w.heap.size+1) 38 #[.int .i64 2,.int .i64 0,.int .i64 0,.int .i64 0,.slice none 0 0]:=by rw [←HW0.out];exact (Blk.new' (by simp)).alloc _
 have hb3:Blk W0 (w.heap.size+1+1) 38 #[.int .i64 0,.int .i64 1,.int .i64 1,.int .i64 0,.slice none 0 0]:=by rw [←HW0.out];exact Blk.new' (by simp)
 have hs1:=hb1.lt;have hs2:=hb2.lt;have hs3:=hb3.lt;obtain ⟨a1,ha1⟩:∃n,w.heap.size=n:=⟨_,rfl⟩;obtain ⟨a2,ha2⟩:∃n,w.heap.size+1=n:=⟨_,rfl⟩;obtain ⟨a3,ha3⟩:∃n,w.heap.size+1+1=n:=⟨_,rfl⟩;rw [ha1] at hb1 hs1;rw [ha2] at hb2 hs2;rw [ha3] at hb3 hs3;rw [ha3,ha2,ha1]
 have HSS:Hid (∀(S:Nat→Prop) (w':World),Upd S W0 w'→(∀i cs,Blk W0 i 38 cs→¬S i)→w'.cell? ⟨a1,0,none⟩=some (.int .i64 1)∧w'.cell? ⟨a1,1,none⟩=some (.int .i64 0)∧w'.cell? ⟨a1,2,none⟩=some (.int .i64 0)∧w'.cell? ⟨a1,3,none⟩=some (.int .i64 0)∧w'.cell? ⟨a1,4,none⟩=some (.slice none 0 0) ∧
   w'.cell? ⟨a2,0,none⟩=some (.int .i64 2)∧w'.cell? ⟨a2,1,none⟩=some (.int .i64 0)∧w'.cell? ⟨a2,2,none⟩=some (.int .i64 0)∧w'.cell? ⟨a2,3,none⟩=some (.int .i64 0)∧w'.cell? ⟨a2,4,none⟩=some (.slice none 0 0) ∧
   w'.cell? ⟨a3,0,none⟩=some (.int .i64 0)∧w'.cell? ⟨a3,1,none⟩=some (.int .i64 1)∧w'.cell? ⟨a3,2,none⟩=some (.int .i64 1)∧w'.cell? ⟨a3,3,none⟩=some (.int .i64 0)∧w'.cell? ⟨a3,4,none⟩=some (.slice none 0 0)):=fun S w' u d=>by
  have h1:=hb1.upd u (d _ _ hb1);have h2:=hb2.upd u (d _ _ hb2);have h3:=hb3.upd u (d _ _ hb3);exact ⟨h1.cell 0,h1.cell 1,h1.cell 2,h1.cell 3,h1.cell 4,h2.cell 0,h2.cell 1,h2.cell 2,h2.cell 3,h2.cell 4,h3.cell 0,h3.cell 1,h3.cell 2,h3.cell 3,h3.cell 4⟩
 have HU0:=h_ hU0;clear hb1 hb2 hb3 hs1 hs2 hs3 hU0 ha1 ha2 ha3;obtain ⟨wD,HwD⟩:=nm W0.drew;have uD:Upd Non W0 wD:=by rw [←HwD.out];exact Upd.refl.drew
 refine wp_region_held_drew (S:=fun w'=>w'.cell? ⟨a1,0,none⟩=some (.int .i64 1)∧w'.cell? ⟨a1,1,none⟩=some (.int .i64 0)∧w'.cell? ⟨a1,2,none⟩=some (.int .i64 0)∧w'.cell? ⟨a1,3,none⟩=some (.int .i64 0)∧w'.cell? ⟨a1,4,none⟩=some (.slice none 0 0)∧w'.cell? ⟨a2,0,none⟩=some (.int .i64 2)∧w'.cell? ⟨a2,1,none⟩=some (.int .i64 0)∧w'.cell? ⟨a2,2,none⟩=some (.int .i64 0)∧w'.cell? ⟨a2,3,none⟩=some (.int .i64 0)∧w'.cell? ⟨a2,4,none⟩=some (.slice none 0 0)∧w'.cell? ⟨a3,0,none⟩=some (.int .i64 0)∧w'.cell? ⟨a3,1,none⟩=some (.int .i64 1)∧w'.cell? ⟨a3,2,none⟩=some (.int .i64 1)∧w'.cell? ⟨a3,3,none⟩=some (.int .i64 0)∧w'.cell? ⟨a3,4,none⟩=some (.slice none 0 0)) (by kernel_rfl) (by rw [HwD.out];exact HSS.out Non wD uD (fun _ _ _ f=>f)) (fun hHeld=>?_)
 rw [HwD.out] at hHeld ⊢;refine wpT 0 ?_;(try simp only [y_,z_]);refine wpT 1 ?_;(try simp only [y_,z_]);refine wpT 3 ?_;(try simp only [y_,z_]);refine wpT 4 ?_;(try simp only [y_,z_]);refine wpT 6 ?_;(try simp only [y_,z_]);refine wpT 7 ?_;(try simp only [y_,z_]);refine wpT 9 ?_;(try simp only [y_,z_]);refine wpAnyH_facts (fuel:=1) [2,5,8,10,11,12,13] [15,18,21,23,24,25,4] eS3 (fun w w'=>Upd Non w w') (eV3 W0.heap.size) (fun _ _ _=>False) (by kernel_rfl) (by decide) hHeld Upd.refl (fun _ _ h k=>h.then_non k) ?_ (fun _ _ h=>h.size) (fun _ _ _ _ _ _ h=>h) ?_ ?_
 ·intro i hi g g' w1 w2 _ hR hs hV;simp only [List.mem_cons,List.not_mem_nil,or_false] at hi;rcases hi with rfl | rfl | rfl | rfl | rfl | rfl | rfl <;> simp only [eS3,List.mem_cons,List.not_mem_nil,or_false,forall_eq] at hs <;> simp only [eV3,hs] at hV ⊢
  ·exact hV.upd hR (fun _ _ _ f=>f)
  ·exact hV.upd hR (fun _ _ _ f=>f)
  ·exact hV.upd hR (fun _ _ _ f=>f)
  ·exact hV.upd hR (fun _ _ _ f=>f)
  ·exact hV.upd hR (fun _ _ _ f=>f)
  ·obtain ⟨a,h1,h2⟩:=hV;exact ⟨a,h1,h2.pb rfl hR (fun _ _ _ f=>f)⟩
  ·obtain ⟨b,h1,h2,h3⟩:=hV;exact ⟨b,h1,h2,h3.upd hR (fun f=>f)⟩
 ·intro i hi;simp only [List.mem_cons,List.not_mem_nil,or_false] at hi;rcases hi with rfl | rfl | rfl | rfl | rfl | rfl | rfl
  ·refine StepF.of rfl (fun g w1 hR hS hd K hK=>?_);simp only [y_] at hK ⊢;clear hd;simp only [mkA,List.foldl_cons,List.foldl_nil,z_] at hK ⊢;go_simp;refine (pair19_c w1 4 (qv 1) (qv 2) (isQ_v _ 1) (isQ_v _ 2)).mono ?_;rintro e w2 ⟨KA,kc,rfl,hk,hu⟩;go_wp2_with fail
   refine hK.out _ _ hu (HSS.out Non w2 ((uD.then_non hR).then_non hu) (fun _ _ _ f=>f)) ?_ (fun _ h=>h.elim);show IsQ w2 _ _;rw [updG_at];exact ⟨KA,kc,rfl,hk⟩
  ·refine StepF.of rfl (fun g w1 hR hS hd K hK=>?_);simp only [y_] at hK ⊢;clear hd;simp only [mkA,List.foldl_cons,List.foldl_nil,z_] at hK ⊢;go_simp;refine (pair19_c w1 11 (qv 1) (qv 2) (isQ_v _ 1) (isQ_v _ 2)).mono ?_;rintro e w2 ⟨KA,kc,rfl,hk,hu⟩;go_wp2_with fail
   refine hK.out _ _ hu (HSS.out Non w2 ((uD.then_non hR).then_non hu) (fun _ _ _ f=>f)) ?_ (fun _ h=>h.elim);show IsQ w2 _ _;rw [updG_at];exact ⟨KA,kc,rfl,hk⟩
  ·refine StepF.of rfl (fun g w1 hR hS hd K hK=>?_);simp only [y_] at hK ⊢;clear hd;simp only [mkA,List.foldl_cons,List.foldl_nil,z_] at hK ⊢;go_simp;refine (pair19_c w1 9 (qv 1) (qv 2) (isQ_v _ 1) (isQ_v _ 2)).mono ?_;rintro e w2 ⟨KA,kc,rfl,hk,hu⟩;go_wp2_with fail
   refine hK.out _ _ hu (HSS.out Non w2 ((uD.then_non hR).then_non hu) (fun _ _ _ f=>f)) ?_ (fun _ h=>h.elim);show IsQ w2 _ _;rw [updG_at];exact ⟨KA,kc,rfl,hk⟩
  ·refine StepF.of rfl (fun g w1 hR hS hd K hK=>?_);simp only [y_] at hK ⊢;obtain ⟨K8,k8,e8,h8⟩:IsQ w1 (q2 9 (qv 1) (qv 2)) (g 21):=hd 8 (by kernel_rfl);unfold pv at e8;clear hd;simp only [mkA,List.foldl_cons,List.foldl_nil,z_,e8] at hK ⊢;go_simp;refine (pair19_c w1 12 (q2 9 (qv 1) (qv 2)) (q1c 1) ⟨K8,k8,rfl,h8⟩ (isQ_c _ 1)).mono ?_;rintro e w2 ⟨KA,kc,rfl,hk,hu⟩;go_wp2_with fail
   refine hK.out _ _ hu (HSS.out Non w2 ((uD.then_non hR).then_non hu) (fun _ _ _ f=>f)) ?_ (fun _ h=>h.elim);show IsQ w2 _ _;rw [updG_at];exact ⟨KA,kc,rfl,hk⟩
  ·refine StepF.of rfl (fun g w1 hR hS hd K hK=>?_);simp only [y_] at hK ⊢;obtain ⟨K5,k5,e5,h5⟩:IsQ w1 (q2 11 (qv 1) (qv 2)) (g 18):=hd 5 (by kernel_rfl);obtain ⟨K10,k10,e10,h10⟩:IsQ w1 (q2 12 (q2 9 (qv 1) (qv 2)) (q1c 1)) (g 23):=hd 10 (by kernel_rfl);unfold pv at e5 e10;clear hd;simp only [mkA,List.foldl_cons,List.foldl_nil,z_,e5,e10] at hK ⊢;go_simp;refine (pair19_c w1 4 (q2 11 (qv 1) (qv 2)) (q2 12 (q2 9 (qv 1) (qv 2)) (q1c 1)) ⟨K5,k5,rfl,h5⟩ ⟨K10,k10,rfl,h10⟩).mono ?_;rintro e w2 ⟨KA,kc,rfl,hk,hu⟩;go_wp2_with fail
   refine hK.out _ _ hu (HSS.out Non w2 ((uD.then_non hR).then_non hu) (fun _ _ _ f=>f)) ?_ (fun _ h=>h.elim);show IsQ w2 _ _;rw [updG_at];exact ⟨KA,kc,rfl,hk⟩
  ·refine StepF.of rfl (fun g w1 hR hS hd K hK=>?_);simp only [y_] at hK ⊢;obtain ⟨K2,k2,e2,h2⟩:IsQ w1 exL1 (g 15):=hd 2 (by kernel_rfl);obtain ⟨K11,k11,e11,h11⟩:IsQ w1 exR1 (g 24):=hd 11 (by kernel_rfl);unfold pv at e2 e11;clear hd;simp only [mkA,List.foldl_cons,List.foldl_nil,z_,e2,e11] at hK ⊢;go_simp;refine hK.out _ _ Upd.refl hS ?_ (fun _ h=>h.elim);show IsRl exA w1 _;rw [updG_at];exact ⟨⟨K2,k2,K11,k11,none,0⟩,rfl,⟨h2,h11,.inl rfl,Nat.le_refl _⟩⟩
  ·refine StepF.of rfl (fun g w1 hR hS hd K hK=>?_);simp only [y_] at hK ⊢;clear hd;simp only [mkA,List.foldl_cons,List.foldl_nil,z_] at hK ⊢;go_simp;refine hK.out _ _ (Upd.refl.alloc _) (HSS.out Non _ ((uD.then_non hR).alloc _) (fun _ _ _ f=>f)) ?_ (fun _ h=>h.elim);show IsVarR _ _ _;rw [updG_at];exact ⟨w1.heap.size,rfl,by have h1:=uD.size;have h2:=hR.size;omega,Blk.new _ _ _⟩
 ·intro g w1 hR hS hV _;obtain ⟨aA,e25,hkA⟩:IsRl exA w1 (g 25):=hV 12 (by simp);obtain ⟨b4,e4,hb4n,hb4⟩:IsVarR W0.heap.size w1 (g 4):=hV 13 (by simp);clear hV;unfold rlv rlCells at e25;simp only [mkA,List.foldl_cons,List.foldl_nil,z_,e25,e4];clear e25 e4;generalize g 15=g15;generalize g 18=g18;generalize g 21=g21;generalize g 23=g23;generalize g 24=g24;clear g;unfold zero14 at hb4;have hN:∀i cs,Blk w1 i 38 cs→¬i=b4:=fun i cs hb e=>by subst e;exact hb.ne_ hb4 (by decide) rfl
  have hN0:∀i cs,Blk W0 i 38 cs→¬i=b4:=fun i cs hb e=>hN i cs (hb.upd (uD.then_non hR) (fun f=>f)) e
  have q0:=hb4.cell 0;have q1:=hb4.cell 1;have q2:=hb4.cell 2;have q3:=hb4.cell 3;have q4:=hb4.cell 4;have q5:=hb4.cell 5;have q6:=hb4.cell 6;have q7:=hb4.cell 7;have q8:=hb4.cell 8;have q9:=hb4.cell 9;have q10:=hb4.cell 10;have q11:=hb4.cell 11;have q12:=hb4.cell 12;have q13:=hb4.cell 13;have f0:=hb4.frozen;refine aR_ (rs:=[14]) (by kernel_rfl) (by simp) ?_;refine aC_ rfl (fun K hK=>?_) aN_;go_simp;obtain ⟨X1,HX1⟩:=nm (set14 w1 b4 (.string exA.name) (.int .i64 exA.l.v) (.int .i64 exA.l.op) (.int .i64 exA.l.imm) (.int .i64 exA.l.iv) (.slice aA.la exA.l.kids.length aA.lc) (.int .i64 exA.r.v) (.int .i64 exA.r.op) (.int .i64 exA.r.imm) (.int .i64 exA.r.iv) (.slice aA.ra exA.r.kids.length aA.rc) (.slice aA.ca exA.conds.length aA.cc) (.int .i64 exA.vars) (.int .i64 exA.imms))
  have uX:Upd (·=b4) w1 X1:=by rw [←HX1.out];exact set14_upd _ _ _ _ _ _ _ _ _ _ _ _ _ _ _ _
  have hX:Blk X1 b4 41 (rlCells exA aA):=by rw [←HX1.out];exact set14_blk hb4 _ _ _ _ _ _ _ _ _ _ _ _ _ _
  have hkX:=hkA.pb rfl uX hN;have uWX:Upd (·=b4) W0 X1:=((uD.then_non hR).mono (fun _ _ f=>f.elim)).trans uX (fun _ _ q=>q);have hSX:=HSS.out (·=b4) X1 uWX hN0;rw [←HX1.out] at hSX;refine hK.out _ _ ?_ (fun hHeld=>?_)
  ·exact hSX
  clear hK K;(try simp only [y_,z_]);rw [set14_eq,HX1.out];clear q0 q1 q2 q3 q4 q5 q6 q7 q8 q9 q10 q11 q12 q13 f0 hb4 hSX hkA hN hHeld;have HUX:=h_ uWX;have HN0:=h_ hN0;have HXB:=h_ hX;have HKX:=h_ hkX;have hzA:RlSz exA:=⟨by decide +kernel,by decide +kernel,by decide +kernel,by decide +kernel⟩;have hzB:RlSz exB:=⟨by decide +kernel,by decide +kernel,by decide +kernel,by decide +kernel⟩;have HZA:=h_ hzA;have HZB:=h_ hzB;have CP:=h_ (aProve_c exA aA _ X1 hkX hzA);unfold rlv rlCells at CP;obtain ⟨c0,c1,c2,c3,c4,c5,c6,c7,c8,c9,c10,c11,c12,c13⟩:=rl_cells hX;clear uX hX hkX hzA hzB hN0 uWX hS hR uD HX1 HwD HW0;refine aD_ (by kernel_rfl) ?_ _;go_wp2_with fail
  refine CP.out.mono ?_;rintro e w3 ⟨u3,hP⟩
  have hP2:∃OA on oc,e=.returned (.tuple #[.slice OA on oc,.bool true])∧ElO ElAS 2 122 w3 (U8B w3) OA on oc ((lvls exA 65).map asE):=by
   rcases hP with ⟨l,OA,on,oc,hl,he,hO,_⟩ | ⟨hno,_⟩
   ·rw [exA_aut.1] at hl;injection hl with hl
    subst hl;exact ⟨OA,on,oc,he,hO⟩
   ·rw [exA_aut.1] at hno;cases hno
  obtain ⟨OA,on,oc,rfl,hO⟩:=hP2;have hon:((lvls exA 65).map asE).length=on:=hO.1.symm;have hon64:64<on:=by rw [←hon,List.length_map];exact exA_aut.2.1
  have ton:decide ((on:Int) > 64)=true:=dT_ (by omega);have HON:=h_ hon;have HO:=h_ hO;have HU3:Hid (Upd (·=b4) W0 w3):=HUX.out.then_non u3;have HX3:=h_ (HXB.out.upd u3 (fun f=>f));have HK3:=h_ (HKX.out.pb rfl u3 (fun _ _ _ f=>f));clear hP hon hO c0 c1 c2 c3 c4 c5 c6 c7 c8 c9 c10 c11 c12 c13 CP u3;obtain ⟨wD,HwD⟩:=nm w3.drew;have uD:Upd Non w3 wD:=by rw [←HwD.out];exact Upd.refl.drew
  go_wp2_with fail
  refine wp_region_held_drew (S:=fun w'=>w'.cell? ⟨a1,0,none⟩=some (.int .i64 1)∧w'.cell? ⟨a1,1,none⟩=some (.int .i64 0)∧w'.cell? ⟨a1,2,none⟩=some (.int .i64 0)∧w'.cell? ⟨a1,3,none⟩=some (.int .i64 0)∧w'.cell? ⟨a1,4,none⟩=some (.slice none 0 0)∧w'.cell? ⟨a2,0,none⟩=some (.int .i64 2)∧w'.cell? ⟨a2,1,none⟩=some (.int .i64 0)∧w'.cell? ⟨a2,2,none⟩=some (.int .i64 0)∧w'.cell? ⟨a2,3,none⟩=some (.int .i64 0)∧w'.cell? ⟨a2,4,none⟩=some (.slice none 0 0)∧w'.cell? ⟨a3,0,none⟩=some (.int .i64 0)∧w'.cell? ⟨a3,1,none⟩=some (.int .i64 1)∧w'.cell? ⟨a3,2,none⟩=some (.int .i64 1)∧w'.cell? ⟨a3,3,none⟩=some (.int .i64 0)∧w'.cell? ⟨a3,4,none⟩=some (.slice none 0 0)) (by kernel_rfl) (by rw [HwD.out];exact HSS.out _ wD (HU3.out.then_non uD) HN0.out) (fun hHeld=>?_)
  rw [HwD.out] at hHeld ⊢;refine wpT 0 ?_;(try simp only [y_,z_]);refine wpT 1 ?_;(try simp only [y_,z_]);refine wpT 3 ?_;(try simp only [y_,z_]);refine wpT 4 ?_;(try simp only [y_,z_]);refine wpAnyH_facts (fuel:=1) [2,5,6,7] [33,36,37,7] eS5 (fun w w'=>Upd Non w w') (eV5 w3.heap.size) (fun _ _ _=>False) (by kernel_rfl) (by decide) hHeld Upd.refl (fun _ _ h k=>h.then_non k) ?_ (fun _ _ h=>h.size) (fun _ _ _ _ _ _ h=>h) ?_ ?_
  ·intro i hi g g' w1 w2 _ hR hs hV;simp only [List.mem_cons,List.not_mem_nil,or_false] at hi;rcases hi with rfl | rfl | rfl | rfl <;> simp only [eS5,List.mem_cons,List.not_mem_nil,or_false,forall_eq] at hs <;> simp only [eV5,hs] at hV ⊢
   ·exact hV.upd hR (fun _ _ _ f=>f)
   ·exact hV.upd hR (fun _ _ _ f=>f)
   ·obtain ⟨a,h1,h2⟩:=hV;exact ⟨a,h1,h2.pb rfl hR (fun _ _ _ f=>f)⟩
   ·obtain ⟨b,h1,h2,h3⟩:=hV;exact ⟨b,h1,h2,h3.upd hR (fun f=>f)⟩
  ·intro i hi;simp only [List.mem_cons,List.not_mem_nil,or_false] at hi;rcases hi with rfl | rfl | rfl | rfl
   ·refine StepF.of rfl (fun g w1 hR hS hd K hK=>?_);simp only [y_] at hK ⊢;clear hd;simp only [mkA,List.foldl_cons,List.foldl_nil,z_] at hK ⊢;go_simp;refine (pair19_c w1 4 (qv 1) (qv 2) (isQ_v _ 1) (isQ_v _ 2)).mono ?_;rintro e w2 ⟨KA,kc,rfl,hk,hu⟩;go_wp2_with fail
    refine hK.out _ _ hu (HSS.out _ w2 (((HU3.out.then_non uD).then_non hR).then_non hu) HN0.out) ?_ (fun _ h=>h.elim);show IsQ w2 _ _;rw [updG_at];exact ⟨KA,kc,rfl,hk⟩
   ·refine StepF.of rfl (fun g w1 hR hS hd K hK=>?_);simp only [y_] at hK ⊢;clear hd;simp only [mkA,List.foldl_cons,List.foldl_nil,z_] at hK ⊢;go_simp;refine (pair19_c w1 10 (qv 1) (qv 2) (isQ_v _ 1) (isQ_v _ 2)).mono ?_;rintro e w2 ⟨KA,kc,rfl,hk,hu⟩;go_wp2_with fail
    refine hK.out _ _ hu (HSS.out _ w2 (((HU3.out.then_non uD).then_non hR).then_non hu) HN0.out) ?_ (fun _ h=>h.elim);show IsQ w2 _ _;rw [updG_at];exact ⟨KA,kc,rfl,hk⟩
   ·refine StepF.of rfl (fun g w1 hR hS hd K hK=>?_);simp only [y_] at hK ⊢;obtain ⟨K2,k2,e2,h2⟩:IsQ w1 exL1 (g 33):=hd 2 (by kernel_rfl);obtain ⟨K5,k5,e5,h5⟩:IsQ w1 (q2 10 (qv 1) (qv 2)) (g 36):=hd 5 (by kernel_rfl);unfold pv at e2 e5;clear hd;simp only [mkA,List.foldl_cons,List.foldl_nil,z_,e2,e5] at hK ⊢;go_simp;refine hK.out _ _ Upd.refl hS ?_ (fun _ h=>h.elim);show IsRl exB w1 _;rw [updG_at];exact ⟨⟨K2,k2,K5,k5,none,0⟩,rfl,⟨h2,h5,.inl rfl,Nat.le_refl _⟩⟩
   ·refine StepF.of rfl (fun g w1 hR hS hd K hK=>?_);simp only [y_] at hK ⊢;clear hd;simp only [mkA,List.foldl_cons,List.foldl_nil,z_] at hK ⊢;go_simp;refine hK.out _ _ (Upd.refl.alloc _) (HSS.out _ _ (((HU3.out.then_non uD).then_non hR).alloc _) HN0.out) ?_ (fun _ h=>h.elim);show IsVarR _ _ _;rw [updG_at];exact ⟨w1.heap.size,rfl,by have h1:=uD.size;have h2:=hR.size;omega,Blk.new _ _ _⟩
  ·intro g w1 hR hS hV _;obtain ⟨aB,e37,hkB⟩:IsRl exB w1 (g 37):=hV 6 (by simp);obtain ⟨b7,e7,hb7n,hb7⟩:IsVarR w3.heap.size w1 (g 7):=hV 7 (by simp);clear hV;unfold rlv rlCells at e37;simp only [mkA,List.foldl_cons,List.foldl_nil,z_,e37,e7];clear e37 e7;generalize g 33=g33;generalize g 36=g36;clear g;unfold zero14 at hb7;have hN:∀i cs,Blk w1 i 38 cs→¬i=b7:=fun i cs hb e=>by subst e;exact hb.ne_ hb7 (by decide) rfl
   have hu31:=uD.then_non hR;have hb47:b4≠b7:=by have:=HX3.out.lt;omega
   have q0:=hb7.cell 0;have q1:=hb7.cell 1;have q2:=hb7.cell 2;have q3:=hb7.cell 3;have q4:=hb7.cell 4;have q5:=hb7.cell 5;have q6:=hb7.cell 6;have q7:=hb7.cell 7;have q8:=hb7.cell 8;have q9:=hb7.cell 9;have q10:=hb7.cell 10;have q11:=hb7.cell 11;have q12:=hb7.cell 12;have q13:=hb7.cell 13;have f0:=hb7.frozen;refine aR_ (rs:=[8]) (by kernel_rfl) (by simp) ?_;refine aC_ rfl (fun K hK=>?_) aN_;go_simp;obtain ⟨X2,HX2⟩:=nm (set14 w1 b7 (.string exB.name) (.int .i64 exB.l.v) (.int .i64 exB.l.op) (.int .i64 exB.l.imm) (.int .i64 exB.l.iv) (.slice aB.la exB.l.kids.length aB.lc) (.int .i64 exB.r.v) (.int .i64 exB.r.op) (.int .i64 exB.r.imm) (.int .i64 exB.r.iv) (.slice aB.ra exB.r.kids.length aB.rc) (.slice aB.ca exB.conds.length aB.cc) (.int .i64 exB.vars) (.int .i64 exB.imms))
   have uX:Upd (·=b7) w1 X2:=by rw [←HX2.out];exact set14_upd _ _ _ _ _ _ _ _ _ _ _ _ _ _ _ _
   have hX:Blk X2 b7 41 (rlCells exB aB):=by rw [←HX2.out];exact set14_blk hb7 _ _ _ _ _ _ _ _ _ _ _ _ _ _
   have hkX:=hkB.pb rfl uX hN;have u3X:Upd (·=b7) w3 X2:=(hu31.mono (fun _ _ f=>f.elim)).trans uX (fun _ _ q=>q);have uWX:Upd (fun i=>i=b4∨i=b7) W0 X2:=(HU3.out.mono (fun _ _ q=>.inl q)).trans u3X (fun _ _ q=>.inr q)
   have hN7:∀i cs,Blk W0 i 38 cs→¬(i=b4∨i=b7):=fun i cs hb e=>by
    rcases e with e | e
    ·exact HN0.out i cs hb e
    ·have h1:=hb.lt;have h2:=HU3.out.size;omega
   have hSX:=HSS.out _ X2 uWX hN7;rw [←HX2.out] at hSX;refine hK.out _ _ ?_ (fun hHeld=>?_)
   ·exact hSX
   clear hK K;(try simp only [y_,z_]);rw [set14_eq,HX2.out];have HX4:=h_ (HX3.out.upd u3X hb47);have HK4:=h_ (HK3.out.pb rfl u3X (fun i cs hb e=>by have:=hb.lt;omega));have HO4:=h_ (HO.out.u8 elAS u3X (fun i hi e=>by obtain ⟨_,_,ho,_⟩:=HO.out;have:=ho.lt hi;omega) (fun i cs hb e=>by have:=hb.lt;omega))
   have HKB:=h_ hkX;have HXB7:=h_ hX
   have HUF:Hid (Upd Non w X2):=HU0.out.trans uWX (fun i hi q=>by
    have hs:=HU0.out.size;rcases q with q | q
    ·omega
    ·have h2:=HU3.out.size;omega)
   have CP:=h_ (aProve_c exB aB _ X2 hkX HZB.out);unfold rlv rlCells at CP;obtain ⟨c0,c1,c2,c3,c4,c5,c6,c7,c8,c9,c10,c11,c12,c13⟩:=rl_cells hX;clear q0 q1 q2 q3 q4 q5 q6 q7 q8 q9 q10 q11 q12 q13 f0 hb7 hSX hkB hN hHeld uX hX hkX u3X uWX hN7 hS hR uD HX2 HwD hu31;refine aD_ (by kernel_rfl) ?_ _;go_wp2_with fail
   refine CP.out.mono ?_;rintro e w5 ⟨u5,hP⟩
   have hP2:e=.returned (.tuple #[.slice none 0 0,.bool false]):=by
    rcases hP with ⟨l,_,_,_,hl,_⟩ | ⟨_,he⟩
    ·rw [exB_aut] at hl;cases hl
    ·exact he
   subst hP2;have hX5:=HX4.out.upd u5 (fun f=>f);have hX57:=HXB7.out.upd u5 (fun f=>f);have hk5:=HK4.out.pb rfl u5 (fun _ _ _ f=>f);have hkb5:=HKB.out.pb rfl u5 (fun _ _ _ f=>f);have hO5:=HO4.out.u8 elAS u5 (fun _ _ f=>f) (fun _ _ _ f=>f);have CC:=h_ (aCheck_c exA aA _ w5 hk5 HZA.out (lc:=oc) (hO5.view elAS (F:=fun _=>True) (fun _ _=>trivial) (fun _ _ _=>trivial)) (by rw [List.length_map];have:=exA_aut.2.2;omega))
   rw [HON.out,exA_check] at CC;have CA:=h_ (fun (w':World) (u:Upd Non w5 w')=>aApplicable_c exB aB _ w' (hkb5.pb rfl u (fun _ _ _ f=>f)) HZB.out);rw [exB_appl] at CA;have CN:=h_ (fun (w':World) (u:Upd Non w5 w')=>aCheck_c exA aA _ w' (hk5.pb rfl u (fun _ _ _ f=>f)) HZA.out (lc:=0) (G:=fun _=>True) (LA:=none) (L:=[]) ElV.nil (by decide))
   rw [exA_none] at CN;have HX5:=h_ hX5;have HX57:=h_ hX57;have HU5:=h_ (HUF.out.then_non u5);unfold rlv rlCells at CC CA CN;obtain ⟨d0,d1,d2,d3,d4,d5,d6,d7,d8,d9,d10,d11,d12,d13⟩:=rl_cells hX5;clear hP hX5 hX57 hk5 hkb5 hO5 u5 c0 c1 c2 c3 c4 c5 c6 c7 c8 c9 c10 c11 c12 c13 CP;go_wp2_with fail
   refine CC.out.mono ?_;rintro e w6 ⟨rfl,u6⟩;obtain ⟨c0,c1,c2,c3,c4,c5,c6,c7,c8,c9,c10,c11,c12,c13⟩:=rl_cells (HX57.out.upd u6 (fun f=>f));clear d0 d1 d2 d3 d4 d5 d6 d7 d8 d9 d10 d11 d12 d13;go_wp2_with fail
   refine (CA.out w6 u6).mono ?_;rintro e w7 ⟨rfl,u7⟩;obtain ⟨d0,d1,d2,d3,d4,d5,d6,d7,d8,d9,d10,d11,d12,d13⟩:=rl_cells (HX5.out.upd (u6.then_non u7) (fun f=>f));clear c0 c1 c2 c3 c4 c5 c6 c7 c8 c9 c10 c11 c12 c13;go_wp2_with fail
   refine (CN.out w7 (u6.then_non u7)).mono ?_;rintro e w8 ⟨rfl,u8⟩;go_wp2_with fail
   go_ret;exact ⟨rfl,HU5.out.then_non ((u6.then_non u7).then_non u8)⟩
def pM (n:Int):Int:=(n.tdiv 12) % 1000
def lfA (vars:Int) (n:Int):Pt:=if pM n % 4=0 then .mk 0 1 (wordF (pM n) n) 0 [] else .mk (1+pM n % vars) 0 0 0 []
def patS (vars:Int) (dp tests:Bool) (g1:Bool→List Int→Pt×List Int) (g2:List Int→Pt×List Int) (ys:List Int):Pt×List Int :=
 let n:=ys.headD 0
 if (dp=true∧n % 12<6)∨n % 12<3 then (lfA vars n,ys.tail)
 else if n % 12<5 then (.mk 0 (if pM n % 2=0 then 20 else 21) 0 0 [(g1 tests ys.tail).1],(g1 tests ys.tail).2)
 else if n % 12<6 then (q2 12 (g1 tests ys.tail).1 (q1c (pM n % 3)),(g1 tests ys.tail).2)
 else if n % 12<7∧tests=true then (q2 (15+pM n % 5) (g2 ys.tail).1 (g2 (g2 ys.tail).2).1,(g2 (g2 ys.tail).2).2)
 else if n % 12<8∧tests=true then (.mk 0 22 0 0 [(g1 false ys.tail).1,(g2 (g1 false ys.tail).2).1,(g2 (g2 (g1 false ys.tail).2).2).1],(g2 (g2 (g1 false ys.tail).2).2).2)
 else (q2 ([4,5,9,10,11].getD (pM n % 5).toNat 0) (g1 tests ys.tail).1 (g1 tests (g1 tests ys.tail).2).1,(g1 tests (g1 tests ys.tail).2).2)
def lfG (vars:Int) (ys:List Int):Pt×List Int:=(lfA vars (ys.headD 0),ys.tail)
def patA (vars:Int):Nat→Bool→List Int→Pt×List Int
 | 0=>fun _=>lfG vars
 | 1=>fun _=>lfG vars
 | f+2=>fun tests=>patS vars (decide (f=0)) tests (patA vars (f+1)) (patA vars f false)
theorem mF (k:Nat) (hk:0<k) (m:Nat):∃r:Nat,(m:Int).tmod k=(r:Int)∧(m:Int) % k=(r:Int)∧r<k:=⟨m % k,by rw [Int.tmod_eq_emod_of_nonneg (by omega)];simp,by simp,Nat.mod_lt _ hk⟩
theorem tdiv_I64 {x k:Int} (h:I64 x) (hk:1≤k):I64 (x.tdiv k):=by
 unfold I64 at h ⊢;by_cases h0:0≤x
 ·have h1:=Int.tdiv_nonneg h0 (show 0≤k by omega);have h2:=Int.tdiv_le_self k h0;omega
 ·have e:x.tdiv k = -((-x).tdiv k):=by rw [Int.neg_tdiv,Int.neg_neg]
  have h1:=Int.tdiv_nonneg (show 0 ≤ -x by omega) (show 0≤k by omega);have h2:=Int.tdiv_le_self k (show 0 ≤ -x by omega);omega
def PatC (deep vars:Int) (tests:Bool) (g:List Int→Pt×List Int):Prop :=
 ∀(w:World) (F:Nat→Prop) (p:Nat) (xs:List Int),(∀k,F k→k≠p)→Rd w F p xs →
  Calls Tryz.prog 58 #[.pointer (some ⟨p,0,none⟩),.int .i64 deep,.int .i64 vars,.bool tests] w fun e w'=>∃KA kc,e=.returned (pv (g xs).1 KA kc)∧PtK w' (fun k=>w.heap.size≤k) (g xs).1 KA kc∧Rd w' F p (g xs).2∧Upd (·=p) w w'
set_option maxRecDepth 100000 in
set_option maxHeartbeats 16000000 in
theorem patLeaf_c (vars:Nat) (h1:1≤vars) (h2:vars≤6) (deep:Int) (hd:3≤deep) (hd4:deep≤4) (tests:Bool):PatC deep vars tests (lfG vars):=by
 intro w F p xs hF hr;have hlt:=hr.lt;have HX:=h_ hr.i64;have hFF:∀k,(F k∧k<w.heap.size)→k≠p:=fun k h=>hF k h.1
 have hrF:=hr.mono (G:=fun k=>F k∧k<w.heap.size) (fun k hk h=>⟨h,hk⟩);obtain ⟨W,HW⟩:=nm (w.alloc (.cells #[.int .i64 0,.int .i64 0,.int .i64 0,.int .i64 0,.slice none 0 0] 38));have hU:Upd Non w W:=by rw [←HW.out];exact Upd.refl.alloc _
 have hb:Blk W w.heap.size 38 #[.int .i64 0,.int .i64 0,.int .i64 0,.int .i64 0,.slice none 0 0]:=by rw [←HW.out];exact Blk.new _ _ _
 have hsW:W.heap.size=w.heap.size+1:=by rw [←HW.out];simp
 have e0:=HW.out;have C1:=h_ (rdNext_c hFF (hrF.upd hU (fun _ _ _ f=>f) (fun f=>f)));clear hrF hr hFF;obtain ⟨G,HGG⟩:∃g,Hid (lfG (vars:Int)=g):=nm _;rw [HGG.out];have HG:Hid (G xs=lfG vars xs):=by rw [HGG.out];rfl
 have td1:decide (deep > 1)=true:=dT_ (by omega);have td2:decide (deep > 2)=true:=dT_ (by omega);go_enter Tryz.func58,Tryz.ntmps58;go_wp2_with fail
 refine C1.out.mono ?_;rintro e w2 ⟨rfl,hr2,hu2⟩;obtain ⟨x,Hx⟩:=nm (xs.headD 0);rw [Hx.out] at HX ⊢;obtain ⟨z,Hz⟩:=nm (wrap64 (x.tdiv 12));have ez:=Hz.out;have C2:=h_ (pick_c x 12 w2 (by omega) (by omega));have C3:=h_ (pick_c z 1000 w2 (by omega) (by omega))
 have HM0:Hid (z=x.tdiv 12):=by
  show _=_;rw [←ez];exact wrap64_of (tdiv_I64 HX.out (by omega))
 obtain ⟨kI,Hk⟩:=nm (x % 12);have k0:0≤kI∧kI<12:=by rw [←Hk.out];omega
 obtain ⟨k,rfl⟩:=Int.eq_ofNat_of_zero_le k0.1;obtain ⟨m,hm⟩:∃m:Nat,z % 1000=(m:Int):=Int.eq_ofNat_of_zero_le (by omega);have hm1:m<1000:=by omega
 have HM:Hid (pM x=(m:Int)):=by show _=_;unfold pM;rw [←HM0.out];exact hm
 rw [Hk.out] at C2;rw [hm] at C3;clear hm;go_wp2_with fail
 refine C2.out.mono ?_;rintro e w3 ⟨rfl,hw3⟩;subst hw3;go_wp2_with fail
 refine C3.out.mono ?_;rintro e w3 ⟨rfl,hw3⟩;subst hw3;have hb2:=hb.upd hu2 (by omega);have HU2:Upd (·=p) w w2:=(hU.mono (T:=(·=p)) (fun _ _ f=>f.elim)).trans hu2 (fun _ _ h=>h);have hs2:=hu2.size;have HS2:Hid (w.heap.size<w2.heap.size):=by show _<_;omega
 obtain ⟨rb,hrb⟩:∃b,w.heap.size=b:=⟨_,rfl⟩;rw [hrb] at hb2 HS2 hlt hr2;have HRB:=h_ hrb;rw [hrb];clear hb hU C1 C2 C3 hs2 hsW hu2 hrb ez Hz HW e0;by_cases hk6:k<6
 ·have tk:(k:Int)<6:=by omega
  obtain ⟨r4,h4a,h4b,h4c⟩:=mF 4 (by decide) m;have h4a':(m:Int).tmod 4=(r4:Int):=h4a;have h4b':(m:Int) % 4=(r4:Int):=h4b;clear h4a h4b;by_cases h0:r4=0
  ·have t0:((r4:Int)==0)=true:=by simpa using h0
   have HL:Hid ((G xs).1=.mk 0 1 (wordF m x) 0 []):=by
    show _=_;rw [HG.out];show lfA vars (xs.headD 0)=_;rw [Hx.out];unfold lfA;rw [HM.out,if_pos (by omega)]
   have HY:Hid ((G xs).2=xs.tail):=by show _=_;rw [HG.out];rfl
   have CW:=h_ (word_c w2 m x (by unfold I64;omega));obtain ⟨wd,Hwd⟩:=nm (wordF m x);rw [Hwd.out] at HL CW;clear h0 h4b';go_wp2_with fail
   refine CW.out.mono ?_;rintro e w3 ⟨rfl,hu3⟩;have hb2:=hb2.upd hu3 (fun f=>f);have hr2:=hr2.upd hu3 (fun _ _ _ f=>f) (fun f=>f);have HU2:=HU2.then_non hu3;have HS2:Hid (rb<w3.heap.size):=Nat.lt_of_lt_of_le HS2.out hu3.size;have c0:=hb2.cell 0;have c1:=hb2.cell 1;have c2:=hb2.cell 2;have c3:=hb2.cell 3;have c4:=hb2.cell 4;have f0:=hb2.frozen;go_wp2_with fail
   rw [set5_eq];refine bodyPost_ret (results_cell_row rfl _ _ rb 38 _ (0,0) _ rfl (set5_blk hb2 _ _ _ _ _) Tryz.underlying38 rfl (by kernel_rfl)) rfl ?_;have hs2:=HS2.out;have hrb:=HRB.out;refine ⟨none,0,by rw [HL.out];rfl,by rw [HL.out];exact PtK.leaf,?_,HU2.trans (set5_upd _ _ _ _ _ _ _) (fun i hi e=>by omega)⟩;rw [HY.out];exact (hr2.upd (set5_upd _ _ _ _ _ _ _) (fun k hk q e=>by have:=q.2;omega) (by omega)).mono (fun k _ h=>h.1)
  ·have t0:((r4:Int)==0)=false:=by simpa using h0
   obtain ⟨rv,hva,hvb,hvc⟩:=mF vars (by omega) m
   have HL:Hid ((G xs).1=.mk (1+(rv:Int)) 0 0 0 []):=by
    show _=_;rw [HG.out];show lfA vars (xs.headD 0)=_;rw [Hx.out];unfold lfA;rw [HM.out,if_neg (by omega),hvb]
   have HY:Hid ((G xs).2=xs.tail):=by show _=_;rw [HG.out];rfl
   have hv0:((vars:Int)==0)=false:=by simp;omega
   clear h0 h4b' hvb;have c0:=hb2.cell 0;have c1:=hb2.cell 1;have c2:=hb2.cell 2;have c3:=hb2.cell 3;have c4:=hb2.cell 4;have f0:=hb2.frozen;go_wp2_with fail
   rw [set5_eq];refine bodyPost_ret (results_cell_row rfl _ _ rb 38 _ (0,0) _ rfl (set5_blk hb2 _ _ _ _ _) Tryz.underlying38 rfl (by kernel_rfl)) rfl ?_;have hs2:=HS2.out;have hrb:=HRB.out;refine ⟨none,0,by rw [HL.out];rfl,by rw [HL.out];exact PtK.leaf,?_,HU2.trans (set5_upd _ _ _ _ _ _ _) (fun i hi e=>by omega)⟩;rw [HY.out];exact (hr2.upd (set5_upd _ _ _ _ _ _ _) (fun k hk q e=>by have:=q.2;omega) (by omega)).mono (fun k _ h=>h.1)
 ·have tk:¬(k:Int)<6:=by omega
  obtain ⟨r4,h4a,h4b,h4c⟩:=mF 4 (by decide) m;have h4a':(m:Int).tmod 4=(r4:Int):=h4a;have h4b':(m:Int) % 4=(r4:Int):=h4b;clear h4a h4b;by_cases h0:r4=0
  ·have t0:((r4:Int)==0)=true:=by simpa using h0
   have HL:Hid ((G xs).1=.mk 0 1 (wordF m x) 0 []):=by
    show _=_;rw [HG.out];show lfA vars (xs.headD 0)=_;rw [Hx.out];unfold lfA;rw [HM.out,if_pos (by omega)]
   have HY:Hid ((G xs).2=xs.tail):=by show _=_;rw [HG.out];rfl
   have CW:=h_ (word_c w2 m x (by unfold I64;omega));obtain ⟨wd,Hwd⟩:=nm (wordF m x);rw [Hwd.out] at HL CW;clear h0 h4b';go_wp2_with fail
   refine CW.out.mono ?_;rintro e w3 ⟨rfl,hu3⟩;have hb2:=hb2.upd hu3 (fun f=>f);have hr2:=hr2.upd hu3 (fun _ _ _ f=>f) (fun f=>f);have HU2:=HU2.then_non hu3;have HS2:Hid (rb<w3.heap.size):=Nat.lt_of_lt_of_le HS2.out hu3.size;have c0:=hb2.cell 0;have c1:=hb2.cell 1;have c2:=hb2.cell 2;have c3:=hb2.cell 3;have c4:=hb2.cell 4;have f0:=hb2.frozen;go_wp2_with fail
   rw [set5_eq];refine bodyPost_ret (results_cell_row rfl _ _ rb 38 _ (0,0) _ rfl (set5_blk hb2 _ _ _ _ _) Tryz.underlying38 rfl (by kernel_rfl)) rfl ?_;have hs2:=HS2.out;have hrb:=HRB.out;refine ⟨none,0,by rw [HL.out];rfl,by rw [HL.out];exact PtK.leaf,?_,HU2.trans (set5_upd _ _ _ _ _ _ _) (fun i hi e=>by omega)⟩;rw [HY.out];exact (hr2.upd (set5_upd _ _ _ _ _ _ _) (fun k hk q e=>by have:=q.2;omega) (by omega)).mono (fun k _ h=>h.1)
  ·have t0:((r4:Int)==0)=false:=by simpa using h0
   obtain ⟨rv,hva,hvb,hvc⟩:=mF vars (by omega) m
   have HL:Hid ((G xs).1=.mk (1+(rv:Int)) 0 0 0 []):=by
    show _=_;rw [HG.out];show lfA vars (xs.headD 0)=_;rw [Hx.out];unfold lfA;rw [HM.out,if_neg (by omega),hvb]
   have HY:Hid ((G xs).2=xs.tail):=by show _=_;rw [HG.out];rfl
   have hv0:((vars:Int)==0)=false:=by simp;omega
   clear h0 h4b' hvb;have c0:=hb2.cell 0;have c1:=hb2.cell 1;have c2:=hb2.cell 2;have c3:=hb2.cell 3;have c4:=hb2.cell 4;have f0:=hb2.frozen;go_wp2_with fail
   rw [set5_eq];refine bodyPost_ret (results_cell_row rfl _ _ rb 38 _ (0,0) _ rfl (set5_blk hb2 _ _ _ _ _) Tryz.underlying38 rfl (by kernel_rfl)) rfl ?_;have hs2:=HS2.out;have hrb:=HRB.out;refine ⟨none,0,by rw [HL.out];rfl,by rw [HL.out];exact PtK.leaf,?_,HU2.trans (set5_upd _ _ _ _ _ _ _) (fun i hi e=>by omega)⟩;rw [HY.out];exact (hr2.upd (set5_upd _ _ _ _ _ _ _) (fun k hk q e=>by have:=q.2;omega) (by omega)).mono (fun k _ h=>h.1)
set_option maxRecDepth 100000 in
set_option maxHeartbeats 4000000 in
theorem pairO_c (w:World) (k:Int) (a b:Pt) (F G:Nat→Prop) (KA KB:Option Addr) (ka kb:Nat) (ha:PtK w F a KA ka) (hb:PtK w G b KB kb) :
  Calls Tryz.prog 65 #[.int .i64 k,pv a KA ka,pv b KB kb] w fun e w'=>∃(K:Option Addr) (kc:Nat),e=.returned (.agg #[.int .i64 0,.int .i64 k,.int .i64 0,.int .i64 0,.slice K 2 kc])∧PtK w' (fun k=>F k∨G k∨w.heap.size≤k) (q2 k a b) K kc∧Upd Non w w':=by
 go_enter Tryz.func65,Tryz.ntmps65;unfold pv;go_wp2_with fail
 refine bodyPost_ret (results_cell_row rfl _ _ (w.heap.size+1+1) 38 #[.int .i64 0,.int .i64 k,.int .i64 0,.int .i64 0,.slice (some ⟨w.heap.size+1+1+1,0,none⟩) 2 2] (0,0) _ rfl ((Blk.new' (by simp)).alloc _) Tryz.underlying38 rfl (by kernel_rfl)) rfl ?_
 obtain ⟨W1,HW1⟩:=nm ((((w.alloc (.cells #[.int .i64 a.v,.int .i64 a.op,.int .i64 a.imm,.int .i64 a.iv,.slice KA a.kids.length ka] 38)).alloc (.cells #[.int .i64 b.v,.int .i64 b.op,.int .i64 b.imm,.int .i64 b.iv,.slice KB b.kids.length kb] 38)).alloc (.cells #[.int .i64 0,.int .i64 k,.int .i64 0,.int .i64 0,.slice (some ⟨w.heap.size+1+1+1,0,none⟩) 2 2] 38)).alloc (.cells #[.int .i64 a.v,.int .i64 a.op,.int .i64 a.imm,.int .i64 a.iv,.slice KA a.kids.length ka,.int .i64 b.v,.int .i64 b.op,.int .i64 b.imm,.int .i64 b.iv,.slice KB b.kids.length kb] 38))
 rw [HW1.out];have hU:Upd Non w W1:=by rw [←HW1.out];exact (((Upd.refl.alloc _).alloc _).alloc _).alloc _
 have hk:Blk W1 (w.heap.size+1+1+1) 38 #[.int .i64 a.v,.int .i64 a.op,.int .i64 a.imm,.int .i64 a.iv,.slice KA a.kids.length ka,.int .i64 b.v,.int .i64 b.op,.int .i64 b.imm,.int .i64 b.iv,.slice KB b.kids.length kb]:=by rw [←HW1.out];exact Blk.new' (by simp)
 refine ⟨_,_,rfl,?_,hU⟩;exact PtK.two _ _ _ _ hk ((PtK.upd hU (fun _ _ _ f=>f) _ _ _ ha).mono (fun k _ h=>.inl h) _ _ _) ((PtK.upd hU (fun _ _ _ f=>f) _ _ _ hb).mono (fun k _ h=>.inr (.inl h)) _ _ _) (.inr (.inr (by omega))) (by omega)
theorem pat_end {w wz wE:World} {F:Nat→Prop} {p rb:Nat} {P:Pt} {K:Option Addr} {kc:Nat} {zs:List Int} (hrb:w.heap.size=rb) (hp:p<rb) (hU:Upd (·=p) w wz) (hR:Rd wz (fun k=>F k∧k<rb) p zs) (hK:PtK wz (fun k=>rb<k) P K kc) (hb:Blk wz rb 38 #[.int .i64 0,.int .i64 0,.int .i64 0,.int .i64 0,.slice none 0 0])
  (hE:set5 wz rb (.int .i64 P.v) (.int .i64 P.op) (.int .i64 P.imm) (.int .i64 P.iv) (.slice K P.kids.length kc)=wE) :
  PtK wE (fun k=>w.heap.size≤k) P K kc∧Rd wE F p zs∧Upd (·=p) w wE∧Blk wE rb 38 #[.int .i64 P.v,.int .i64 P.op,.int .i64 P.imm,.int .i64 P.iv,.slice K P.kids.length kc]:=by
 have us:=set5_upd wz rb (.int .i64 P.v) (.int .i64 P.op) (.int .i64 P.imm) (.int .i64 P.iv) (.slice K P.kids.length kc);have bs:=set5_blk hb (.int .i64 P.v) (.int .i64 P.op) (.int .i64 P.imm) (.int .i64 P.iv) (.slice K P.kids.length kc);rw [hE] at us bs;exact ⟨PtK.mono (fun k _ h=>by omega) _ _ _ (PtK.upd us (fun k _ h e=>by omega) _ _ _ hK),(hR.upd us (fun k _ h e=>by omega) (by omega)).mono (fun _ _ h=>h.1),hU.trans us (fun i hi e=>by omega),bs⟩
theorem PtK.three {w:World} {F:Nat→Prop} {g:Nat} {k0 k1 k2:Pt} {KA0 KA1 KA2:Option Addr} {kc0 kc1 kc2 kc:Nat} (v op imm iv:Int) (h:Blk w g 38 #[.int .i64 k0.v,.int .i64 k0.op,.int .i64 k0.imm,.int .i64 k0.iv,.slice KA0 k0.kids.length kc0,.int .i64 k1.v,.int .i64 k1.op,.int .i64 k1.imm,.int .i64 k1.iv,.slice KA1 k1.kids.length kc1,.int .i64 k2.v,.int .i64 k2.op,.int .i64 k2.imm,.int .i64 k2.iv,.slice KA2 k2.kids.length kc2]) (h0:PtK w F k0 KA0 kc0) (h1:PtK w F k1 KA1 kc1) (h2:PtK w F k2 KA2 kc2) (hF:F g) (hkc:3≤kc) :
  PtK w F (.mk v op imm iv [k0,k1,k2]) (some ⟨g,0,none⟩) kc:=by
 rw [PtK.iff];refine ⟨hkc,.inr ⟨g,0,rfl,hF,PtL.of fun i hi=>?_⟩⟩;have : i=0∨i=1∨i=2:=by simp [Pt.kids] at hi;omega
 rcases this with rfl | rfl | rfl
 ·exact ⟨KA0,kc0,h.cell 0,h.cell 1,h.cell 2,h.cell 3,h.cell 4,h0⟩
 ·exact ⟨KA1,kc1,h.cell 5,h.cell 6,h.cell 7,h.cell 8,h.cell 9,h1⟩
 ·exact ⟨KA2,kc2,h.cell 10,h.cell 11,h.cell 12,h.cell 13,h.cell 14,h2⟩
set_option maxRecDepth 100000 in
set_option maxHeartbeats 32000000 in
theorem patStep_c (vars:Nat) (h1:1≤vars) (h2:vars≤6) (deep:Int) (hd:0≤deep) (hd2:deep≤2) (tests:Bool) (g1:Bool→List Int→Pt×List Int) (g2:List Int→Pt×List Int) (HA0:∀t,PatC (deep+1) vars t (g1 t)) (HB0:PatC (deep+2) vars false g2) :
  PatC deep vars tests (patS vars (decide (1<deep)) tests g1 g2):=by
 have HA:=h_ HA0;have HB:=h_ HB0;clear HA0 HB0;intro w F p xs hF hr;have hlt:=hr.lt;have HX:=h_ hr.i64;have hFF:∀k,(F k∧k<w.heap.size)→k≠p:=fun k h=>hF k h.1
 have hrF:=hr.mono (G:=fun k=>F k∧k<w.heap.size) (fun k hk h=>⟨h,hk⟩);obtain ⟨W,HW⟩:=nm (w.alloc (.cells #[.int .i64 0,.int .i64 0,.int .i64 0,.int .i64 0,.slice none 0 0] 38));have hU:Upd Non w W:=by rw [←HW.out];exact Upd.refl.alloc _
 have hb:Blk W w.heap.size 38 #[.int .i64 0,.int .i64 0,.int .i64 0,.int .i64 0,.slice none 0 0]:=by rw [←HW.out];exact Blk.new _ _ _
 have hsW:W.heap.size=w.heap.size+1:=by rw [←HW.out];simp
 have e0:=HW.out;have C1:=h_ (rdNext_c hFF (hrF.upd hU (fun _ _ _ f=>f) (fun f=>f)));clear hrF hr hFF;obtain ⟨G,HGG⟩:∃g,Hid (patS vars (decide (1<deep)) tests g1 g2=g):=nm _;rw [HGG.out];have HG0:Hid (G xs=patS vars (decide (1<deep)) tests g1 g2 xs):=by show _=_;rw [HGG.out]
 have td2:decide (deep > 2)=false:=dF_ (by omega);obtain ⟨b1,Hb1⟩:=nm (decide (1<deep));have td1:decide (deep > 1)=b1:=Hb1.out;rw [Hb1.out] at HG0;clear HGG;go_enter Tryz.func58,Tryz.ntmps58;go_wp2_with fail
 refine C1.out.mono ?_;rintro e w2 ⟨rfl,hr2,hu2⟩;obtain ⟨x,Hx⟩:=nm (xs.headD 0);rw [Hx.out] at HX ⊢;obtain ⟨z,Hz⟩:=nm (wrap64 (x.tdiv 12));have ez:=Hz.out;have C2:=h_ (pick_c x 12 w2 (by omega) (by omega));have C3:=h_ (pick_c z 1000 w2 (by omega) (by omega))
 have HM0:Hid (z=x.tdiv 12):=by
  show _=_;rw [←ez];exact wrap64_of (tdiv_I64 HX.out (by omega))
 obtain ⟨kI,Hk⟩:=nm (x % 12);have k0:0≤kI∧kI<12:=by rw [←Hk.out];omega
 obtain ⟨k,rfl⟩:=Int.eq_ofNat_of_zero_le k0.1;obtain ⟨m,hm⟩:∃m:Nat,z % 1000=(m:Int):=Int.eq_ofNat_of_zero_le (by omega);have hm1:m<1000:=by omega
 have HM:Hid (pM x=(m:Int)):=by show _=_;unfold pM;rw [←HM0.out];exact hm
 rw [Hk.out] at C2;rw [hm] at C3;clear hm;go_wp2_with fail
 refine C2.out.mono ?_;rintro e w3 ⟨rfl,hw3⟩;subst hw3;go_wp2_with fail
 refine C3.out.mono ?_;rintro e w3 ⟨rfl,hw3⟩;subst hw3;have hb2:=hb.upd hu2 (by omega);have HU2:Upd (·=p) w w2:=(hU.mono (T:=(·=p)) (fun _ _ f=>f.elim)).trans hu2 (fun _ _ h=>h);have hs2:=hu2.size;have HS2:Hid (w.heap.size<w2.heap.size):=by show _<_;omega
 obtain ⟨rb,hrb⟩:∃b,w.heap.size=b:=⟨_,rfl⟩;rw [hrb] at hb2 HS2 hlt hr2;have HRB:=h_ hrb;rw [hrb];clear hb hU C1 C2 C3 hs2 hsW hu2 hrb ez Hz HW e0;have HD1:wrap64 (deep+1)=deep+1:=by unfold wrap64;omega
 have HD2:wrap64 (deep+2)=deep+2:=by unfold wrap64;omega
 have HF:Hid (∀k,(F k∧k<rb)→k≠p):=fun k h=>hF k h.1
 by_cases hlf:(b1=true∧k<6)∨k<3
 ·have HG:Hid (G xs=lfG vars xs):=by
   show _=_;rw [HG0.out];unfold patS;simp only [Hx.out,Hk.out];rw [if_pos (by rcases hlf with ⟨a,b⟩ | b;exact .inl ⟨a,by omega⟩;exact .inr (by omega))];unfold lfG;rw [Hx.out]
  clear HG0 HA HB HD1 HD2;rcases hlf with ⟨rfl,hk6⟩ | hk3
  ·have t6:decide ((k:Int)<6)=true:=dT_ (by omega);obtain ⟨r4,h4a,h4b,h4c⟩:=mF 4 (by decide) m;have h4a':(m:Int).tmod 4=(r4:Int):=h4a;have h4b':(m:Int) % 4=(r4:Int):=h4b;clear h4a h4b;by_cases h0:r4=0
   ·have t0:((r4:Int)==0)=true:=by simpa using h0
    have HL:Hid ((G xs).1=.mk 0 1 (wordF m x) 0 []):=by
     show _=_;rw [HG.out];show lfA vars (xs.headD 0)=_;rw [Hx.out];unfold lfA;rw [HM.out,if_pos (by omega)]
    have HY:Hid ((G xs).2=xs.tail):=by show _=_;rw [HG.out];rfl
    have CW:=h_ (word_c w2 m x (by unfold I64;omega));obtain ⟨wd,Hwd⟩:=nm (wordF m x);rw [Hwd.out] at HL CW;clear h0 h4b';go_wp2_with fail
    refine CW.out.mono ?_;rintro e w3 ⟨rfl,hu3⟩;have hb2:=hb2.upd hu3 (fun f=>f);have hr2:=hr2.upd hu3 (fun _ _ _ f=>f) (fun f=>f);have HU2:=HU2.then_non hu3;have HS2:Hid (rb<w3.heap.size):=Nat.lt_of_lt_of_le HS2.out hu3.size;have c0:=hb2.cell 0;have c1:=hb2.cell 1;have c2:=hb2.cell 2;have c3:=hb2.cell 3;have c4:=hb2.cell 4;have f0:=hb2.frozen;go_wp2_with fail
    rw [set5_eq];refine bodyPost_ret (results_cell_row rfl _ _ rb 38 _ (0,0) _ rfl (set5_blk hb2 _ _ _ _ _) Tryz.underlying38 rfl (by kernel_rfl)) rfl ?_;have hs2:=HS2.out;have hrb:=HRB.out;refine ⟨none,0,by rw [HL.out];rfl,by rw [HL.out];exact PtK.leaf,?_,HU2.trans (set5_upd _ _ _ _ _ _ _) (fun i hi e=>by omega)⟩;rw [HY.out];exact (hr2.upd (set5_upd _ _ _ _ _ _ _) (fun k hk q e=>by have:=q.2;omega) (by omega)).mono (fun k _ h=>h.1)
   ·have t0:((r4:Int)==0)=false:=by simpa using h0
    obtain ⟨rv,hva,hvb,hvc⟩:=mF vars (by omega) m
    have HL:Hid ((G xs).1=.mk (1+(rv:Int)) 0 0 0 []):=by
     show _=_;rw [HG.out];show lfA vars (xs.headD 0)=_;rw [Hx.out];unfold lfA;rw [HM.out,if_neg (by omega),hvb]
    have HY:Hid ((G xs).2=xs.tail):=by show _=_;rw [HG.out];rfl
    have hv0:((vars:Int)==0)=false:=by simp;omega
    clear h0 h4b' hvb;have c0:=hb2.cell 0;have c1:=hb2.cell 1;have c2:=hb2.cell 2;have c3:=hb2.cell 3;have c4:=hb2.cell 4;have f0:=hb2.frozen;go_wp2_with fail
    rw [set5_eq];refine bodyPost_ret (results_cell_row rfl _ _ rb 38 _ (0,0) _ rfl (set5_blk hb2 _ _ _ _ _) Tryz.underlying38 rfl (by kernel_rfl)) rfl ?_;have hs2:=HS2.out;have hrb:=HRB.out;refine ⟨none,0,by rw [HL.out];rfl,by rw [HL.out];exact PtK.leaf,?_,HU2.trans (set5_upd _ _ _ _ _ _ _) (fun i hi e=>by omega)⟩;rw [HY.out];exact (hr2.upd (set5_upd _ _ _ _ _ _ _) (fun k hk q e=>by have:=q.2;omega) (by omega)).mono (fun k _ h=>h.1)
  ·have t6:decide ((k:Int)<6)=true:=dT_ (by omega);have t3:decide ((k:Int)<3)=true:=dT_ (by omega)
   cases b1 with
   | true =>
    obtain ⟨r4,h4a,h4b,h4c⟩:=mF 4 (by decide) m;have h4a':(m:Int).tmod 4=(r4:Int):=h4a;have h4b':(m:Int) % 4=(r4:Int):=h4b;clear h4a h4b;by_cases h0:r4=0
    ·have t0:((r4:Int)==0)=true:=by simpa using h0
     have HL:Hid ((G xs).1=.mk 0 1 (wordF m x) 0 []):=by
      show _=_;rw [HG.out];show lfA vars (xs.headD 0)=_;rw [Hx.out];unfold lfA;rw [HM.out,if_pos (by omega)]
     have HY:Hid ((G xs).2=xs.tail):=by show _=_;rw [HG.out];rfl
     have CW:=h_ (word_c w2 m x (by unfold I64;omega));obtain ⟨wd,Hwd⟩:=nm (wordF m x);rw [Hwd.out] at HL CW;clear h0 h4b';go_wp2_with fail
     refine CW.out.mono ?_;rintro e w3 ⟨rfl,hu3⟩;have hb2:=hb2.upd hu3 (fun f=>f);have hr2:=hr2.upd hu3 (fun _ _ _ f=>f) (fun f=>f);have HU2:=HU2.then_non hu3;have HS2:Hid (rb<w3.heap.size):=Nat.lt_of_lt_of_le HS2.out hu3.size;have c0:=hb2.cell 0;have c1:=hb2.cell 1;have c2:=hb2.cell 2;have c3:=hb2.cell 3;have c4:=hb2.cell 4;have f0:=hb2.frozen;go_wp2_with fail
     rw [set5_eq];refine bodyPost_ret (results_cell_row rfl _ _ rb 38 _ (0,0) _ rfl (set5_blk hb2 _ _ _ _ _) Tryz.underlying38 rfl (by kernel_rfl)) rfl ?_;have hs2:=HS2.out;have hrb:=HRB.out;refine ⟨none,0,by rw [HL.out];rfl,by rw [HL.out];exact PtK.leaf,?_,HU2.trans (set5_upd _ _ _ _ _ _ _) (fun i hi e=>by omega)⟩;rw [HY.out];exact (hr2.upd (set5_upd _ _ _ _ _ _ _) (fun k hk q e=>by have:=q.2;omega) (by omega)).mono (fun k _ h=>h.1)
    ·have t0:((r4:Int)==0)=false:=by simpa using h0
     obtain ⟨rv,hva,hvb,hvc⟩:=mF vars (by omega) m
     have HL:Hid ((G xs).1=.mk (1+(rv:Int)) 0 0 0 []):=by
      show _=_;rw [HG.out];show lfA vars (xs.headD 0)=_;rw [Hx.out];unfold lfA;rw [HM.out,if_neg (by omega),hvb]
     have HY:Hid ((G xs).2=xs.tail):=by show _=_;rw [HG.out];rfl
     have hv0:((vars:Int)==0)=false:=by simp;omega
     clear h0 h4b' hvb;have c0:=hb2.cell 0;have c1:=hb2.cell 1;have c2:=hb2.cell 2;have c3:=hb2.cell 3;have c4:=hb2.cell 4;have f0:=hb2.frozen;go_wp2_with fail
     rw [set5_eq];refine bodyPost_ret (results_cell_row rfl _ _ rb 38 _ (0,0) _ rfl (set5_blk hb2 _ _ _ _ _) Tryz.underlying38 rfl (by kernel_rfl)) rfl ?_;have hs2:=HS2.out;have hrb:=HRB.out;refine ⟨none,0,by rw [HL.out];rfl,by rw [HL.out];exact PtK.leaf,?_,HU2.trans (set5_upd _ _ _ _ _ _ _) (fun i hi e=>by omega)⟩;rw [HY.out];exact (hr2.upd (set5_upd _ _ _ _ _ _ _) (fun k hk q e=>by have:=q.2;omega) (by omega)).mono (fun k _ h=>h.1)
   | false =>
    obtain ⟨r4,h4a,h4b,h4c⟩:=mF 4 (by decide) m;have h4a':(m:Int).tmod 4=(r4:Int):=h4a;have h4b':(m:Int) % 4=(r4:Int):=h4b;clear h4a h4b;by_cases h0:r4=0
    ·have t0:((r4:Int)==0)=true:=by simpa using h0
     have HL:Hid ((G xs).1=.mk 0 1 (wordF m x) 0 []):=by
      show _=_;rw [HG.out];show lfA vars (xs.headD 0)=_;rw [Hx.out];unfold lfA;rw [HM.out,if_pos (by omega)]
     have HY:Hid ((G xs).2=xs.tail):=by show _=_;rw [HG.out];rfl
     have CW:=h_ (word_c w2 m x (by unfold I64;omega));obtain ⟨wd,Hwd⟩:=nm (wordF m x);rw [Hwd.out] at HL CW;clear h0 h4b';go_wp2_with fail
     refine CW.out.mono ?_;rintro e w3 ⟨rfl,hu3⟩;have hb2:=hb2.upd hu3 (fun f=>f);have hr2:=hr2.upd hu3 (fun _ _ _ f=>f) (fun f=>f);have HU2:=HU2.then_non hu3;have HS2:Hid (rb<w3.heap.size):=Nat.lt_of_lt_of_le HS2.out hu3.size;have c0:=hb2.cell 0;have c1:=hb2.cell 1;have c2:=hb2.cell 2;have c3:=hb2.cell 3;have c4:=hb2.cell 4;have f0:=hb2.frozen;go_wp2_with fail
     rw [set5_eq];refine bodyPost_ret (results_cell_row rfl _ _ rb 38 _ (0,0) _ rfl (set5_blk hb2 _ _ _ _ _) Tryz.underlying38 rfl (by kernel_rfl)) rfl ?_;have hs2:=HS2.out;have hrb:=HRB.out;refine ⟨none,0,by rw [HL.out];rfl,by rw [HL.out];exact PtK.leaf,?_,HU2.trans (set5_upd _ _ _ _ _ _ _) (fun i hi e=>by omega)⟩;rw [HY.out];exact (hr2.upd (set5_upd _ _ _ _ _ _ _) (fun k hk q e=>by have:=q.2;omega) (by omega)).mono (fun k _ h=>h.1)
    ·have t0:((r4:Int)==0)=false:=by simpa using h0
     obtain ⟨rv,hva,hvb,hvc⟩:=mF vars (by omega) m
     have HL:Hid ((G xs).1=.mk (1+(rv:Int)) 0 0 0 []):=by
      show _=_;rw [HG.out];show lfA vars (xs.headD 0)=_;rw [Hx.out];unfold lfA;rw [HM.out,if_neg (by omega),hvb]
     have HY:Hid ((G xs).2=xs.tail):=by show _=_;rw [HG.out];rfl
     have hv0:((vars:Int)==0)=false:=by simp;omega
     clear h0 h4b' hvb;have c0:=hb2.cell 0;have c1:=hb2.cell 1;have c2:=hb2.cell 2;have c3:=hb2.cell 3;have c4:=hb2.cell 4;have f0:=hb2.frozen;go_wp2_with fail
     rw [set5_eq];refine bodyPost_ret (results_cell_row rfl _ _ rb 38 _ (0,0) _ rfl (set5_blk hb2 _ _ _ _ _) Tryz.underlying38 rfl (by kernel_rfl)) rfl ?_;have hs2:=HS2.out;have hrb:=HRB.out;refine ⟨none,0,by rw [HL.out];rfl,by rw [HL.out];exact PtK.leaf,?_,HU2.trans (set5_upd _ _ _ _ _ _ _) (fun i hi e=>by omega)⟩;rw [HY.out];exact (hr2.upd (set5_upd _ _ _ _ _ _ _) (fun k hk q e=>by have:=q.2;omega) (by omega)).mono (fun k _ h=>h.1)
 ·have hk3:3≤k:=by omega
  have hb16:b1=true→6≤k:=fun e=>by
   rcases Nat.lt_or_ge k 6 with q | q
   ·exact (hlf (.inl ⟨e,q⟩)).elim
   ·exact q
  have HG1:Hid (G xs=if k<5 then (.mk 0 (if pM x % 2=0 then 20 else 21) 0 0 [(g1 tests xs.tail).1],(g1 tests xs.tail).2)
    else if k<6 then (q2 12 (g1 tests xs.tail).1 (q1c (pM x % 3)),(g1 tests xs.tail).2)
    else if k<7∧tests=true then (q2 (15+pM x % 5) (g2 xs.tail).1 (g2 (g2 xs.tail).2).1,(g2 (g2 xs.tail).2).2)
    else if k<8∧tests=true then (.mk 0 22 0 0 [(g1 false xs.tail).1,(g2 (g1 false xs.tail).2).1,(g2 (g2 (g1 false xs.tail).2).2).1],(g2 (g2 (g1 false xs.tail).2).2).2)
    else (q2 ([4,5,9,10,11].getD (pM x % 5).toNat 0) (g1 tests xs.tail).1 (g1 tests (g1 tests xs.tail).2).1,(g1 tests (g1 tests xs.tail).2).2)):=by
   show _=_;rw [HG0.out];unfold patS;simp only [Hx.out,Hk.out]
   rw [if_neg (by
    rintro (⟨a,b⟩ | b)
    ·have:=hb16 a;omega
    ·omega)]
   have e5:((k:Int)<5)=(k<5):=by rw [eq_iff_iff];omega
   have e6:((k:Int)<6)=(k<6):=by rw [eq_iff_iff];omega
   have e7:((k:Int)<7)=(k<7):=by rw [eq_iff_iff];omega
   have e8:((k:Int)<8)=(k<8):=by rw [eq_iff_iff];omega
   simp only [e5,e6,e7,e8]
  have t3:decide ((k:Int)<3)=false:=dF_ (by omega);clear HG0 hlf;have hbz:=hb2;have hrz:=hr2;have HUz:=HU2;have hsz:=HS2.out;have CD:Hid (∀(t:Bool) (v:World) (zs:List Int),Rd v (fun k=>F k∧k<rb) p zs→Calls Tryz.prog 58 #[.pointer (some ⟨p,0,none⟩),.int .i64 (deep+1),.int .i64 vars,.bool t] v fun e w'=>∃KA kc,e=.returned (pv (g1 t zs).1 KA kc)∧PtK w' (fun k=>v.heap.size≤k) (g1 t zs).1 KA kc∧Rd w' (fun k=>F k∧k<rb) p (g1 t zs).2∧Upd (·=p) v w'):=fun t v zs h=>HA.out t v _ p zs HF.out h
  have CE:Hid (∀(v:World) (zs:List Int),Rd v (fun k=>F k∧k<rb) p zs→Calls Tryz.prog 58 #[.pointer (some ⟨p,0,none⟩),.int .i64 (deep+2),.int .i64 vars,.bool false] v fun e w'=>∃KA kc,e=.returned (pv (g2 zs).1 KA kc)∧PtK w' (fun k=>v.heap.size≤k) (g2 zs).1 KA kc∧Rd w' (fun k=>F k∧k<rb) p (g2 zs).2∧Upd (·=p) v w'):=fun v zs h=>HB.out v _ p zs HF.out h
  clear HA HB hb2 hr2 HU2;by_cases h5:k<5
  ·have hb1:b1=false:=by cases b1 with | false=>rfl | true=>have:=hb16 rfl;omega
   subst hb1;have t5:decide ((k:Int)<5)=true:=dT_ (by omega);obtain ⟨rr,h2a,h2b,h2c⟩:=mF 2 (by decide) m;have h2a':(m:Int).tmod 2=(rr:Int):=h2a;have h2c':(rr:Int)<2:=by omega
   obtain ⟨op,hop⟩:∃op:Int,op=if rr=0 then 20 else 21:=⟨_,rfl⟩
   have HOP:Hid ((#[Value.int .i64 20,.int .i64 21]:Array Value)[rr]?=some (.int .i64 op)):=by
    show _=_;rw [hop]
    match rr,h2c with
    | 0,_=>rfl
    | 1,_=>rfl
   obtain ⟨QA,HQA⟩:=nm (g1 tests xs.tail).1;obtain ⟨z1,Hz1⟩:=nm (g1 tests xs.tail).2;have CA:=h_ (fun (v:World) h=>CD.out tests v xs.tail h);rw [HQA.out,Hz1.out] at CA
   have HL:Hid ((G xs).1=.mk 0 op 0 0 [QA]):=by
    show _=_;rw [HG1.out,if_pos h5,HM.out,hop];have e:((m:Int) % 2=0)=(rr=0):=by rw [eq_iff_iff];have : (m:Int) % 2=(rr:Int):=h2b;omega
    simp only [e,HQA.out]
   have HY:Hid ((G xs).2=z1):=by show _=_;rw [HG1.out,if_pos h5];exact Hz1.out
   clear h2a h2b hop HG1 hb16 h5 CD CE;go_wp2_with fail
   obtain ⟨wD,HwD⟩:=nm w2.drew;have xD:Upd Non w2 wD:=by rw [←HwD.out];exact Upd.refl.drew
   have hbz:=hbz.upd xD (fun f=>f);have hrz:=hrz.upd xD (fun _ _ _ f=>f) (fun f=>f);have HUz:=HUz.then_non xD;have hsz:=Nat.lt_of_lt_of_le hsz xD.size;refine wp_region_held_drew (S:=fun _=>True) (by kernel_rfl) trivial (fun hHeld=>?_);rw [HwD.out];have q1:IntKind.i64.wrap (deep+1)=deep+1:=i64w_of (by unfold I64;omega);refine wpT 1 ?_;(try simp only [y_,z_]);refine wpT 2 ?_;(try simp only [y_,z_]);refine wpT 5 ?_;(try simp only [y_,z_]);refine wpT 6 ?_;(try simp only [y_,z_]);refine wpT 7 ?_;(try simp only [y_,z_]);refine wpT 8 ?_;(try simp only [y_,z_]);refine wpT 9 ?_;(try simp only [y_,z_]);refine aR_ (rs:=[0,10]) (by kernel_rfl) (by simp) ?_;refine aC_ rfl (fun K hK=>?_) (aC_ rfl (fun K hK=>?_) aN_)
   ·go_simp;refine hK.out _ _ ?_ (fun hHeld=>?_)
    ·exact trivial
    clear hK K;(try simp only [y_,z_]);obtain ⟨v1,Hv1⟩:=nm (wD.alloc (.cells #[.int .i64 20,.int .i64 21] 3));rw [Hv1.out];have x1:Upd Non wD v1:=by rw [←Hv1.out];exact Upd.refl.alloc _
    have hci:v1.cell? ⟨wD.heap.size,rr,none⟩=some (.int .i64 op):=by rw [←Hv1.out];exact ((Blk.new _ _ _).cell rr).trans HOP.out
    have hbi:wD.heap.size≠p:=by omega
    have hbz:=hbz.upd x1 (fun f=>f);have hrz:=hrz.upd x1 (fun _ _ _ f=>f) (fun f=>f);have HUz:=HUz.then_non x1;have hsz:=Nat.lt_of_lt_of_le hsz x1.size;refine wpT 3 ?_;(try simp only [y_,z_]);refine aR_ (rs:=[4,10]) (by kernel_rfl) (by simp) ?_;refine aC_ rfl (fun K hK=>?_) (aC_ rfl (fun K hK=>?_) aN_)
    ·go_simp;refine hK.out _ _ ?_ (fun hHeld=>?_)
     ·exact trivial
     clear hK K;(try simp only [y_,z_]);clear hci;refine aR_ (rs:=[10]) (by kernel_rfl) (by simp) ?_;refine aC_ rfl (fun K hK=>?_) aN_;go_simp;refine (CA.out v1 hrz).mono ?_;rintro e v3 ⟨KA,kA,rfl,hpA0,hrz,x3⟩;unfold pv;go_wp2_with fail
     refine hK.out _ _ ?_ (fun hHeld=>?_)
     ·exact trivial
     clear hK K;(try simp only [y_,z_]);have hbz:=hbz.upd x3 (by omega);have HUz:=HUz.trans x3 (fun _ _ h=>h);have hpA:=PtK.mono (G:=fun k=>rb<k) (fun k _ h=>by have h:v1.heap.size≤k:=h;omega) _ _ _ hpA0;have hsz:=Nat.lt_of_lt_of_le hsz x3.size;clear hpA0;refine aR_ (rs:=[11]) (by kernel_rfl) (by simp) ?_;refine aC_ rfl (fun K hK=>?_) aN_;go_simp;refine hK.out _ _ ?_ (fun hHeld=>?_)
     ·exact trivial
     clear hK K;(try simp only [y_,z_]);obtain ⟨v4,Hv4⟩:=nm (v3.alloc (.cells #[.int .i64 QA.v,.int .i64 QA.op,.int .i64 QA.imm,.int .i64 QA.iv,.slice KA QA.kids.length kA] 38));rw [Hv4.out];have x4:Upd Non v3 v4:=by rw [←Hv4.out];exact Upd.refl.alloc _
     have hbk:Blk v4 v3.heap.size 38 #[.int .i64 QA.v,.int .i64 QA.op,.int .i64 QA.imm,.int .i64 QA.iv,.slice KA QA.kids.length kA]:=by rw [←Hv4.out];exact Blk.new _ _ _
     have hsk:rb<v3.heap.size:=hsz;have hbz:=hbz.upd x4 (fun f=>f);have hrz:=hrz.upd x4 (fun _ _ _ f=>f) (fun f=>f);have HUz:=HUz.then_non x4;have hsz:=Nat.lt_of_lt_of_le hsz x4.size;have hpA:=PtK.upd x4 (fun _ _ _ f=>f) _ _ _ hpA;have hpz:=PtK.one (kc:=1) 0 op 0 0 hbk hpA hsk (by omega);refine wpT 12 ?_;(try simp only [y_,z_]);have c0:=hbz.cell 0;have c1:=hbz.cell 1;have c2:=hbz.cell 2;have c3:=hbz.cell 3;have c4:=hbz.cell 4;have f0:=hbz.frozen;refine aR_ (rs:=[13]) (by kernel_rfl) (by simp) ?_;refine aC_ rfl (fun K hK=>?_) aN_;go_simp;refine hK.out _ _ ?_ (fun hHeld=>?_)
     ·exact trivial
     clear hK K;(try simp only [y_,z_]);refine aD_ (by kernel_rfl) ?_ _;go_wp2_with fail
     have hZ:=pat_end HRB.out hlt HUz hrz hpz hbz rfl;rw [set5_eq];refine bodyPost_ret (results_cell_row rfl _ _ rb 38 _ (0,0) _ rfl hZ.2.2.2 Tryz.underlying38 rfl (by kernel_rfl)) rfl ?_;exact ⟨_,_,by rw [HL.out];rfl,by rw [HL.out];exact hZ.1,by rw [HY.out];exact hZ.2.1,hZ.2.2.1⟩
    ·go_simp;refine (CA.out v1 hrz).mono ?_;rintro e v2 ⟨KA,kA,rfl,hpA0,hrz,x2⟩;unfold pv;go_wp2_with fail
     refine hK.out _ _ ?_ (fun hHeld=>?_)
     ·exact trivial
     clear hK K;(try simp only [y_,z_]);have hbz:=hbz.upd x2 (by omega);have HUz:=HUz.trans x2 (fun _ _ h=>h);have hpA:=PtK.mono (G:=fun k=>rb<k) (fun k _ h=>by have h:v1.heap.size≤k:=h;omega) _ _ _ hpA0;have hsz:=Nat.lt_of_lt_of_le hsz x2.size;clear hpA0;have hci:=u_ (S:=(·=p)) hci x2 hbi;refine wpAnyH_takeM (fun w'=>w'.cell? ⟨wD.heap.size,rr,none⟩=some (.int .i64 op)) (calm_cell _ _) [12,13] (i:=4) (v:=?_) rfl (by kernel_rfl) (by kernel_rfl) (by kernel_rfl) (by kernel_rfl) (fun _ _ _ h=>h) (Or.inl ⟨by rfl,?_⟩) (hci) (by assumption) ?_
     rotate_left
     ·intro w hSw;(try dsimp only at hSw);go_simp;try with_reducible rfl
     (try simp only [y_,z_]);clear hci;refine aR_ (rs:=[11]) (by kernel_rfl) (by simp) ?_;refine aC_ rfl (fun K hK=>?_) aN_;go_simp;refine hK.out _ _ ?_ (fun hHeld=>?_)
     ·exact trivial
     clear hK K;(try simp only [y_,z_]);obtain ⟨v4,Hv4⟩:=nm (v2.alloc (.cells #[.int .i64 QA.v,.int .i64 QA.op,.int .i64 QA.imm,.int .i64 QA.iv,.slice KA QA.kids.length kA] 38));rw [Hv4.out];have x4:Upd Non v2 v4:=by rw [←Hv4.out];exact Upd.refl.alloc _
     have hbk:Blk v4 v2.heap.size 38 #[.int .i64 QA.v,.int .i64 QA.op,.int .i64 QA.imm,.int .i64 QA.iv,.slice KA QA.kids.length kA]:=by rw [←Hv4.out];exact Blk.new _ _ _
     have hsk:rb<v2.heap.size:=hsz;have hbz:=hbz.upd x4 (fun f=>f);have hrz:=hrz.upd x4 (fun _ _ _ f=>f) (fun f=>f);have HUz:=HUz.then_non x4;have hsz:=Nat.lt_of_lt_of_le hsz x4.size;have hpA:=PtK.upd x4 (fun _ _ _ f=>f) _ _ _ hpA;have hpz:=PtK.one (kc:=1) 0 op 0 0 hbk hpA hsk (by omega);refine wpT 12 ?_;(try simp only [y_,z_]);have c0:=hbz.cell 0;have c1:=hbz.cell 1;have c2:=hbz.cell 2;have c3:=hbz.cell 3;have c4:=hbz.cell 4;have f0:=hbz.frozen;refine aR_ (rs:=[13]) (by kernel_rfl) (by simp) ?_;refine aC_ rfl (fun K hK=>?_) aN_;go_simp;refine hK.out _ _ ?_ (fun hHeld=>?_)
     ·exact trivial
     clear hK K;(try simp only [y_,z_]);refine aD_ (by kernel_rfl) ?_ _;go_wp2_with fail
     have hZ:=pat_end HRB.out hlt HUz hrz hpz hbz rfl;rw [set5_eq];refine bodyPost_ret (results_cell_row rfl _ _ rb 38 _ (0,0) _ rfl hZ.2.2.2 Tryz.underlying38 rfl (by kernel_rfl)) rfl ?_;exact ⟨_,_,by rw [HL.out];rfl,by rw [HL.out];exact hZ.1,by rw [HY.out];exact hZ.2.1,hZ.2.2.1⟩
   ·go_simp;refine (CA.out wD hrz).mono ?_;rintro e v1 ⟨KA,kA,rfl,hpA0,hrz,x1⟩;unfold pv;go_wp2_with fail
    refine hK.out _ _ ?_ (fun hHeld=>?_)
    ·exact trivial
    clear hK K;(try simp only [y_,z_]);have hbz:=hbz.upd x1 (by omega);have HUz:=HUz.trans x1 (fun _ _ h=>h);have hpA:=PtK.mono (G:=fun k=>rb<k) (fun k _ h=>by have h:wD.heap.size≤k:=h;omega) _ _ _ hpA0;have hsz:=Nat.lt_of_lt_of_le hsz x1.size;clear hpA0;refine aR_ (rs:=[0,11]) (by kernel_rfl) (by simp) ?_;refine aC_ rfl (fun K hK=>?_) (aC_ rfl (fun K hK=>?_) aN_)
    ·go_simp;refine hK.out _ _ ?_ (fun hHeld=>?_)
     ·exact trivial
     clear hK K;(try simp only [y_,z_]);obtain ⟨v2,Hv2⟩:=nm (v1.alloc (.cells #[.int .i64 20,.int .i64 21] 3));rw [Hv2.out];have x2:Upd Non v1 v2:=by rw [←Hv2.out];exact Upd.refl.alloc _
     have hci:v2.cell? ⟨v1.heap.size,rr,none⟩=some (.int .i64 op):=by rw [←Hv2.out];exact ((Blk.new _ _ _).cell rr).trans HOP.out
     have hbi:v1.heap.size≠p:=by omega
     have hbz:=hbz.upd x2 (fun f=>f);have hrz:=hrz.upd x2 (fun _ _ _ f=>f) (fun f=>f);have HUz:=HUz.then_non x2;have hsz:=Nat.lt_of_lt_of_le hsz x2.size;have hpA:=PtK.upd x2 (fun _ _ _ f=>f) _ _ _ hpA;refine wpT 3 ?_;(try simp only [y_,z_]);refine wpAnyH_takeM (fun w'=>w'.cell? ⟨v1.heap.size,rr,none⟩=some (.int .i64 op)) (calm_cell _ _) [12,13] (i:=4) (v:=?_) rfl (by kernel_rfl) (by kernel_rfl) (by kernel_rfl) (by kernel_rfl) (fun _ _ _ h=>h) (Or.inl ⟨by rfl,?_⟩) (hci) (by assumption) ?_
     rotate_left
     ·intro w hSw;(try dsimp only at hSw);go_simp;try with_reducible rfl
     (try simp only [y_,z_]);clear hci;refine aR_ (rs:=[11]) (by kernel_rfl) (by simp) ?_;refine aC_ rfl (fun K hK=>?_) aN_;go_simp;refine hK.out _ _ ?_ (fun hHeld=>?_)
     ·exact trivial
     clear hK K;(try simp only [y_,z_]);obtain ⟨v4,Hv4⟩:=nm (v2.alloc (.cells #[.int .i64 QA.v,.int .i64 QA.op,.int .i64 QA.imm,.int .i64 QA.iv,.slice KA QA.kids.length kA] 38));rw [Hv4.out];have x4:Upd Non v2 v4:=by rw [←Hv4.out];exact Upd.refl.alloc _
     have hbk:Blk v4 v2.heap.size 38 #[.int .i64 QA.v,.int .i64 QA.op,.int .i64 QA.imm,.int .i64 QA.iv,.slice KA QA.kids.length kA]:=by rw [←Hv4.out];exact Blk.new _ _ _
     have hsk:rb<v2.heap.size:=hsz;have hbz:=hbz.upd x4 (fun f=>f);have hrz:=hrz.upd x4 (fun _ _ _ f=>f) (fun f=>f);have HUz:=HUz.then_non x4;have hsz:=Nat.lt_of_lt_of_le hsz x4.size;have hpA:=PtK.upd x4 (fun _ _ _ f=>f) _ _ _ hpA;have hpz:=PtK.one (kc:=1) 0 op 0 0 hbk hpA hsk (by omega);refine wpT 12 ?_;(try simp only [y_,z_]);have c0:=hbz.cell 0;have c1:=hbz.cell 1;have c2:=hbz.cell 2;have c3:=hbz.cell 3;have c4:=hbz.cell 4;have f0:=hbz.frozen;refine aR_ (rs:=[13]) (by kernel_rfl) (by simp) ?_;refine aC_ rfl (fun K hK=>?_) aN_;go_simp;refine hK.out _ _ ?_ (fun hHeld=>?_)
     ·exact trivial
     clear hK K;(try simp only [y_,z_]);refine aD_ (by kernel_rfl) ?_ _;go_wp2_with fail
     have hZ:=pat_end HRB.out hlt HUz hrz hpz hbz rfl;rw [set5_eq];refine bodyPost_ret (results_cell_row rfl _ _ rb 38 _ (0,0) _ rfl hZ.2.2.2 Tryz.underlying38 rfl (by kernel_rfl)) rfl ?_;exact ⟨_,_,by rw [HL.out];rfl,by rw [HL.out];exact hZ.1,by rw [HY.out];exact hZ.2.1,hZ.2.2.1⟩
    ·go_simp;refine hK.out _ _ ?_ (fun hHeld=>?_)
     ·exact trivial
     clear hK K;(try simp only [y_,z_]);obtain ⟨v2,Hv2⟩:=nm (v1.alloc (.cells #[.int .i64 QA.v,.int .i64 QA.op,.int .i64 QA.imm,.int .i64 QA.iv,.slice KA QA.kids.length kA] 38));rw [Hv2.out];have x2:Upd Non v1 v2:=by rw [←Hv2.out];exact Upd.refl.alloc _
     have hbk:Blk v2 v1.heap.size 38 #[.int .i64 QA.v,.int .i64 QA.op,.int .i64 QA.imm,.int .i64 QA.iv,.slice KA QA.kids.length kA]:=by rw [←Hv2.out];exact Blk.new _ _ _
     have hsk:rb<v1.heap.size:=hsz;have hbz:=hbz.upd x2 (fun f=>f);have hrz:=hrz.upd x2 (fun _ _ _ f=>f) (fun f=>f);have HUz:=HUz.then_non x2;have hsz:=Nat.lt_of_lt_of_le hsz x2.size;have hpA:=PtK.upd x2 (fun _ _ _ f=>f) _ _ _ hpA;refine aR_ (rs:=[0]) (by kernel_rfl) (by simp) ?_;refine aC_ rfl (fun K hK=>?_) aN_;go_simp;refine hK.out _ _ ?_ (fun hHeld=>?_)
     ·exact trivial
     clear hK K;(try simp only [y_,z_]);obtain ⟨v3,Hv3⟩:=nm (v2.alloc (.cells #[.int .i64 20,.int .i64 21] 3));rw [Hv3.out];have x3:Upd Non v2 v3:=by rw [←Hv3.out];exact Upd.refl.alloc _
     have hci:v3.cell? ⟨v2.heap.size,rr,none⟩=some (.int .i64 op):=by rw [←Hv3.out];exact ((Blk.new _ _ _).cell rr).trans HOP.out
     have hbi:v2.heap.size≠p:=by omega
     have hbz:=hbz.upd x3 (fun f=>f);have hrz:=hrz.upd x3 (fun _ _ _ f=>f) (fun f=>f);have HUz:=HUz.then_non x3;have hsz:=Nat.lt_of_lt_of_le hsz x3.size;have hpA:=PtK.upd x3 (fun _ _ _ f=>f) _ _ _ hpA;have hbk:=hbk.upd x3 (fun f=>f);refine wpT 3 ?_;(try simp only [y_,z_]);refine wpAnyH_takeM (fun w'=>w'.cell? ⟨v2.heap.size,rr,none⟩=some (.int .i64 op)) (calm_cell _ _) [12,13] (i:=4) (v:=?_) rfl (by kernel_rfl) (by kernel_rfl) (by kernel_rfl) (by kernel_rfl) (fun _ _ _ h=>h) (Or.inl ⟨by rfl,?_⟩) (hci) (by assumption) ?_
     rotate_left
     ·intro w hSw;(try dsimp only at hSw);go_simp;try with_reducible rfl
     (try simp only [y_,z_]);clear hci;have hpz:=PtK.one (kc:=1) 0 op 0 0 hbk hpA hsk (by omega);refine wpT 12 ?_;(try simp only [y_,z_]);have c0:=hbz.cell 0;have c1:=hbz.cell 1;have c2:=hbz.cell 2;have c3:=hbz.cell 3;have c4:=hbz.cell 4;have f0:=hbz.frozen;refine aR_ (rs:=[13]) (by kernel_rfl) (by simp) ?_;refine aC_ rfl (fun K hK=>?_) aN_;go_simp;refine hK.out _ _ ?_ (fun hHeld=>?_)
     ·exact trivial
     clear hK K;(try simp only [y_,z_]);refine aD_ (by kernel_rfl) ?_ _;go_wp2_with fail
     have hZ:=pat_end HRB.out hlt HUz hrz hpz hbz rfl;rw [set5_eq];refine bodyPost_ret (results_cell_row rfl _ _ rb 38 _ (0,0) _ rfl hZ.2.2.2 Tryz.underlying38 rfl (by kernel_rfl)) rfl ?_;exact ⟨_,_,by rw [HL.out];rfl,by rw [HL.out];exact hZ.1,by rw [HY.out];exact hZ.2.1,hZ.2.2.1⟩
  ·by_cases h6:k<6
   ·have hb1:b1=false:=by cases b1 with | false=>rfl | true=>have:=hb16 rfl;omega
    subst hb1;have t5:decide ((k:Int)<5)=false:=dF_ (by omega);have t6:decide ((k:Int)<6)=true:=dT_ (by omega);obtain ⟨rr,h3a,h3b,h3c⟩:=mF 3 (by decide) m;have h3a':(m:Int).tmod 3=(rr:Int):=h3a;obtain ⟨QA,HQA⟩:=nm (g1 tests xs.tail).1;obtain ⟨z1,Hz1⟩:=nm (g1 tests xs.tail).2;have CA:=h_ (fun (v:World) h=>CD.out tests v xs.tail h);rw [HQA.out,Hz1.out] at CA
    have HL:Hid ((G xs).1=q2 12 QA (q1c (rr:Int))):=by
     show _=_;have e:(m:Int) % 3=(rr:Int):=h3b;rw [HG1.out,if_neg h5,if_pos h6,HM.out,e,HQA.out]
    have HY:Hid ((G xs).2=z1):=by show _=_;rw [HG1.out,if_neg h5,if_pos h6];exact Hz1.out
    clear h3a h3b HG1 hb16 h5 h6 CD CE;go_wp2_with fail
    refine (CA.out w2 hrz).mono ?_;rintro e v1 ⟨KA,kA,rfl,hpA0,hrz,x1⟩;have hbz:=hbz.upd x1 (by omega);have HUz:=HUz.trans x1 (fun _ _ h=>h);have hpA:=PtK.mono (G:=fun k=>rb<k) (fun k _ h=>by have h:w2.heap.size≤k:=h;omega) _ _ _ hpA0;have hsz:=Nat.lt_of_lt_of_le hsz x1.size;clear hpA0;unfold pv;go_wp2_with fail
    refine (pairO_c _ 12 QA (q1c (rr:Int)) _ (fun _=>False) KA none kA 0 hpA PtK.leaf).mono ?_;rintro e vz ⟨KZ,kc,rfl,hpz0,xz⟩;have hbz:=hbz.upd xz (fun f=>f);have hrz:=hrz.upd xz (fun _ _ _ f=>f) (fun f=>f);have HUz:=HUz.then_non xz
    have hpz:=PtK.mono (G:=fun k=>rb<k) (fun k _ h=>by
     rcases h with h | h | h
     ·exact h
     ·exact h.elim
     ·exact Nat.lt_of_lt_of_le hsz h) _ _ _ hpz0
    have c0:=hbz.cell 0;have c1:=hbz.cell 1;have c2:=hbz.cell 2;have c3:=hbz.cell 3;have c4:=hbz.cell 4;have f0:=hbz.frozen;go_wp2_with fail
    have hZ:=pat_end HRB.out hlt HUz hrz hpz hbz rfl;rw [set5_eq];refine bodyPost_ret (results_cell_row rfl _ _ rb 38 _ (0,0) _ rfl hZ.2.2.2 Tryz.underlying38 rfl (by kernel_rfl)) rfl ?_;exact ⟨_,_,by rw [HL.out];rfl,by rw [HL.out];exact hZ.1,by rw [HY.out];exact hZ.2.1,hZ.2.2.1⟩
   ·have t6:decide ((k:Int)<6)=false:=dF_ (by omega);have t5:decide ((k:Int)<5)=false:=dF_ (by omega);rw [if_neg h5,if_neg h6] at HG1;clear hb16 h5;by_cases h7:k<7∧tests=true
    ·obtain ⟨h7,rfl⟩:=h7;have t7:decide ((k:Int)<7)=true:=dT_ (by omega);obtain ⟨rr,h3a,h3b,h3c⟩:=mF 5 (by decide) m;have h3a':(m:Int).tmod 5=(rr:Int):=h3a;obtain ⟨QA,HQA⟩:=nm (g2 xs.tail).1;obtain ⟨z1,Hz1⟩:=nm (g2 xs.tail).2;obtain ⟨QB,HQB⟩:=nm (g2 z1).1;obtain ⟨z2,Hz2⟩:=nm (g2 z1).2;have CA:=h_ (fun (v:World) h=>CE.out v xs.tail h);have CB:=h_ (fun (v:World) h=>CE.out v z1 h);rw [HQA.out,Hz1.out] at CA;rw [HQB.out,Hz2.out] at CB
     have HL:Hid ((G xs).1=q2 (15+(rr:Int)) QA QB):=by
      show _=_;have e:(m:Int) % 5=(rr:Int):=h3b;rw [HG1.out,if_pos ⟨h7,rfl⟩,HM.out,e,HQA.out,Hz1.out,HQB.out]
     have HY:Hid ((G xs).2=z2):=by show _=_;rw [HG1.out,if_pos ⟨h7,rfl⟩,Hz1.out,Hz2.out]
     clear h3a h3b HG1 h6 h7 CD CE
     cases b1 with
     | true =>
      go_wp2_with fail
      refine (CA.out w2 hrz).mono ?_;rintro e v1 ⟨KA,kA,rfl,hpA0,hrz,x1⟩;have hbz:=hbz.upd x1 (by omega);have HUz:=HUz.trans x1 (fun _ _ h=>h);have hpA:=PtK.mono (G:=fun k=>rb<k) (fun k _ h=>by have h:w2.heap.size≤k:=h;omega) _ _ _ hpA0;have hsz:=Nat.lt_of_lt_of_le hsz x1.size;clear hpA0;unfold pv;go_wp2_with fail
      refine (CB.out v1 hrz).mono ?_;rintro e v2 ⟨KB,kB,rfl,hpB0,hrz,x2⟩;have hbz:=hbz.upd x2 (by omega);have HUz:=HUz.trans x2 (fun _ _ h=>h);have hpB:=PtK.mono (G:=fun k=>rb<k) (fun k _ h=>by have h:v1.heap.size≤k:=h;omega) _ _ _ hpB0;have hsz:=Nat.lt_of_lt_of_le hsz x2.size;have hpA:=PtK.upd x2 (fun k _ h e=>by have h:rb<k:=h;omega) _ _ _ hpA;clear hpB0;unfold pv;go_wp2_with fail
      refine (pairO_c _ (15+(rr:Int)) QA QB _ _ KA KB kA kB hpA hpB).mono ?_;rintro e vz ⟨KZ,kc,rfl,hpz0,xz⟩;have hbz:=hbz.upd xz (fun f=>f);have hrz:=hrz.upd xz (fun _ _ _ f=>f) (fun f=>f);have HUz:=HUz.then_non xz;have hpz:=PtK.mono (G:=fun k=>rb<k) (fun k _ h=>by omega) _ _ _ hpz0;have c0:=hbz.cell 0;have c1:=hbz.cell 1;have c2:=hbz.cell 2;have c3:=hbz.cell 3;have c4:=hbz.cell 4;have f0:=hbz.frozen;go_wp2_with fail
      have hZ:=pat_end HRB.out hlt HUz hrz hpz hbz rfl;rw [set5_eq];refine bodyPost_ret (results_cell_row rfl _ _ rb 38 _ (0,0) _ rfl hZ.2.2.2 Tryz.underlying38 rfl (by kernel_rfl)) rfl ?_;exact ⟨_,_,by rw [HL.out];rfl,by rw [HL.out];exact hZ.1,by rw [HY.out];exact hZ.2.1,hZ.2.2.1⟩
     | false =>
      go_wp2_with fail
      refine (CA.out w2 hrz).mono ?_;rintro e v1 ⟨KA,kA,rfl,hpA0,hrz,x1⟩;have hbz:=hbz.upd x1 (by omega);have HUz:=HUz.trans x1 (fun _ _ h=>h);have hpA:=PtK.mono (G:=fun k=>rb<k) (fun k _ h=>by have h:w2.heap.size≤k:=h;omega) _ _ _ hpA0;have hsz:=Nat.lt_of_lt_of_le hsz x1.size;clear hpA0;unfold pv;go_wp2_with fail
      refine (CB.out v1 hrz).mono ?_;rintro e v2 ⟨KB,kB,rfl,hpB0,hrz,x2⟩;have hbz:=hbz.upd x2 (by omega);have HUz:=HUz.trans x2 (fun _ _ h=>h);have hpB:=PtK.mono (G:=fun k=>rb<k) (fun k _ h=>by have h:v1.heap.size≤k:=h;omega) _ _ _ hpB0;have hsz:=Nat.lt_of_lt_of_le hsz x2.size;have hpA:=PtK.upd x2 (fun k _ h e=>by have h:rb<k:=h;omega) _ _ _ hpA;clear hpB0;unfold pv;go_wp2_with fail
      refine (pairO_c _ (15+(rr:Int)) QA QB _ _ KA KB kA kB hpA hpB).mono ?_;rintro e vz ⟨KZ,kc,rfl,hpz0,xz⟩;have hbz:=hbz.upd xz (fun f=>f);have hrz:=hrz.upd xz (fun _ _ _ f=>f) (fun f=>f);have HUz:=HUz.then_non xz;have hpz:=PtK.mono (G:=fun k=>rb<k) (fun k _ h=>by omega) _ _ _ hpz0;have c0:=hbz.cell 0;have c1:=hbz.cell 1;have c2:=hbz.cell 2;have c3:=hbz.cell 3;have c4:=hbz.cell 4;have f0:=hbz.frozen;go_wp2_with fail
      have hZ:=pat_end HRB.out hlt HUz hrz hpz hbz rfl;rw [set5_eq];refine bodyPost_ret (results_cell_row rfl _ _ rb 38 _ (0,0) _ rfl hZ.2.2.2 Tryz.underlying38 rfl (by kernel_rfl)) rfl ?_;exact ⟨_,_,by rw [HL.out];rfl,by rw [HL.out];exact hZ.1,by rw [HY.out];exact hZ.2.1,hZ.2.2.1⟩
    ·by_cases h8:k<8∧tests=true
     ·obtain ⟨h8,rfl⟩:=h8
      have hk7:k=7:=by
       rcases Nat.lt_or_ge k 7 with q | q
       ·exact (h7 ⟨q,rfl⟩).elim
       ·omega
      subst hk7;have hb1':True:=trivial;obtain ⟨QA,HQA⟩:=nm (g1 false xs.tail).1;obtain ⟨z1,Hz1⟩:=nm (g1 false xs.tail).2;obtain ⟨QB,HQB⟩:=nm (g2 z1).1;obtain ⟨z2,Hz2⟩:=nm (g2 z1).2;obtain ⟨QC,HQC⟩:=nm (g2 z2).1;obtain ⟨z3,Hz3⟩:=nm (g2 z2).2;have CA:=h_ (fun (v:World) h=>CD.out false v xs.tail h);have CB:=h_ (fun (v:World) h=>CE.out v z1 h);have CC:=h_ (fun (v:World) h=>CE.out v z2 h);rw [HQA.out,Hz1.out] at CA;rw [HQB.out,Hz2.out] at CB;rw [HQC.out,Hz3.out] at CC
      have HL:Hid ((G xs).1=.mk 0 22 0 0 [QA,QB,QC]):=by
       show _=_;rw [HG1.out,if_neg h7,if_pos ⟨by decide,rfl⟩,HQA.out,Hz1.out,HQB.out,Hz2.out,HQC.out]
      have HY:Hid ((G xs).2=z3):=by show _=_;rw [HG1.out,if_neg h7,if_pos ⟨by decide,rfl⟩,Hz1.out,Hz2.out,Hz3.out]
      clear HG1 h6 h7 h8 CD CE hb1'
      cases b1 with
      | true =>
       go_wp2_with fail
       refine (CA.out w2 hrz).mono ?_;rintro e v1 ⟨KA,kA,rfl,hpA0,hrz,x1⟩;have hbz:=hbz.upd x1 (by omega);have HUz:=HUz.trans x1 (fun _ _ h=>h);have hpA:=PtK.mono (G:=fun k=>rb<k) (fun k _ h=>by have h:w2.heap.size≤k:=h;omega) _ _ _ hpA0;have hsz:=Nat.lt_of_lt_of_le hsz x1.size;clear hpA0;unfold pv;go_wp2_with fail
       refine (CB.out v1 hrz).mono ?_;rintro e v2 ⟨KB,kB,rfl,hpB0,hrz,x2⟩;have hbz:=hbz.upd x2 (by omega);have HUz:=HUz.trans x2 (fun _ _ h=>h);have hpB:=PtK.mono (G:=fun k=>rb<k) (fun k _ h=>by have h:v1.heap.size≤k:=h;omega) _ _ _ hpB0;have hsz:=Nat.lt_of_lt_of_le hsz x2.size;have hpA:=PtK.upd x2 (fun k _ h e=>by have h:rb<k:=h;omega) _ _ _ hpA;clear hpB0;unfold pv;go_wp2_with fail
       refine (CC.out v2 hrz).mono ?_;rintro e v3 ⟨KC,kC,rfl,hpC0,hrz,x3⟩;have hbz:=hbz.upd x3 (by omega);have HUz:=HUz.trans x3 (fun _ _ h=>h);have hpC:=PtK.mono (G:=fun k=>rb<k) (fun k _ h=>by have h:v2.heap.size≤k:=h;omega) _ _ _ hpC0;have hsz:=Nat.lt_of_lt_of_le hsz x3.size;have hpA:=PtK.upd x3 (fun k _ h e=>by have h:rb<k:=h;omega) _ _ _ hpA;have hpB:=PtK.upd x3 (fun k _ h e=>by have h:rb<k:=h;omega) _ _ _ hpB;clear hpC0;obtain ⟨v4,Hv4⟩:=nm (v3.alloc (.cells #[.int .i64 QA.v,.int .i64 QA.op,.int .i64 QA.imm,.int .i64 QA.iv,.slice KA QA.kids.length kA,.int .i64 QB.v,.int .i64 QB.op,.int .i64 QB.imm,.int .i64 QB.iv,.slice KB QB.kids.length kB,.int .i64 QC.v,.int .i64 QC.op,.int .i64 QC.imm,.int .i64 QC.iv,.slice KC QC.kids.length kC] 38))
       have e4:=Hv4.out;have x4:Upd Non v3 v4:=by rw [←Hv4.out];exact Upd.refl.alloc _
       have hbk:Blk v4 v3.heap.size 38 #[.int .i64 QA.v,.int .i64 QA.op,.int .i64 QA.imm,.int .i64 QA.iv,.slice KA QA.kids.length kA,.int .i64 QB.v,.int .i64 QB.op,.int .i64 QB.imm,.int .i64 QB.iv,.slice KB QB.kids.length kB,.int .i64 QC.v,.int .i64 QC.op,.int .i64 QC.imm,.int .i64 QC.iv,.slice KC QC.kids.length kC]:=by rw [←Hv4.out];exact Blk.new _ _ _
       have hsk:rb<v3.heap.size:=hsz;have hbz:=hbz.upd x4 (fun f=>f);have hrz:=hrz.upd x4 (fun _ _ _ f=>f) (fun f=>f);have HUz:=HUz.then_non x4;have hpz:=PtK.three (kc:=3) 0 22 0 0 hbk (PtK.upd x4 (fun _ _ _ f=>f) _ _ _ hpA) (PtK.upd x4 (fun _ _ _ f=>f) _ _ _ hpB) (PtK.upd x4 (fun _ _ _ f=>f) _ _ _ hpC) hsk (by omega)
       have c0:=hbz.cell 0;have c1:=hbz.cell 1;have c2:=hbz.cell 2;have c3:=hbz.cell 3;have c4:=hbz.cell 4;have f0:=hbz.frozen;unfold pv;go_wp2_with fail
       have hZ:=pat_end HRB.out hlt HUz hrz hpz hbz rfl;rw [set5_eq];refine bodyPost_ret (results_cell_row rfl _ _ rb 38 _ (0,0) _ rfl hZ.2.2.2 Tryz.underlying38 rfl (by kernel_rfl)) rfl ?_;exact ⟨_,_,by rw [HL.out];rfl,by rw [HL.out];exact hZ.1,by rw [HY.out];exact hZ.2.1,hZ.2.2.1⟩
      | false =>
       go_wp2_with fail
       refine (CA.out w2 hrz).mono ?_;rintro e v1 ⟨KA,kA,rfl,hpA0,hrz,x1⟩;have hbz:=hbz.upd x1 (by omega);have HUz:=HUz.trans x1 (fun _ _ h=>h);have hpA:=PtK.mono (G:=fun k=>rb<k) (fun k _ h=>by have h:w2.heap.size≤k:=h;omega) _ _ _ hpA0;have hsz:=Nat.lt_of_lt_of_le hsz x1.size;clear hpA0;unfold pv;go_wp2_with fail
       refine (CB.out v1 hrz).mono ?_;rintro e v2 ⟨KB,kB,rfl,hpB0,hrz,x2⟩;have hbz:=hbz.upd x2 (by omega);have HUz:=HUz.trans x2 (fun _ _ h=>h);have hpB:=PtK.mono (G:=fun k=>rb<k) (fun k _ h=>by have h:v1.heap.size≤k:=h;omega) _ _ _ hpB0;have hsz:=Nat.lt_of_lt_of_le hsz x2.size;have hpA:=PtK.upd x2 (fun k _ h e=>by have h:rb<k:=h;omega) _ _ _ hpA;clear hpB0;unfold pv;go_wp2_with fail
       refine (CC.out v2 hrz).mono ?_;rintro e v3 ⟨KC,kC,rfl,hpC0,hrz,x3⟩;have hbz:=hbz.upd x3 (by omega);have HUz:=HUz.trans x3 (fun _ _ h=>h);have hpC:=PtK.mono (G:=fun k=>rb<k) (fun k _ h=>by have h:v2.heap.size≤k:=h;omega) _ _ _ hpC0;have hsz:=Nat.lt_of_lt_of_le hsz x3.size;have hpA:=PtK.upd x3 (fun k _ h e=>by have h:rb<k:=h;omega) _ _ _ hpA;have hpB:=PtK.upd x3 (fun k _ h e=>by have h:rb<k:=h;omega) _ _ _ hpB;clear hpC0;obtain ⟨v4,Hv4⟩:=nm (v3.alloc (.cells #[.int .i64 QA.v,.int .i64 QA.op,.int .i64 QA.imm,.int .i64 QA.iv,.slice KA QA.kids.length kA,.int .i64 QB.v,.int .i64 QB.op,.int .i64 QB.imm,.int .i64 QB.iv,.slice KB QB.kids.length kB,.int .i64 QC.v,.int .i64 QC.op,.int .i64 QC.imm,.int .i64 QC.iv,.slice KC QC.kids.length kC] 38))
       have e4:=Hv4.out;have x4:Upd Non v3 v4:=by rw [←Hv4.out];exact Upd.refl.alloc _
       have hbk:Blk v4 v3.heap.size 38 #[.int .i64 QA.v,.int .i64 QA.op,.int .i64 QA.imm,.int .i64 QA.iv,.slice KA QA.kids.length kA,.int .i64 QB.v,.int .i64 QB.op,.int .i64 QB.imm,.int .i64 QB.iv,.slice KB QB.kids.length kB,.int .i64 QC.v,.int .i64 QC.op,.int .i64 QC.imm,.int .i64 QC.iv,.slice KC QC.kids.length kC]:=by rw [←Hv4.out];exact Blk.new _ _ _
       have hsk:rb<v3.heap.size:=hsz;have hbz:=hbz.upd x4 (fun f=>f);have hrz:=hrz.upd x4 (fun _ _ _ f=>f) (fun f=>f);have HUz:=HUz.then_non x4;have hpz:=PtK.three (kc:=3) 0 22 0 0 hbk (PtK.upd x4 (fun _ _ _ f=>f) _ _ _ hpA) (PtK.upd x4 (fun _ _ _ f=>f) _ _ _ hpB) (PtK.upd x4 (fun _ _ _ f=>f) _ _ _ hpC) hsk (by omega)
       have c0:=hbz.cell 0;have c1:=hbz.cell 1;have c2:=hbz.cell 2;have c3:=hbz.cell 3;have c4:=hbz.cell 4;have f0:=hbz.frozen;unfold pv;go_wp2_with fail
       have hZ:=pat_end HRB.out hlt HUz hrz hpz hbz rfl;rw [set5_eq];refine bodyPost_ret (results_cell_row rfl _ _ rb 38 _ (0,0) _ rfl hZ.2.2.2 Tryz.underlying38 rfl (by kernel_rfl)) rfl ?_;exact ⟨_,_,by rw [HL.out];rfl,by rw [HL.out];exact hZ.1,by rw [HY.out];exact hZ.2.1,hZ.2.2.1⟩
     ·obtain ⟨rr,h3a,h3b,h3c⟩:=mF 5 (by decide) m;have h3a':(m:Int).tmod 5=(rr:Int):=h3a;have h3c':(rr:Int)<5:=by omega
      obtain ⟨op,hop⟩:∃op:Int,op=[4,5,9,10,11].getD rr 0:=⟨_,rfl⟩
      have HOP:Hid ((#[Value.int .i64 4,.int .i64 5,.int .i64 9,.int .i64 10,.int .i64 11]:Array Value)[rr]?=some (.int .i64 op)):=by
       show _=_;rw [hop]
       match rr,h3c with
       | 0,_=>rfl
       | 1,_=>rfl
       | 2,_=>rfl
       | 3,_=>rfl
       | 4,_=>rfl
      obtain ⟨QA,HQA⟩:=nm (g1 tests xs.tail).1;obtain ⟨z1,Hz1⟩:=nm (g1 tests xs.tail).2;obtain ⟨QB,HQB⟩:=nm (g1 tests z1).1;obtain ⟨z2,Hz2⟩:=nm (g1 tests z1).2;have CA:=h_ (fun (v:World) h=>CD.out tests v xs.tail h);have CB:=h_ (fun (v:World) h=>CD.out tests v z1 h);rw [HQA.out,Hz1.out] at CA;rw [HQB.out,Hz2.out] at CB
      have HL:Hid ((G xs).1=q2 op QA QB):=by
       show _=_;have e:(m:Int) % 5=(rr:Int):=h3b;rw [HG1.out,if_neg h7,if_neg h8,HM.out,e,HQA.out,Hz1.out,HQB.out,Int.toNat_natCast,hop]
      have HY:Hid ((G xs).2=z2):=by show _=_;rw [HG1.out,if_neg h7,if_neg h8,Hz1.out,Hz2.out]
      clear h3a h3b HG1 h6 hop CD CE
      go_upto_block 0 with fail
      go_cut [] (fun wx=>wx=w2)
      case first =>
       rcases Nat.lt_or_ge k 8 with q8 | q8
       ·have htf:tests=false:=by cases tests with | false=>rfl | true=>exact (h8 ⟨q8,rfl⟩).elim
        subst htf;clear h7 h8;by_cases q7:k<7
        ·have t7:decide ((k:Int)<7)=true:=dT_ (by omega);have t8:decide ((k:Int)<8)=true:=dT_ (by omega)
         cases b1 with
         | true =>
          go_wp2_with fail
          go_meet
          case rel=>rfl
         | false =>
          go_wp2_with fail
          go_meet
          case rel=>rfl
        ·have t7:decide ((k:Int)<7)=false:=dF_ (by omega);have t8:decide ((k:Int)<8)=true:=dT_ (by omega)
         cases b1 with
         | true =>
          go_wp2_with fail
          go_meet
          case rel=>rfl
         | false =>
          go_wp2_with fail
          go_meet
          case rel=>rfl
       ·have t7:decide ((k:Int)<7)=false:=dF_ (by omega);have t8:decide ((k:Int)<8)=false:=dF_ (by omega);clear h7 h8
        cases b1 with
        | true =>
         go_wp2_with fail
         go_meet
         case rel=>rfl
        | false =>
         go_wp2_with fail
         go_meet
         case rel=>rfl
      case rest =>
      subst hcut;clear h7 h8;go_wp2_with fail
      obtain ⟨wD,HwD⟩:=nm wc.drew;have xD:Upd Non wc wD:=by rw [←HwD.out];exact Upd.refl.drew
      have hbz:=hbz.upd xD (fun f=>f);have hrz:=hrz.upd xD (fun _ _ _ f=>f) (fun f=>f);have HUz:=HUz.then_non xD;have hsz:=Nat.lt_of_lt_of_le hsz xD.size;refine wp_region_held_drew (S:=fun _=>True) (by kernel_rfl) trivial (fun hHeld=>?_);rw [HwD.out];have q1:IntKind.i64.wrap (deep+1)=deep+1:=i64w_of (by unfold I64;omega);refine wpT 1 ?_;(try simp only [y_,z_]);refine wpT 2 ?_;(try simp only [y_,z_]);refine wpT 5 ?_;(try simp only [y_,z_]);refine wpT 6 ?_;(try simp only [y_,z_]);refine wpT 7 ?_;(try simp only [y_,z_]);refine wpT 8 ?_;(try simp only [y_,z_]);refine wpT 9 ?_;(try simp only [y_,z_]);refine wpT 11 ?_;(try simp only [y_,z_]);refine wpT 12 ?_;(try simp only [y_,z_]);refine wpT 13 ?_;(try simp only [y_,z_]);refine wpT 14 ?_;(try simp only [y_,z_]);refine wpT 15 ?_;(try simp only [y_,z_]);refine aR_ (rs:=[0,10]) (by kernel_rfl) (by simp) ?_;refine aC_ rfl (fun K hK=>?_) (aC_ rfl (fun K hK=>?_) aN_)
      ·go_simp;refine hK.out _ _ ?_ (fun hHeld=>?_)
       ·exact trivial
       clear hK K;(try simp only [y_,z_]);obtain ⟨v1,Hv1⟩:=nm (wD.alloc (.cells #[.int .i64 4,.int .i64 5,.int .i64 9,.int .i64 10,.int .i64 11] 3));rw [Hv1.out];have x1:Upd Non wD v1:=by rw [←Hv1.out];exact Upd.refl.alloc _
       have hci:v1.cell? ⟨wD.heap.size,rr,none⟩=some (.int .i64 op):=by rw [←Hv1.out];exact ((Blk.new _ _ _).cell rr).trans HOP.out
       have hbi:wD.heap.size≠p:=by omega
       have hbz:=hbz.upd x1 (fun f=>f);have hrz:=hrz.upd x1 (fun _ _ _ f=>f) (fun f=>f);have HUz:=HUz.then_non x1;have hsz:=Nat.lt_of_lt_of_le hsz x1.size;refine wpT 3 ?_;(try simp only [y_,z_]);refine aR_ (rs:=[4,10]) (by kernel_rfl) (by simp) ?_;refine aC_ rfl (fun K hK=>?_) (aC_ rfl (fun K hK=>?_) aN_)
       ·go_simp;refine hK.out _ _ ?_ (fun hHeld=>?_)
        ·exact trivial
        clear hK K;(try simp only [y_,z_]);clear hci;refine aR_ (rs:=[10]) (by kernel_rfl) (by simp) ?_;refine aC_ rfl (fun K hK=>?_) aN_;go_simp;refine (CA.out v1 hrz).mono ?_;rintro e v3 ⟨KA,kA,rfl,hpA0,hrz,x3⟩;unfold pv;go_wp2_with fail
        refine hK.out _ _ ?_ (fun hHeld=>?_)
        ·exact trivial
        clear hK K;(try simp only [y_,z_]);have hbz:=hbz.upd x3 (by omega);have HUz:=HUz.trans x3 (fun _ _ h=>h);have hpA:=PtK.mono (G:=fun k=>rb<k) (fun k _ h=>by have h:v1.heap.size≤k:=h;omega) _ _ _ hpA0;have hsz:=Nat.lt_of_lt_of_le hsz x3.size;clear hpA0;refine aR_ (rs:=[16]) (by kernel_rfl) (by simp) ?_;refine aC_ rfl (fun K hK=>?_) aN_;go_simp;refine (CB.out v3 hrz).mono ?_;rintro e v4 ⟨KB,kB,rfl,hpB0,hrz,x4⟩;unfold pv;go_wp2_with fail
        refine hK.out _ _ ?_ (fun hHeld=>?_)
        ·exact trivial
        clear hK K;(try simp only [y_,z_]);have hbz:=hbz.upd x4 (by omega);have HUz:=HUz.trans x4 (fun _ _ h=>h);have hpB:=PtK.mono (G:=fun k=>rb<k) (fun k _ h=>by have h:v3.heap.size≤k:=h;omega) _ _ _ hpB0;have hsz:=Nat.lt_of_lt_of_le hsz x4.size;clear hpB0;have hpA:=PtK.upd x4 (fun k _ h e=>by have h:rb<k:=h;omega) _ _ _ hpA;refine aR_ (rs:=[17]) (by kernel_rfl) (by simp) ?_;refine aC_ rfl (fun K hK=>?_) aN_;go_simp;refine (pairO_c _ op QA QB _ _ KA KB kA kB hpA hpB).mono ?_;rintro e vz ⟨KZ,kc,rfl,hpz0,xz⟩;go_wp2_with fail
        refine hK.out _ _ ?_ (fun hHeld=>?_)
        ·exact trivial
        clear hK K;(try simp only [y_,z_]);have hbz:=hbz.upd xz (fun f=>f);have hrz:=hrz.upd xz (fun _ _ _ f=>f) (fun f=>f);have HUz:=HUz.then_non xz;have hpz:=PtK.mono (G:=fun k=>rb<k) (fun k _ h=>by omega) _ _ _ hpz0;have c0:=hbz.cell 0;have c1:=hbz.cell 1;have c2:=hbz.cell 2;have c3:=hbz.cell 3;have c4:=hbz.cell 4;have f0:=hbz.frozen;refine aR_ (rs:=[18]) (by kernel_rfl) (by simp) ?_;refine aC_ rfl (fun K hK=>?_) aN_;go_simp;refine hK.out _ _ ?_ (fun hHeld=>?_)
        ·exact trivial
        clear hK K;(try simp only [y_,z_]);refine aD_ (by kernel_rfl) ?_ _;go_wp2_with fail
        have hZ:=pat_end HRB.out hlt HUz hrz hpz hbz rfl;rw [set5_eq];refine bodyPost_ret (results_cell_row rfl _ _ rb 38 _ (0,0) _ rfl hZ.2.2.2 Tryz.underlying38 rfl (by kernel_rfl)) rfl ?_;exact ⟨_,_,by rw [HL.out];rfl,by rw [HL.out];exact hZ.1,by rw [HY.out];exact hZ.2.1,hZ.2.2.1⟩
       ·go_simp;refine (CA.out v1 hrz).mono ?_;rintro e v2 ⟨KA,kA,rfl,hpA0,hrz,x2⟩;unfold pv;go_wp2_with fail
        refine hK.out _ _ ?_ (fun hHeld=>?_)
        ·exact trivial
        clear hK K;(try simp only [y_,z_]);have hbz:=hbz.upd x2 (by omega);have HUz:=HUz.trans x2 (fun _ _ h=>h);have hpA:=PtK.mono (G:=fun k=>rb<k) (fun k _ h=>by have h:v1.heap.size≤k:=h;omega) _ _ _ hpA0;have hsz:=Nat.lt_of_lt_of_le hsz x2.size;clear hpA0;have hci:=u_ (S:=(·=p)) hci x2 hbi;refine aR_ (rs:=[4,16]) (by kernel_rfl) (by simp) ?_;refine aC_ rfl (fun K hK=>?_) (aC_ rfl (fun K hK=>?_) aN_)
        ·go_simp;refine hK.out _ _ ?_ (fun hHeld=>?_)
         ·exact trivial
         clear hK K;(try simp only [y_,z_]);clear hci;refine aR_ (rs:=[16]) (by kernel_rfl) (by simp) ?_;refine aC_ rfl (fun K hK=>?_) aN_;go_simp;refine (CB.out v2 hrz).mono ?_;rintro e v4 ⟨KB,kB,rfl,hpB0,hrz,x4⟩;unfold pv;go_wp2_with fail
         refine hK.out _ _ ?_ (fun hHeld=>?_)
         ·exact trivial
         clear hK K;(try simp only [y_,z_]);have hbz:=hbz.upd x4 (by omega);have HUz:=HUz.trans x4 (fun _ _ h=>h);have hpB:=PtK.mono (G:=fun k=>rb<k) (fun k _ h=>by have h:v2.heap.size≤k:=h;omega) _ _ _ hpB0;have hsz:=Nat.lt_of_lt_of_le hsz x4.size;clear hpB0;have hpA:=PtK.upd x4 (fun k _ h e=>by have h:rb<k:=h;omega) _ _ _ hpA;refine aR_ (rs:=[17]) (by kernel_rfl) (by simp) ?_;refine aC_ rfl (fun K hK=>?_) aN_;go_simp;refine (pairO_c _ op QA QB _ _ KA KB kA kB hpA hpB).mono ?_;rintro e vz ⟨KZ,kc,rfl,hpz0,xz⟩;go_wp2_with fail
         refine hK.out _ _ ?_ (fun hHeld=>?_)
         ·exact trivial
         clear hK K;(try simp only [y_,z_]);have hbz:=hbz.upd xz (fun f=>f);have hrz:=hrz.upd xz (fun _ _ _ f=>f) (fun f=>f);have HUz:=HUz.then_non xz;have hpz:=PtK.mono (G:=fun k=>rb<k) (fun k _ h=>by omega) _ _ _ hpz0;have c0:=hbz.cell 0;have c1:=hbz.cell 1;have c2:=hbz.cell 2;have c3:=hbz.cell 3;have c4:=hbz.cell 4;have f0:=hbz.frozen;refine aR_ (rs:=[18]) (by kernel_rfl) (by simp) ?_;refine aC_ rfl (fun K hK=>?_) aN_;go_simp;refine hK.out _ _ ?_ (fun hHeld=>?_)
         ·exact trivial
         clear hK K;(try simp only [y_,z_]);refine aD_ (by kernel_rfl) ?_ _;go_wp2_with fail
         have hZ:=pat_end HRB.out hlt HUz hrz hpz hbz rfl;rw [set5_eq];refine bodyPost_ret (results_cell_row rfl _ _ rb 38 _ (0,0) _ rfl hZ.2.2.2 Tryz.underlying38 rfl (by kernel_rfl)) rfl ?_;exact ⟨_,_,by rw [HL.out];rfl,by rw [HL.out];exact hZ.1,by rw [HY.out];exact hZ.2.1,hZ.2.2.1⟩
        ·go_simp;refine (CB.out v2 hrz).mono ?_;rintro e v3 ⟨KB,kB,rfl,hpB0,hrz,x3⟩;unfold pv;go_wp2_with fail
         refine hK.out _ _ ?_ (fun hHeld=>?_)
         ·exact trivial
         clear hK K;(try simp only [y_,z_]);have hbz:=hbz.upd x3 (by omega);have HUz:=HUz.trans x3 (fun _ _ h=>h);have hpB:=PtK.mono (G:=fun k=>rb<k) (fun k _ h=>by have h:v2.heap.size≤k:=h;omega) _ _ _ hpB0;have hsz:=Nat.lt_of_lt_of_le hsz x3.size;clear hpB0;have hpA:=PtK.upd x3 (fun k _ h e=>by have h:rb<k:=h;omega) _ _ _ hpA;have hci:=u_ (S:=(·=p)) hci x3 hbi;refine wpAnyH_takeM (fun w'=>w'.cell? ⟨wD.heap.size,rr,none⟩=some (.int .i64 op)) (calm_cell _ _) [17,18] (i:=4) (v:=?_) rfl (by kernel_rfl) (by kernel_rfl) (by kernel_rfl) (by kernel_rfl) (fun _ _ _ h=>h) (Or.inl ⟨by rfl,?_⟩) (hci) (by assumption) ?_
         rotate_left
         ·intro w hSw;(try dsimp only at hSw);go_simp;try with_reducible rfl
         (try simp only [y_,z_]);clear hci;refine aR_ (rs:=[17]) (by kernel_rfl) (by simp) ?_;refine aC_ rfl (fun K hK=>?_) aN_;go_simp;refine (pairO_c _ op QA QB _ _ KA KB kA kB hpA hpB).mono ?_;rintro e vz ⟨KZ,kc,rfl,hpz0,xz⟩;go_wp2_with fail
         refine hK.out _ _ ?_ (fun hHeld=>?_)
         ·exact trivial
         clear hK K;(try simp only [y_,z_]);have hbz:=hbz.upd xz (fun f=>f);have hrz:=hrz.upd xz (fun _ _ _ f=>f) (fun f=>f);have HUz:=HUz.then_non xz;have hpz:=PtK.mono (G:=fun k=>rb<k) (fun k _ h=>by omega) _ _ _ hpz0;have c0:=hbz.cell 0;have c1:=hbz.cell 1;have c2:=hbz.cell 2;have c3:=hbz.cell 3;have c4:=hbz.cell 4;have f0:=hbz.frozen;refine aR_ (rs:=[18]) (by kernel_rfl) (by simp) ?_;refine aC_ rfl (fun K hK=>?_) aN_;go_simp;refine hK.out _ _ ?_ (fun hHeld=>?_)
         ·exact trivial
         clear hK K;(try simp only [y_,z_]);refine aD_ (by kernel_rfl) ?_ _;go_wp2_with fail
         have hZ:=pat_end HRB.out hlt HUz hrz hpz hbz rfl;rw [set5_eq];refine bodyPost_ret (results_cell_row rfl _ _ rb 38 _ (0,0) _ rfl hZ.2.2.2 Tryz.underlying38 rfl (by kernel_rfl)) rfl ?_;exact ⟨_,_,by rw [HL.out];rfl,by rw [HL.out];exact hZ.1,by rw [HY.out];exact hZ.2.1,hZ.2.2.1⟩
      ·go_simp;refine (CA.out wD hrz).mono ?_;rintro e v1 ⟨KA,kA,rfl,hpA0,hrz,x1⟩;unfold pv;go_wp2_with fail
       refine hK.out _ _ ?_ (fun hHeld=>?_)
       ·exact trivial
       clear hK K;(try simp only [y_,z_]);have hbz:=hbz.upd x1 (by omega);have HUz:=HUz.trans x1 (fun _ _ h=>h);have hpA:=PtK.mono (G:=fun k=>rb<k) (fun k _ h=>by have h:wD.heap.size≤k:=h;omega) _ _ _ hpA0;have hsz:=Nat.lt_of_lt_of_le hsz x1.size;clear hpA0;refine aR_ (rs:=[0,16]) (by kernel_rfl) (by simp) ?_;refine aC_ rfl (fun K hK=>?_) (aC_ rfl (fun K hK=>?_) aN_)
       ·go_simp;refine hK.out _ _ ?_ (fun hHeld=>?_)
        ·exact trivial
        clear hK K;(try simp only [y_,z_]);obtain ⟨v2,Hv2⟩:=nm (v1.alloc (.cells #[.int .i64 4,.int .i64 5,.int .i64 9,.int .i64 10,.int .i64 11] 3));rw [Hv2.out];have x2:Upd Non v1 v2:=by rw [←Hv2.out];exact Upd.refl.alloc _
        have hci:v2.cell? ⟨v1.heap.size,rr,none⟩=some (.int .i64 op):=by rw [←Hv2.out];exact ((Blk.new _ _ _).cell rr).trans HOP.out
        have hbi:v1.heap.size≠p:=by omega
        have hbz:=hbz.upd x2 (fun f=>f);have hrz:=hrz.upd x2 (fun _ _ _ f=>f) (fun f=>f);have HUz:=HUz.then_non x2;have hsz:=Nat.lt_of_lt_of_le hsz x2.size;have hpA:=PtK.upd x2 (fun _ _ _ f=>f) _ _ _ hpA;refine wpT 3 ?_;(try simp only [y_,z_]);refine aR_ (rs:=[4,16]) (by kernel_rfl) (by simp) ?_;refine aC_ rfl (fun K hK=>?_) (aC_ rfl (fun K hK=>?_) aN_)
        ·go_simp;refine hK.out _ _ ?_ (fun hHeld=>?_)
         ·exact trivial
         clear hK K;(try simp only [y_,z_]);clear hci;refine aR_ (rs:=[16]) (by kernel_rfl) (by simp) ?_;refine aC_ rfl (fun K hK=>?_) aN_;go_simp;refine (CB.out v2 hrz).mono ?_;rintro e v4 ⟨KB,kB,rfl,hpB0,hrz,x4⟩;unfold pv;go_wp2_with fail
         refine hK.out _ _ ?_ (fun hHeld=>?_)
         ·exact trivial
         clear hK K;(try simp only [y_,z_]);have hbz:=hbz.upd x4 (by omega);have HUz:=HUz.trans x4 (fun _ _ h=>h);have hpB:=PtK.mono (G:=fun k=>rb<k) (fun k _ h=>by have h:v2.heap.size≤k:=h;omega) _ _ _ hpB0;have hsz:=Nat.lt_of_lt_of_le hsz x4.size;clear hpB0;have hpA:=PtK.upd x4 (fun k _ h e=>by have h:rb<k:=h;omega) _ _ _ hpA;refine aR_ (rs:=[17]) (by kernel_rfl) (by simp) ?_;refine aC_ rfl (fun K hK=>?_) aN_;go_simp;refine (pairO_c _ op QA QB _ _ KA KB kA kB hpA hpB).mono ?_;rintro e vz ⟨KZ,kc,rfl,hpz0,xz⟩;go_wp2_with fail
         refine hK.out _ _ ?_ (fun hHeld=>?_)
         ·exact trivial
         clear hK K;(try simp only [y_,z_]);have hbz:=hbz.upd xz (fun f=>f);have hrz:=hrz.upd xz (fun _ _ _ f=>f) (fun f=>f);have HUz:=HUz.then_non xz;have hpz:=PtK.mono (G:=fun k=>rb<k) (fun k _ h=>by omega) _ _ _ hpz0;have c0:=hbz.cell 0;have c1:=hbz.cell 1;have c2:=hbz.cell 2;have c3:=hbz.cell 3;have c4:=hbz.cell 4;have f0:=hbz.frozen;refine aR_ (rs:=[18]) (by kernel_rfl) (by simp) ?_;refine aC_ rfl (fun K hK=>?_) aN_;go_simp;refine hK.out _ _ ?_ (fun hHeld=>?_)
         ·exact trivial
         clear hK K;(try simp only [y_,z_]);refine aD_ (by kernel_rfl) ?_ _;go_wp2_with fail
         have hZ:=pat_end HRB.out hlt HUz hrz hpz hbz rfl;rw [set5_eq];refine bodyPost_ret (results_cell_row rfl _ _ rb 38 _ (0,0) _ rfl hZ.2.2.2 Tryz.underlying38 rfl (by kernel_rfl)) rfl ?_;exact ⟨_,_,by rw [HL.out];rfl,by rw [HL.out];exact hZ.1,by rw [HY.out];exact hZ.2.1,hZ.2.2.1⟩
        ·go_simp;refine (CB.out v2 hrz).mono ?_;rintro e v3 ⟨KB,kB,rfl,hpB0,hrz,x3⟩;unfold pv;go_wp2_with fail
         refine hK.out _ _ ?_ (fun hHeld=>?_)
         ·exact trivial
         clear hK K;(try simp only [y_,z_]);have hbz:=hbz.upd x3 (by omega);have HUz:=HUz.trans x3 (fun _ _ h=>h);have hpB:=PtK.mono (G:=fun k=>rb<k) (fun k _ h=>by have h:v2.heap.size≤k:=h;omega) _ _ _ hpB0;have hsz:=Nat.lt_of_lt_of_le hsz x3.size;clear hpB0;have hpA:=PtK.upd x3 (fun k _ h e=>by have h:rb<k:=h;omega) _ _ _ hpA;have hci:=u_ (S:=(·=p)) hci x3 hbi;refine wpAnyH_takeM (fun w'=>w'.cell? ⟨v1.heap.size,rr,none⟩=some (.int .i64 op)) (calm_cell _ _) [17,18] (i:=4) (v:=?_) rfl (by kernel_rfl) (by kernel_rfl) (by kernel_rfl) (by kernel_rfl) (fun _ _ _ h=>h) (Or.inl ⟨by rfl,?_⟩) (hci) (by assumption) ?_
         rotate_left
         ·intro w hSw;(try dsimp only at hSw);go_simp;try with_reducible rfl
         (try simp only [y_,z_]);clear hci;refine aR_ (rs:=[17]) (by kernel_rfl) (by simp) ?_;refine aC_ rfl (fun K hK=>?_) aN_;go_simp;refine (pairO_c _ op QA QB _ _ KA KB kA kB hpA hpB).mono ?_;rintro e vz ⟨KZ,kc,rfl,hpz0,xz⟩;go_wp2_with fail
         refine hK.out _ _ ?_ (fun hHeld=>?_)
         ·exact trivial
         clear hK K;(try simp only [y_,z_]);have hbz:=hbz.upd xz (fun f=>f);have hrz:=hrz.upd xz (fun _ _ _ f=>f) (fun f=>f);have HUz:=HUz.then_non xz;have hpz:=PtK.mono (G:=fun k=>rb<k) (fun k _ h=>by omega) _ _ _ hpz0;have c0:=hbz.cell 0;have c1:=hbz.cell 1;have c2:=hbz.cell 2;have c3:=hbz.cell 3;have c4:=hbz.cell 4;have f0:=hbz.frozen;refine aR_ (rs:=[18]) (by kernel_rfl) (by simp) ?_;refine aC_ rfl (fun K hK=>?_) aN_;go_simp;refine hK.out _ _ ?_ (fun hHeld=>?_)
         ·exact trivial
         clear hK K;(try simp only [y_,z_]);refine aD_ (by kernel_rfl) ?_ _;go_wp2_with fail
         have hZ:=pat_end HRB.out hlt HUz hrz hpz hbz rfl;rw [set5_eq];refine bodyPost_ret (results_cell_row rfl _ _ rb 38 _ (0,0) _ rfl hZ.2.2.2 Tryz.underlying38 rfl (by kernel_rfl)) rfl ?_;exact ⟨_,_,by rw [HL.out];rfl,by rw [HL.out];exact hZ.1,by rw [HY.out];exact hZ.2.1,hZ.2.2.1⟩
       ·go_simp;refine (CB.out v1 hrz).mono ?_;rintro e v2 ⟨KB,kB,rfl,hpB0,hrz,x2⟩;unfold pv;go_wp2_with fail
        refine hK.out _ _ ?_ (fun hHeld=>?_)
        ·exact trivial
        clear hK K;(try simp only [y_,z_]);have hbz:=hbz.upd x2 (by omega);have HUz:=HUz.trans x2 (fun _ _ h=>h);have hpB:=PtK.mono (G:=fun k=>rb<k) (fun k _ h=>by have h:v1.heap.size≤k:=h;omega) _ _ _ hpB0;have hsz:=Nat.lt_of_lt_of_le hsz x2.size;clear hpB0;have hpA:=PtK.upd x2 (fun k _ h e=>by have h:rb<k:=h;omega) _ _ _ hpA;refine aR_ (rs:=[0]) (by kernel_rfl) (by simp) ?_;refine aC_ rfl (fun K hK=>?_) aN_;go_simp;refine hK.out _ _ ?_ (fun hHeld=>?_)
        ·exact trivial
        clear hK K;(try simp only [y_,z_]);obtain ⟨v3,Hv3⟩:=nm (v2.alloc (.cells #[.int .i64 4,.int .i64 5,.int .i64 9,.int .i64 10,.int .i64 11] 3));rw [Hv3.out];have x3:Upd Non v2 v3:=by rw [←Hv3.out];exact Upd.refl.alloc _
        have hci:v3.cell? ⟨v2.heap.size,rr,none⟩=some (.int .i64 op):=by rw [←Hv3.out];exact ((Blk.new _ _ _).cell rr).trans HOP.out
        have hbi:v2.heap.size≠p:=by omega
        have hbz:=hbz.upd x3 (fun f=>f);have hrz:=hrz.upd x3 (fun _ _ _ f=>f) (fun f=>f);have HUz:=HUz.then_non x3;have hsz:=Nat.lt_of_lt_of_le hsz x3.size;have hpA:=PtK.upd x3 (fun _ _ _ f=>f) _ _ _ hpA;have hpB:=PtK.upd x3 (fun _ _ _ f=>f) _ _ _ hpB;refine wpT 3 ?_;(try simp only [y_,z_]);refine wpAnyH_takeM (fun w'=>w'.cell? ⟨v2.heap.size,rr,none⟩=some (.int .i64 op)) (calm_cell _ _) [17,18] (i:=4) (v:=?_) rfl (by kernel_rfl) (by kernel_rfl) (by kernel_rfl) (by kernel_rfl) (fun _ _ _ h=>h) (Or.inl ⟨by rfl,?_⟩) (hci) (by assumption) ?_
        rotate_left
        ·intro w hSw;(try dsimp only at hSw);go_simp;try with_reducible rfl
        (try simp only [y_,z_]);clear hci;refine aR_ (rs:=[17]) (by kernel_rfl) (by simp) ?_;refine aC_ rfl (fun K hK=>?_) aN_;go_simp;refine (pairO_c _ op QA QB _ _ KA KB kA kB hpA hpB).mono ?_;rintro e vz ⟨KZ,kc,rfl,hpz0,xz⟩;go_wp2_with fail
        refine hK.out _ _ ?_ (fun hHeld=>?_)
        ·exact trivial
        clear hK K;(try simp only [y_,z_]);have hbz:=hbz.upd xz (fun f=>f);have hrz:=hrz.upd xz (fun _ _ _ f=>f) (fun f=>f);have HUz:=HUz.then_non xz;have hpz:=PtK.mono (G:=fun k=>rb<k) (fun k _ h=>by omega) _ _ _ hpz0;have c0:=hbz.cell 0;have c1:=hbz.cell 1;have c2:=hbz.cell 2;have c3:=hbz.cell 3;have c4:=hbz.cell 4;have f0:=hbz.frozen;refine aR_ (rs:=[18]) (by kernel_rfl) (by simp) ?_;refine aC_ rfl (fun K hK=>?_) aN_;go_simp;refine hK.out _ _ ?_ (fun hHeld=>?_)
        ·exact trivial
        clear hK K;(try simp only [y_,z_]);refine aD_ (by kernel_rfl) ?_ _;go_wp2_with fail
        have hZ:=pat_end HRB.out hlt HUz hrz hpz hbz rfl;rw [set5_eq];refine bodyPost_ret (results_cell_row rfl _ _ rb 38 _ (0,0) _ rfl hZ.2.2.2 Tryz.underlying38 rfl (by kernel_rfl)) rfl ?_;exact ⟨_,_,by rw [HL.out];rfl,by rw [HL.out];exact hZ.1,by rw [HY.out];exact hZ.2.1,hZ.2.2.1⟩
theorem patA_c (vars:Nat) (h1:1≤vars) (h2:vars≤6):∀(f:Nat) (_:f≤4) (tests:Bool),PatC (4 - (f:Int)) vars tests (patA vars f tests)
 | 0,_,t=>patLeaf_c vars h1 h2 _ (by omega) (by omega) t
 | 1,_,t=>patLeaf_c vars h1 h2 _ (by omega) (by omega) t
 | f+2,hf,t=>by
  have e:decide (1<(4 - ((f+2:Nat):Int)))=decide (f=0):=decide_eq_decide.2 (by omega)
  have ha:∀t,PatC ((4 - ((f+2:Nat):Int))+1) vars t (patA vars (f+1) t):=fun t=>by
   have h:=patA_c vars h1 h2 (f+1) (by omega) t
   rwa [show (4 - ((f+1:Nat):Int))=(4 - ((f+2:Nat):Int))+1 by omega] at h
  have hb:PatC ((4 - ((f+2:Nat):Int))+2) vars false (patA vars f false):=by
   have h:=patA_c vars h1 h2 f (by omega) false
   rwa [show (4 - (f:Int))=(4 - ((f+2:Nat):Int))+2 by omega] at h
  have h:=patStep_c vars h1 h2 (4 - ((f+2:Nat):Int)) (by omega) (by omega) t (patA vars (f+1)) (patA vars f false) ha hb;rw [e] at h;exact h
theorem q2_size (k:Int) (a b:Pt):(q2 k a b).size=1+(a.size+b.size):=by simp [q2,Pt.size,Pt.sizeL]
theorem lfA_size (vars n:Int):(lfA vars n).size=1:=by unfold lfA;split <;> simp [Pt.size,Pt.sizeL]
theorem patA_size (vars:Int):∀(f:Nat) (t:Bool) (xs:List Int),(patA vars f t xs).1.size≤4 ^ f
 | 0,_,xs=>by show (lfA vars _).size≤_;rw [lfA_size];simp
 | 1,_,xs=>by show (lfA vars _).size≤_;rw [lfA_size];simp
 | f+2,t,xs=>by
  have h1:=fun t ys=>patA_size vars (f+1) t ys
  have h2:=fun ys=>patA_size vars f false ys
  have e1:4 ^ (f+1)=4 * 4 ^ f:=by rw [Nat.pow_succ];omega
  have e2:4 ^ (f+2)=16 * 4 ^ f:=by rw [Nat.pow_succ,Nat.pow_succ];omega
  have hp:0<4 ^ f:=Nat.pow_pos (by omega);show (patS vars _ t (patA vars (f+1)) (patA vars f false) xs).1.size≤_;unfold patS;simp only;by_cases c1:(decide (f=0)=true∧xs.headD 0 % 12<6)∨xs.headD 0 % 12<3
  ·rw [if_pos c1];show (lfA vars _).size≤_;rw [lfA_size];omega
  ·rw [if_neg c1];by_cases c2:xs.headD 0 % 12<5
   ·rw [if_pos c2];have:=h1 t xs.tail;simp only [Pt.size,Pt.sizeL];omega
   ·rw [if_neg c2];by_cases c3:xs.headD 0 % 12<6
    ·rw [if_pos c3];have:=h1 t xs.tail;show (q2 _ _ _).size≤_;rw [q2_size];simp only [q1c,Pt.size,Pt.sizeL];omega
    ·rw [if_neg c3];by_cases c4:xs.headD 0 % 12<7∧t=true
     ·rw [if_pos c4];have:=h2 xs.tail;have:=h2 (patA vars f false xs.tail).2;show (q2 _ _ _).size≤_;rw [q2_size];omega
     ·rw [if_neg c4];by_cases c5:xs.headD 0 % 12<8∧t=true
      ·rw [if_pos c5];have:=h1 false xs.tail;have:=h2 (patA vars (f+1) false xs.tail).2;have:=h2 (patA vars f false (patA vars (f+1) false xs.tail).2).2;simp only [Pt.size,Pt.sizeL];omega
      ·rw [if_neg c5];have:=h1 t xs.tail;have:=h1 t (patA vars (f+1) t xs.tail).2;show (q2 _ _ _).size≤_;rw [q2_size];omega
mutual
def PV (n:Int):Pt→Prop
 | .mk v _ _ _ kids=>v≤n∧PVL n kids
def PVL (n:Int):List Pt→Prop
 | []=>True
 | k::ks=>PV n k∧PVL n ks
end
theorem pv_q2 {n k:Int} {a b:Pt} (hn:0≤n) (ha:PV n a) (hb:PV n b):PV n (q2 k a b):=⟨hn,ha,hb,trivial⟩
theorem patA_pv (vars:Int) (hv:1≤vars):∀(f:Nat) (t:Bool) (xs:List Int),PV vars (patA vars f t xs).1
 | 0,_,xs=>pv_leaf vars hv _
 | 1,_,xs=>pv_leaf vars hv _
 | f+2,t,xs=>by
  have h1:=fun t ys=>patA_pv vars hv (f+1) t ys
  have h2:=fun ys=>patA_pv vars hv f false ys
  show PV vars (patS vars _ t (patA vars (f+1)) (patA vars f false) xs).1;unfold patS;simp only;have h0:0≤vars:=by omega
  by_cases c1:(decide (f=0)=true∧xs.headD 0 % 12<6)∨xs.headD 0 % 12<3
  ·rw [if_pos c1];exact pv_leaf vars hv _
  ·rw [if_neg c1];by_cases c2:xs.headD 0 % 12<5
   ·rw [if_pos c2];exact ⟨h0,h1 _ _,trivial⟩
   ·rw [if_neg c2];by_cases c3:xs.headD 0 % 12<6
    ·rw [if_pos c3];exact pv_q2 h0 (h1 _ _) ⟨h0,trivial⟩
    ·rw [if_neg c3];by_cases c4:xs.headD 0 % 12<7∧t=true
     ·rw [if_pos c4];exact pv_q2 h0 (h2 _) (h2 _)
     ·rw [if_neg c4];by_cases c5:xs.headD 0 % 12<8∧t=true
      ·rw [if_pos c5];exact ⟨h0,h1 _ _,h2 _,h2 _,trivial⟩
      ·rw [if_neg c5];exact pv_q2 h0 (h1 _ _) (h1 _ _)
where
 pv_leaf (vars:Int) (hv:1≤vars) (n:Int):PV vars (lfA vars n):=by
  unfold lfA
  split
  ·exact ⟨by omega,trivial⟩
  ·have:=Int.emod_lt_of_pos (pM n) (show 0<vars by omega);exact ⟨by omega,trivial⟩
theorem findG_none:∀{vs:List Int} {x:Int} {k:Nat},findG vs x k=none→x ∉ vs
 | [],_,_,_=>by simp
 | y::l,x,k,h=>by
  unfold findG at h
  split at h
  ·simp at h
  ·rename_i hy;simp only [List.mem_cons,not_or];exact ⟨fun e=>hy e.symm,findG_none h⟩
def VsN (n:Int) (vs:List Int):Prop:=vs.Nodup∧∀y∈vs,1≤y∧y≤n
theorem VsN.numV {n x:Int} {vs:List Int} (h:VsN n vs) (h1:0<x) (h2:x≤n):VsN n (numV vs x).2:=by
 unfold Go.Proofs.YtifhejahbbnkiaaGreat.numV
 split
 ·exact h
 ·rename_i e;have hx:=findG_none e;refine ⟨?_,fun y hy=>?_⟩
  ·rw [List.nodup_append];exact ⟨h.1,by simp,fun a ha b hb=>by rw [List.mem_singleton] at hb;subst hb;exact fun e=>hx (e ▸ ha)⟩
  ·rcases List.mem_append.1 hy with hy | hy
   ·exact h.2 y hy
   ·rw [List.mem_singleton] at hy;subst hy;omega
mutual
theorem numF_vs (n:Int):∀(p:Pt) (vs ms:List Int),PV n p→VsN n vs→VsN n (numF p vs ms).2.1
 | .mk v op imm iv kids,vs,ms,hp,h=>by
  simp only [numF]
  split
  ·rename_i hv;exact h.numV hv hp.1
  ·exact numL_vs n kids vs _ hp.2 h
theorem numL_vs (n:Int):∀(ks:List Pt) (vs ms:List Int),PVL n ks→VsN n vs→VsN n (numL ks vs ms).2.1
 | [],_,_,_,h=>h
 | k::ks,vs,ms,hp,h=>numL_vs n ks _ _ hp.2 (numF_vs n k vs ms hp.1 h)
end
theorem vsN_two {vs:List Int} (h:VsN 2 vs):vs.length≤2:=by
 match vs,h with
 | [],_=>simp
 | [_],_=>simp
 | [_,_],_=>simp
 | a::b::c::l,⟨hn,hm⟩ =>
  have h1:=hm a (by simp);have h2:=hm b (by simp);have h3:=hm c (by simp);simp only [List.nodup_cons,List.mem_cons,not_or] at hn;omega
def aNumF (xs:List Int):Pt×List Int×List Int:=numF (patA 2 4 true xs.tail).1 [] []
def aLeftF (xs:List Int):Pt:=if 0<(aNumF xs).1.v then .mk 0 21 0 0 [(aNumF xs).1] else (aNumF xs).1
def aRightF (xs:List Int):Pt:=if (aNumF xs).2.1.length≠0∧0<xs.headD 0 % 3 then (patA (aNumF xs).2.1.length 3 true (patA 2 4 true xs.tail).2).1 else aLeftF xs
def aCond5 (n:Int) (nv:Nat) (k:Int):List Cd :=
 if k=0 then [] else if k=1 then [⟨1,1,0,0⟩] else if k=2 then [⟨2,nv,0,wordF (n.tdiv 3) 7⟩] else if k=3 then [⟨3,1,0,wordF (n.tdiv 5) 7⟩] else [⟨5,1,1,0⟩]
def aCondsF (n:Int) (nv:Nat):List Cd:=if 1<nv∧n % 5=0 then [⟨4,1,2,0⟩] else if nv≠0 then aCond5 n nv (n.tdiv 7 % 5) else []
def aRuleF (xs:List Int):Rl:=⟨⟨#[114]⟩,aLeftF xs,aRightF xs,aCondsF (xs.headD 0) (aNumF xs).2.1.length,(aNumF xs).2.1.length,0⟩
theorem aNumF_len (xs:List Int):(aNumF xs).2.1.length≤2:=vsN_two (numF_vs 2 _ [] [] (patA_pv 2 (by omega) 4 true xs.tail) ⟨List.nodup_nil,fun _ h=>absurd h (List.not_mem_nil)⟩)
theorem aNumF_size (xs:List Int):(aNumF xs).1.size≤256:=by
 unfold aNumF;rw [(numF_len _ [] []).2.2];exact patA_size 2 4 true xs.tail
theorem aLeftF_size (xs:List Int):(aLeftF xs).size≤257:=by
 have h:=aNumF_size xs;unfold aLeftF
 split
 ·simp only [Pt.size,Pt.sizeL];omega
 ·omega
theorem aRightF_size (xs:List Int):(aRightF xs).size≤257:=by
 unfold aRightF
 split
 ·have:=patA_size ((aNumF xs).2.1.length:Int) 3 true (patA 2 4 true xs.tail).2;omega
 ·exact aLeftF_size xs
theorem aCondsF_len (n:Int) (nv:Nat):(aCondsF n nv).length≤1:=by
 unfold aCondsF aCond5
 repeat' split
 all_goals simp
theorem aRuleF_sz (xs:List Int):RlSz (aRuleF xs):=by
 refine ⟨?_,?_,?_,?_⟩
 ·have:=aLeftF_size xs;show (aLeftF xs).size≤_;omega
 ·have:=aRightF_size xs;show (aRightF xs).size≤_;omega
 ·have:=aCondsF_len (xs.headD 0) (aNumF xs).2.1.length;show (aCondsF _ _).length≤_;omega
 ·show (1:Nat)≤_;omega
theorem aCond_one {w:World} {g:Nat} {x0 x1 x2 x3 x4 x5 x6 x7 x8 x9 x10 x11 x12 x13:Value} (b:Blk w g 41 #[x0,x1,x2,x3,x4,x5,x6,x7,x8,x9,x10,x11,x12,x13]) (c:Cd) :
  Blk ((w.alloc (.cells #[.int .i64 c.kind,.int .i64 c.a,.int .i64 c.b,.int .i64 c.n] 102)).setCell ⟨g,11,none⟩ (.slice (some ⟨w.heap.size,0,none⟩) 1 1)) g 41 #[x0,x1,x2,x3,x4,x5,x6,x7,x8,x9,x10,.slice (some ⟨w.heap.size,0,none⟩) 1 1,x12,x13] ∧
  CondsV ((w.alloc (.cells #[.int .i64 c.kind,.int .i64 c.a,.int .i64 c.b,.int .i64 c.n] 102)).setCell ⟨g,11,none⟩ (.slice (some ⟨w.heap.size,0,none⟩) 1 1)) (fun k=>w.heap.size≤k) (some ⟨w.heap.size,0,none⟩) [c] ∧
  Upd (·=g) w ((w.alloc (.cells #[.int .i64 c.kind,.int .i64 c.a,.int .i64 c.b,.int .i64 c.n] 102)).setCell ⟨g,11,none⟩ (.slice (some ⟨w.heap.size,0,none⟩) 1 1)):=by
 have hg:g<w.heap.size:=b.lt;have ua:Upd Non w (w.alloc (.cells #[.int .i64 c.kind,.int .i64 c.a,.int .i64 c.b,.int .i64 c.n] 102)):=Upd.refl.alloc _;have ba:=Blk.new w 102 #[.int .i64 c.kind,.int .i64 c.a,.int .i64 c.b,.int .i64 c.n];obtain ⟨W,HW⟩:=nm (w.alloc (.cells #[.int .i64 c.kind,.int .i64 c.a,.int .i64 c.b,.int .i64 c.n] 102));rw [HW.out] at ua ba ⊢;have us:Upd (·=g) W (W.setCell ⟨g,11,none⟩ (.slice (some ⟨w.heap.size,0,none⟩) 1 1)):=updCell _ _ _ _;have bs:=ba.upd us (by omega);refine ⟨by simpa using (b.upd ua (fun f=>f)).set_ 11 (.slice (some ⟨w.heap.size,0,none⟩) 1 1),.inr ⟨w.heap.size,0,rfl,Nat.le_refl _,fun i hi=>?_⟩,(ua.mono (fun _ _ f=>f.elim)).trans us (fun _ _ h=>h)⟩
 obtain rfl:i=0:=by simpa using hi
 exact ⟨bs.cell 0,bs.cell 1,bs.cell 2,bs.cell 3⟩
def sdA (p:Pt):Pt:=if 0<p.v then .mk 0 21 0 0 [p] else p
theorem condsV_one {w:World} {F:Nat→Prop} {e:Nat} (c:Cd) (b:Blk w e 102 #[.int .i64 c.kind,.int .i64 c.a,.int .i64 c.b,.int .i64 c.n]) (hF:F e):CondsV w F (some ⟨e,0,none⟩) [c]:=by
 refine .inr ⟨e,0,rfl,hF,fun i hi=>?_⟩;obtain rfl:i=0:=by simpa using hi
 exact ⟨b.cell 0,b.cell 1,b.cell 2,b.cell 3⟩
set_option maxRecDepth 100000 in
set_option maxHeartbeats 32000000 in
theorem aRule_c (w:World) (F:Nat→Prop) (A:Option Addr) (c:Nat) (xs:List Int) (hx:Ints w F A xs) (hc:xs.length≤c) (hI:∀x∈xs,I64 x) (hn:xs.length≤100000000000000) :
  Calls Tryz.prog 20 #[.slice A xs.length c] w fun e w'=>∃a:RlA,e=.returned (rlv (aRuleF (xs.take 16)) a)∧RlK w' (fun k=>w.heap.size≤k) (aRuleF (xs.take 16)) a∧Upd Non w w':=by
 have hx0:=hx.mono (G:=(·<w.heap.size)) (fun k hk _=>hk);obtain ⟨W,HW⟩:=nm (w.alloc (.cells #[.string ⟨#[]⟩,.int .i64 0,.int .i64 0,.int .i64 0,.int .i64 0,.slice none 0 0,.int .i64 0,.int .i64 0,.int .i64 0,.int .i64 0,.slice none 0 0,.slice none 0 0,.int .i64 0,.int .i64 0] 41))
 have hU:Upd Non w W:=by rw [←HW.out];exact Upd.refl.alloc _
 have hb:Blk W w.heap.size 41 #[.string ⟨#[]⟩,.int .i64 0,.int .i64 0,.int .i64 0,.int .i64 0,.slice none 0 0,.int .i64 0,.int .i64 0,.int .i64 0,.int .i64 0,.slice none 0 0,.slice none 0 0,.int .i64 0,.int .i64 0]:=by rw [←HW.out];exact Blk.new _ _ _
 have hsW:W.heap.size=w.heap.size+1:=by rw [←HW.out];simp
 have e0:=HW.out;have hxW:=hx0.upd hU (fun _ _ _ f=>f);obtain ⟨l,Hl⟩:=nm xs.length;rw [Hl.out] at hc;rw [Hl.out];go_enter Tryz.func20,Tryz.ntmps20
 go_upto_region 1 with fail
 go_cut [3] (fun s wx=>∃p,s=.pointer (some ⟨p,0,none⟩)∧w.heap.size<p∧Rd wx (fun k=>w.heap.size<k∧k≠p) p (xs.take 16)∧Upd Non W wx)
 case first =>
  obtain ⟨W2,HW2⟩:=nm (W.alloc (.cells #[] 3));have hU2:Upd Non W W2:=by rw [←HW2.out];exact Upd.refl.alloc _
  have ho2:Own W2 3 1 (some ⟨w.heap.size+1,0,none⟩) 0 0 (icells []):=by rw [←HW2.out];exact own_empty' 3 1 hsW.symm
  have e2:=HW2.out;have hx2:=hxW.upd hU2 (fun _ _ _ f=>f);obtain ⟨m,hm⟩:∃m:Nat,(xs.take 16).length=m:=⟨_,rfl⟩;have hmx:Ints W2 (·<w.heap.size) A (xs.take 16):=hx2.take_ 16;have hml:m≤16:=by rw [←hm];simp;omega
  have H:∀(A3:Option Addr) (c3:Nat) (w3:World),Own w3 3 1 A3 (0+m) c3 (icells []++icells (xs.take 16))→Upd (At (some ⟨w.heap.size+1,0,none⟩)) W2 w3→(∀k,At A3 k→At (some ⟨w.heap.size+1,0,none⟩) k∨k=W2.heap.size) →
    ∃p,Value.pointer (some ⟨w3.heap.size,0,none⟩)=.pointer (some ⟨p,0,none⟩)∧w.heap.size<p∧Rd (w3.alloc (.cells #[.slice A3 m c3,.int .i64 0] 96)) (fun k=>w.heap.size<k∧k≠p) p (xs.take 16)∧Upd Non W (w3.alloc (.cells #[.slice A3 m c3,.int .i64 0] 96)):=by
   intro A3 c3 w3 ho3 hu3 hat3;have hs3:=hu3.size;have hsW2:W2.heap.size=w.heap.size+1+1:=by rw [←HW2.out];simp [hsW]
   obtain ⟨W4,HW4⟩:=nm (w3.alloc (.cells #[.slice A3 m c3,.int .i64 0] 96));have uA:Upd Non w3 W4:=by rw [←HW4.out];exact Upd.refl.alloc _
   rw [HW4.out];refine ⟨w3.heap.size,rfl,by omega,⟨A3,c3,.int .i64 0,?_,?_,?_,fun x hx=>hI x (List.mem_of_mem_take hx)⟩,?_⟩
   ·rw [←HW4.out,hm];exact Blk.new _ _ _
   ·have ho4:=ho3.upd uA (fun _ _ f=>f);refine (Own.ints ho4).mono (fun k hk h=>?_);have hlt:=ho3.lt h;rcases hat3 k h with h | h
    ·rw [At.some_] at h;omega
    ·omega
   ·have:=ho3.le;omega
   ·exact (hU2.trans hu3 (fun i hi h=>by rw [At.some_] at h;omega)).then_non uA
  have hlm:min (l:Int) 16=(m:Int):=by rw [←hm,←Hl.out,List.length_take];omega
  have hle:m≤l:=by rw [←hm,←Hl.out,List.length_take];omega
  go_wp2_with (at_builtin;refine wpList_app rfl rfl T_ints' rfl ho2 rfl hmx (by rw [List.length_map,hm,Nat.mul_one]) (icells_one _) (by simp only [maxLen];omega) (by omega) ?_;intro A3 c3 w3 ho3 hu3 hat3)
  go_meet
  case rel=>exact H A3 c3 w3 ho3 hu3 hat3
 case rest =>
  obtain ⟨w1,rfl⟩:∃w1:World,w1=wc:=⟨_,rfl⟩;obtain ⟨p,rfl,hpw,hR,hU1⟩:=hcut;have hb1:=hb.upd hU1 (fun f=>f);obtain ⟨ys,Hys⟩:=nm (xs.take 16);rw [Hys.out] at hR;have hR1:=hR.mono (G:=fun k=>w.heap.size<k∧k≠p∧k<w1.heap.size) (fun k hk h=>⟨h.1,h.2,hk⟩);have hpl:=hR.lt;have hni:=hR.i64;have C1:=h_ (rdNext_c (fun k h=>h.2.1) hR1);have hUw1:=hU.then_non hU1;clear hx hx0 hxW hI hR hb hU hU1 HW e0 hR1;go_wp2_with fail
  refine C1.out.mono ?_;rintro e w2 ⟨rfl,hR2,hu2⟩;obtain ⟨n,Hn⟩:=nm (ys.headD 0);rw [Hn.out] at hni ⊢;have HP0:PatC 0 2 true (patA 2 4 true):=patA_c 2 (by omega) (by omega) 4 (by omega) true;have C2:=h_ (HP0 w2 _ p ys.tail (fun k h=>h.2.1) hR2);have HAR:=h_ (aNumF_len ys);clear HP0;have hb2:=hb1.upd hu2 (by omega);clear C1 hR2 hb1;go_wp2_with fail
  refine C2.out.mono ?_;rintro e w3 ⟨K1,k1,rfl,hp3,hR3,hu3⟩;have hPs:=patA_size 2 4 true ys.tail;obtain ⟨P,HP⟩:=nm (patA 2 4 true ys.tail);rw [HP.out] at hp3 hR3 hPs ⊢;have C3:=h_ (Numbered_c P.1 w3 _ K1 k1 hp3 (by omega));have hb3:=hb2.upd hu3 (by omega);have hls:=numF_len P.1 [] [];simp only [List.length_nil,Nat.zero_add] at hls;clear C2 hb2;go_wp2_with fail
  refine C3.out.mono ?_;rintro e w4 ⟨K2,k2,rfl,hp4,hu4⟩;obtain ⟨R,HR⟩:=nm (numF P.1 [] []);rw [HR.out] at hp4 hls ⊢;obtain ⟨q,Hq⟩:=nm R.1;obtain ⟨nv,Hnv⟩:=nm R.2.1.length;obtain ⟨ni,Hni⟩:=nm R.2.2.length;rw [Hq.out] at hp4 ⊢;rw [Hnv.out] at hls ⊢;rw [Hni.out];have hnv:nv≤2:=by rw [←Hnv.out,←HR.out,←HP.out];exact HAR.out
  clear HAR;have hb4:=hb3.upd hu4 (fun f=>f);have hR4:=hR3.upd hu4 (fun _ _ _ f=>f) (fun f=>f);have s1:=hUw1.size;have s2:=hu2.size;have s3:=hu3.size;have s4:=hu4.size;have hU4:Upd (·=p) w1 w4:=(hu2.trans hu3 (fun _ _ h=>h)).then_non hu4;clear C3 hls hPs hp3 hR3 hb3;unfold pv
  go_upto_region 4 with fail
  obtain ⟨w5,Hw5⟩:=nm (w4.alloc (.cells #[.int .i64 q.v,.int .i64 q.op,.int .i64 q.imm,.int .i64 q.iv,.slice K2 q.kids.length k2] 38));have u5:Upd Non w4 w5:=by rw [←Hw5.out];exact Upd.refl.alloc _
  have b5:Blk w5 w4.heap.size 38 #[.int .i64 q.v,.int .i64 q.op,.int .i64 q.imm,.int .i64 q.iv,.slice K2 q.kids.length k2]:=by rw [←Hw5.out];exact Blk.new _ _ _
  have s5:w5.heap.size=w4.heap.size+1:=by rw [←Hw5.out];simp
  have hp5:PtK w5 (fun k=>w.heap.size<k∧k≠p∧k<w4.heap.size) q K2 k2:=PtK.upd u5 (fun _ _ _ f=>f) _ _ _ (PtK.mono (fun k hk h=>by omega) _ _ _ hp4)
  have hb5:=hb4.upd u5 (fun f=>f);have hR5:=hR4.upd u5 (fun _ _ _ f=>f) (fun f=>f);have hU5:=hU4.then_non u5;rw [Hw5.out];clear hp4 hb4 hR4 hU4 u5 Hw5;have HR5:=h_ hR5;have HU5:=h_ hU5;have HB5:=h_ hb5;have HP5:=h_ hp5;have Hb5:=h_ b5;have c0:=b5.cell 0;have c1:=b5.cell 1;have c2:=b5.cell 2;have c3:=b5.cell 3;have c4:=b5.cell 4;have f5:=b5.frozen;clear hR5 hU5 hb5 hp5 b5;obtain ⟨v,Hv⟩:=nm q.v;rw [Hv.out] at c0 ⊢
  go_upto_if 29 with fail
  go_cut [] (fun wx=>∃KL kl,Blk wx w4.heap.size 38 #[.int .i64 (sdA q).v,.int .i64 (sdA q).op,.int .i64 (sdA q).imm,.int .i64 (sdA q).iv,.slice KL (sdA q).kids.length kl]∧PtK wx (fun k=>w.heap.size<k∧k≠p∧k≠w4.heap.size) (sdA q) KL kl∧Upd (·=w4.heap.size) w5 wx)
  case first =>
   by_cases hv:0<q.v
   ·have e:sdA q=.mk 0 21 0 0 [q]:=if_pos hv;have hv':0<v:=by rw [←Hv.out];exact hv
    have tv:decide (0<v)=true:=dT_ hv';go_wp2_with fail
    go_meet
    case rel =>
     rw [set5_eq,e];have b:=Hb5.out;rw [Hv.out] at b;have us:=set5_upd w5 w4.heap.size (.int .i64 0) (.int .i64 21) (.int .i64 0) (.int .i64 0) (.slice (some ⟨w4.heap.size+1,0,none⟩) 1 1);have bs:=set5_blk b (.int .i64 0) (.int .i64 21) (.int .i64 0) (.int .i64 0) (.slice (some ⟨w4.heap.size+1,0,none⟩) 1 1);have hs:=us.size;obtain ⟨wA,HwA⟩:=nm (set5 w5 w4.heap.size (.int .i64 0) (.int .i64 21) (.int .i64 0) (.int .i64 0) (.slice (some ⟨w4.heap.size+1,0,none⟩) 1 1));have hsA:wA.heap.size=w4.heap.size+1:=by rw [←HwA.out,←s5];simp [set5]
     rw [HwA.out] at us bs ⊢;have ua:Upd Non wA (wA.alloc (.cells #[.int .i64 v,.int .i64 q.op,.int .i64 q.imm,.int .i64 q.iv,.slice K2 q.kids.length k2] 38)):=Upd.refl.alloc _;have ba:=Blk.new wA 38 #[.int .i64 v,.int .i64 q.op,.int .i64 q.imm,.int .i64 q.iv,.slice K2 q.kids.length k2];rw [hsA,←Hv.out] at ba;rw [←Hv.out] at ua ⊢;refine ⟨some ⟨w4.heap.size+1,0,none⟩,1,bs.upd ua (fun f=>f),?_,us.then_non ua⟩;exact PtK.one _ _ _ _ ba (PtK.upd ua (fun _ _ _ f=>f) _ _ _ (PtK.upd us (fun k hk h=>by omega) _ _ _ (PtK.mono (fun k _ h=>by omega) _ _ _ HP5.out))) (by omega) (by omega)
   ·have e:sdA q=q:=if_neg hv;have hv':¬0<v:=by rw [←Hv.out];exact hv
    have tv:decide (0<v)=false:=dF_ hv';go_wp2_with fail
    go_meet
    case rel=>rw [e];exact ⟨K2,k2,Hb5.out,PtK.mono (fun k _ h=>by omega) _ _ _ HP5.out,Upd.refl⟩
  case rest =>
   obtain ⟨w6,rfl⟩:∃w6:World,w6=wc:=⟨_,rfl⟩;obtain ⟨KL,kl,b6,hp6,u6⟩:=hcut;obtain ⟨L,HL⟩:=nm (sdA q);rw [HL.out] at b6 hp6;have s6:=u6.size;have hb6:=HB5.out.upd u6 (by omega);have hR6:=HR5.out.upd u6 (fun k hk h=>by omega) (by omega);have hU6:Upd (fun k=>k=p∨k=w4.heap.size) w1 w6:=(HU5.out.mono (fun _ _ h=>.inl h)).trans u6 (fun _ _ h=>.inr h);clear HB5 HR5 HU5 HP5 Hb5 c0 c1 c2 c3 c4 f5;have c0:=b6.cell 0;have c1:=b6.cell 1;have c2:=b6.cell 2;have c3:=b6.cell 3;have c4:=b6.cell 4;have f6:=b6.frozen
   go_upto_region 7 with fail
   clear c0 c1 c2 c3 c4 f6 b6;obtain ⟨w7,Hw7⟩:=nm (w6.alloc (.cells #[.string ⟨#[114]⟩,.int .i64 L.v,.int .i64 L.op,.int .i64 L.imm,.int .i64 L.iv,.slice KL L.kids.length kl,.int .i64 L.v,.int .i64 L.op,.int .i64 L.imm,.int .i64 L.iv,.slice KL L.kids.length kl,.slice none 0 0,.int .i64 nv,.int .i64 0] 41))
   have u7:Upd Non w6 w7:=by rw [←Hw7.out];exact Upd.refl.alloc _
   have b7:Blk w7 w6.heap.size 41 #[.string ⟨#[114]⟩,.int .i64 L.v,.int .i64 L.op,.int .i64 L.imm,.int .i64 L.iv,.slice KL L.kids.length kl,.int .i64 L.v,.int .i64 L.op,.int .i64 L.imm,.int .i64 L.iv,.slice KL L.kids.length kl,.slice none 0 0,.int .i64 nv,.int .i64 0]:=by rw [←Hw7.out];exact Blk.new _ _ _
   have s7:w7.heap.size=w6.heap.size+1:=by rw [←Hw7.out];simp
   rw [Hw7.out];have hb7:=hb6.upd u7 (fun f=>f);have hR7:=hR6.upd u7 (fun _ _ _ f=>f) (fun f=>f);have hU7:=hU6.then_non u7;have hp7:=PtK.mono (G:=fun k=>w.heap.size<k∧k≠p∧k≠w4.heap.size∧k≠w6.heap.size) (fun k hk h=>by omega) _ _ _ (PtK.upd u7 (fun _ _ _ f=>f) _ _ _ (PtK.mono (G:=fun k=>w.heap.size<k∧k≠p∧k≠w4.heap.size∧k<w6.heap.size) (fun k hk h=>by omega) _ _ _ hp6))
   have HUw1:=h_ hUw1
   have HRF:Hid (aRuleF ys=⟨⟨#[114]⟩,L,(if nv≠0∧0<n % 3 then (patA nv 3 true P.2).1 else L),aCondsF n nv,nv,0⟩):=by
    show _=_;have e1:aLeftF ys=L:=by unfold aLeftF aNumF;rw [HP.out,HR.out,Hq.out];exact HL.out
    have e2:(aNumF ys).2.1.length=nv:=by unfold aNumF;rw [HP.out,HR.out];exact Hnv.out
    unfold aRuleF aRightF;rw [e1,e2,HP.out,Hn.out]
   clear hb6 hR6 hU6 hp6 u7 Hw7 hUw1;by_cases h0:nv=0
   ·subst h0;obtain ⟨wz,Hwz⟩:∃wz:World,Hid (w7=wz):=⟨_,rfl⟩;rw [Hwz.out] at b7 hb7 hp7 hU7 s7 ⊢;obtain ⟨CA,cs,cc,hcs,bz,hcz,hle⟩:∃(CA:Option Addr) (cs:List Cd) (cc:Nat),cs=[]∧Blk wz w6.heap.size 41 #[.string ⟨#[114]⟩,.int .i64 L.v,.int .i64 L.op,.int .i64 L.imm,.int .i64 L.iv,.slice KL L.kids.length kl,.int .i64 L.v,.int .i64 L.op,.int .i64 L.imm,.int .i64 L.iv,.slice KL L.kids.length kl,.slice CA cs.length cc,.int .i64 0,.int .i64 0]∧CondsV wz (fun k=>w.heap.size<k∧k≠p∧k≠w4.heap.size∧k≠w6.heap.size) CA cs∧cs.length≤cc:=⟨none,[],0,rfl,b7,.nil,by simp⟩
    obtain ⟨Q,KR,kr,hQ,bz,hpR⟩:∃(Q:Pt) (KR:Option Addr) (kr:Nat),Q=L∧Blk wz w6.heap.size 41 #[.string ⟨#[114]⟩,.int .i64 L.v,.int .i64 L.op,.int .i64 L.imm,.int .i64 L.iv,.slice KL L.kids.length kl,.int .i64 Q.v,.int .i64 Q.op,.int .i64 Q.imm,.int .i64 Q.iv,.slice KR Q.kids.length kr,.slice CA cs.length cc,.int .i64 0,.int .i64 0]∧PtK wz (fun k=>w.heap.size<k∧k≠p∧k≠w4.heap.size∧k≠w6.heap.size) Q KR kr:=⟨L,KL,kl,rfl,bz,hp7⟩
    have HRr:Hid (aRuleF ys=⟨⟨#[114]⟩,L,Q,cs,0,0⟩):=by
     show _=_;rw [HRF.out,hcs,hQ,if_neg (fun h=>h.1 rfl)];unfold aCondsF;rw [if_neg (fun h=>by omega),if_neg (fun h=>h rfl)];rfl
    have HpL:=h_ hp7;have HpR:=h_ hpR;have Hcz:=h_ hcz;have HUz:=h_ hU7;have hz:=hb7;clear b7 hb7 hp7 hpR hcz hU7 hR7 HRF hcs hQ
    go_upto_region 13 with fail
    have r0:=bz.cell 0;have r1:=bz.cell 1;have r2:=bz.cell 2;have r3:=bz.cell 3;have r4:=bz.cell 4;have r5:=bz.cell 5;have r6:=bz.cell 6;have r7:=bz.cell 7;have r8:=bz.cell 8;have r9:=bz.cell 9;have r10:=bz.cell 10;have r11:=bz.cell 11;have r12:=bz.cell 12;have r13:=bz.cell 13;have z0:=hz.cell 0;have z1:=hz.cell 1;have z2:=hz.cell 2;have z3:=hz.cell 3;have z4:=hz.cell 4;have z5:=hz.cell 5;have z6:=hz.cell 6;have z7:=hz.cell 7;have z8:=hz.cell 8;have z9:=hz.cell 9;have z10:=hz.cell 10;have z11:=hz.cell 11;have z12:=hz.cell 12;have z13:=hz.cell 13;have rf:=bz.frozen;have zf:=hz.frozen;have HZ:=h_ hz;clear hz bz;go_wp2_with fail
    rw [set14_eq];refine bodyPost_ret (results_cell_row rfl _ _ w.heap.size 41 _ (0,0) _ rfl (set14_blk HZ.out _ _ _ _ _ _ _ _ _ _ _ _ _ _) Tryz.underlying41 rfl (by kernel_rfl)) rfl ?_
    rw [Hys.out,HRr.out];have uE:=set14_upd wz w.heap.size (.string ⟨#[114]⟩) (.int .i64 L.v) (.int .i64 L.op) (.int .i64 L.imm) (.int .i64 L.iv) (.slice KL L.kids.length kl) (.int .i64 Q.v) (.int .i64 Q.op) (.int .i64 Q.imm) (.int .i64 Q.iv) (.slice KR Q.kids.length kr) (.slice CA cs.length cc) (.int .i64 0) (.int .i64 0)
    refine ⟨⟨KL,kl,KR,kr,CA,cc⟩,rfl,⟨PtK.mono (fun k hk h=>by omega) _ _ _ (PtK.upd uE (fun k hk h=>by omega) _ _ _ HpL.out),PtK.mono (fun k hk h=>by omega) _ _ _ (PtK.upd uE (fun k hk h=>by omega) _ _ _ HpR.out),(Hcz.out.upd uE (fun k hk h=>by omega)).mono (fun k hk h=>by omega),hle⟩,?_⟩
    exact (HUw1.out.trans HUz.out (fun k hk h=>by omega)).trans uE (fun k hk h=>by omega)
   ·have tn0:decide ((0:Int)<(nv:Int))=true:=dT_ (by omega);have C5:=h_ (pick_c n 3 w7 (by omega) (by omega));go_wp2_with fail
    refine C5.out.mono ?_;rintro e wx ⟨rfl,hwx⟩;subst hwx;obtain ⟨k3,Hk3⟩:=nm (n % 3);rw [Hk3.out];have HPR:PatC 1 nv true (patA nv 3 true):=patA_c nv (by omega) (by omega) 3 (by omega) true;have C4:=h_ (HPR w7 _ p P.2 (fun k h=>h.2.1) hR7);clear C5 HPR;obtain ⟨QR,HQR⟩:=nm (patA nv 3 true P.2).1;rw [HQR.out] at C4 HRF;have Hp7:=h_ hp7;have Hb7:=h_ b7;have HR7:=h_ hR7;have HU7:=h_ hU7;have HB7:=h_ hb7;clear hp7 b7 hR7 hU7 hb7
    go_upto_if 43 with fail
    go_cut [] (fun wx=>∃(Q:Pt) (KR:Option Addr) (kr:Nat),Q=(if 0<k3 then QR else L)∧Blk wx w6.heap.size 41 #[.string ⟨#[114]⟩,.int .i64 L.v,.int .i64 L.op,.int .i64 L.imm,.int .i64 L.iv,.slice KL L.kids.length kl,.int .i64 Q.v,.int .i64 Q.op,.int .i64 Q.imm,.int .i64 Q.iv,.slice KR Q.kids.length kr,.slice none 0 0,.int .i64 nv,.int .i64 0]∧PtK wx (fun k=>w.heap.size<k∧k≠p∧k≠w4.heap.size∧k≠w6.heap.size) L KL kl∧PtK wx (fun k=>w.heap.size<k∧k≠p∧k≠w4.heap.size∧k≠w6.heap.size) Q KR kr∧Upd (fun k=>k=p∨k=w6.heap.size) w7 wx)
    case first =>
     by_cases h3:0<k3
     ·have t3:decide (0<k3)=true:=dT_ h3;go_wp2_with fail
      refine C4.out.mono ?_;rintro e w8 ⟨KR,kr,rfl,hp8,-,hu8⟩;have b8:=Hb7.out.upd hu8 (by omega);have s8:=hu8.size;have hpz:=PtK.upd hu8 (fun k hk h=>by omega) _ _ _ Hp7.out;have r6:=b8.cell 6;have r7:=b8.cell 7;have r8:=b8.cell 8;have r9:=b8.cell 9;have r10:=b8.cell 10;have rf:=b8.frozen;unfold pv;go_wp2_with fail
      go_meet
      case rel =>
       rw [setRt_eq];have u9:=setRt_upd w8 w6.heap.size (.int .i64 QR.v) (.int .i64 QR.op) (.int .i64 QR.imm) (.int .i64 QR.iv) (.slice KR QR.kids.length kr);have b9:=setRt_blk b8 (.int .i64 QR.v) (.int .i64 QR.op) (.int .i64 QR.imm) (.int .i64 QR.iv) (.slice KR QR.kids.length kr);exact ⟨QR,KR,kr,(if_pos h3).symm,b9,PtK.upd u9 (fun k hk h=>by omega) _ _ _ hpz,PtK.upd u9 (fun k hk h=>by omega) _ _ _ (PtK.mono (fun k hk h=>by omega) _ _ _ hp8),(hu8.mono (fun _ _ h=>.inl h)).trans u9 (fun _ _ h=>.inr h)⟩
     ·have t3:decide (0<k3)=false:=dF_ h3;go_wp2_with fail
      go_meet
      case rel=>exact ⟨L,KL,kl,(if_neg (show ¬0<k3 by omega)).symm,Hb7.out,Hp7.out,Hp7.out,Upd.refl⟩
    case rest =>
     obtain ⟨w9,rfl⟩:∃w9:World,w9=wc:=⟨_,rfl⟩;obtain ⟨Q,KR,kr,hQ,b9,hpL,hpR,u9⟩:=hcut;have s9:=u9.size;have hz9:=HB7.out.upd u9 (by omega);have HU9:Hid (Upd (fun k=>k=p∨k=w4.heap.size∨k=w6.heap.size) w1 w9):=(HU7.out.mono (fun _ _ h=>by omega)).trans u9 (fun _ _ h=>by omega)
     have HRF:Hid (aRuleF ys=⟨⟨#[114]⟩,L,Q,aCondsF n nv,nv,0⟩):=by
      show _=_;rw [HRF.out,hQ,Hk3.out];by_cases h3:0<k3
      ·rw [if_pos ⟨h0,h3⟩,if_pos h3]
      ·rw [if_neg (fun h=>h3 h.2),if_neg h3]
     have HpL:=h_ hpL;have HpR:=h_ hpR;have Hz9:=h_ hz9;clear C4 Hp7 Hb7 HR7 HU7 HB7 hpL hpR hz9 hQ HQR;obtain ⟨k5,Hk5⟩:=nm (n.tdiv 7 % 5);obtain ⟨C5L,HC5L⟩:=nm (aCond5 n nv k5);have Hb9:=h_ b9
     go_upto_if 49 with fail
     go_cut [] (fun wx=>∃(CA:Option Addr) (cs:List Cd) (cc:Nat),cs=C5L∧Blk wx w6.heap.size 41 #[.string ⟨#[114]⟩,.int .i64 L.v,.int .i64 L.op,.int .i64 L.imm,.int .i64 L.iv,.slice KL L.kids.length kl,.int .i64 Q.v,.int .i64 Q.op,.int .i64 Q.imm,.int .i64 Q.iv,.slice KR Q.kids.length kr,.slice CA cs.length cc,.int .i64 nv,.int .i64 0]∧CondsV wx (fun k=>w9.heap.size≤k) CA cs∧cs.length≤cc∧Upd (·=w6.heap.size) w9 wx)
     case first =>
      obtain ⟨d3,Hd3⟩:=nm (n.tdiv 3);have hd3:I64 d3:=by rw [←Hd3.out];exact tdiv_I64 hni (by omega)
      have hw3:wrap64 (n.tdiv 3)=d3:=by rw [Hd3.out];exact wrap64_of hd3
      obtain ⟨d5,Hd5⟩:=nm (n.tdiv 5);have hd5:I64 d5:=by rw [←Hd5.out];exact tdiv_I64 hni (by omega)
      have hw5:wrap64 (n.tdiv 5)=d5:=by rw [Hd5.out];exact wrap64_of hd5
      obtain ⟨d7,Hd7⟩:=nm (n.tdiv 7);have hd7:I64 d7:=by rw [←Hd7.out];exact tdiv_I64 hni (by omega)
      have hw7:wrap64 (n.tdiv 7)=d7:=by rw [Hd7.out];exact wrap64_of hd7
      rw [Hd7.out] at Hk5;have CW3:=h_ (fun v=>word_c v d3 7 hd3);have CW5:=h_ (fun v=>word_c v d5 7 hd5);have CP:=h_ (fun v=>pick_c d7 5 v (by omega) (by omega));obtain ⟨x3,Hx3⟩:=nm (wordF d3 7);obtain ⟨x5,Hx5⟩:=nm (wordF d5 7);rw [Hx3.out] at CW3;rw [Hx5.out] at CW5;rw [Hk5.out] at CP;have HC5:Hid (aCond5 n nv k5=C5L):=HC5L;have h5:0≤k5∧k5<5:=by rw [←Hk5.out];omega
      clear hd3 hd5 hd7 b9;go_wp2_with fail
      obtain ⟨v1,Hv1⟩:=nm (w9.alloc (.cells #[.int .i64 1,.int .i64 1,.int .i64 0,.int .i64 0] 102));have x1:Upd Non w9 v1:=by rw [←Hv1.out];exact Upd.refl.alloc _
      have d1:Blk v1 w9.heap.size 102 #[.int .i64 1,.int .i64 1,.int .i64 0,.int .i64 0]:=by rw [←Hv1.out];exact Blk.new _ _ _
      rw [Hv1.out];refine (CW3.out v1).mono ?_;rintro e v2 ⟨rfl,y2⟩;have d1:=d1.upd y2 (fun f=>f);have x2:=x1.then_non y2;go_wp2_with fail
      obtain ⟨v3,Hv3⟩:=nm (v2.alloc (.cells #[.int .i64 2,.int .i64 nv,.int .i64 0,.int .i64 x3] 102));have y3:Upd Non v2 v3:=by rw [←Hv3.out];exact Upd.refl.alloc _
      have d2:Blk v3 v2.heap.size 102 #[.int .i64 2,.int .i64 nv,.int .i64 0,.int .i64 x3]:=by rw [←Hv3.out];exact Blk.new _ _ _
      have d1:=d1.upd y3 (fun f=>f);have x3':=x2.then_non y3;rw [Hv3.out];refine (CW5.out v3).mono ?_;rintro e v4 ⟨rfl,y4⟩;have d1:=d1.upd y4 (fun f=>f);have d2:=d2.upd y4 (fun f=>f);have x4:=x3'.then_non y4;go_wp2_with fail
      obtain ⟨v5,Hv5⟩:=nm (v4.alloc (.cells #[.int .i64 3,.int .i64 1,.int .i64 0,.int .i64 x5] 102));have y5:Upd Non v4 v5:=by rw [←Hv5.out];exact Upd.refl.alloc _
      have d3':Blk v5 v4.heap.size 102 #[.int .i64 3,.int .i64 1,.int .i64 0,.int .i64 x5]:=by rw [←Hv5.out];exact Blk.new _ _ _
      have z5:v5.heap.size=v4.heap.size+1:=by rw [←Hv5.out];simp
      rw [Hv5.out];obtain ⟨v6,Hv6⟩:=nm (v5.alloc (.cells #[.int .i64 5,.int .i64 1,.int .i64 1,.int .i64 0] 102));have y6:Upd Non v5 v6:=by rw [←Hv6.out];exact Upd.refl.alloc _
      have d4:Blk v6 (v4.heap.size+1) 102 #[.int .i64 5,.int .i64 1,.int .i64 1,.int .i64 0]:=by rw [←Hv6.out,←z5];exact Blk.new _ _ _
      have z6:v6.heap.size=v4.heap.size+1+1:=by rw [←Hv6.out];simp [z5]
      rw [Hv6.out];obtain ⟨v7,Hv7⟩:=nm (v6.alloc (.cells #[.slice none 0 0,.slice (some ⟨w9.heap.size,0,none⟩) 1 1,.slice (some ⟨v2.heap.size,0,none⟩) 1 1,.slice (some ⟨v4.heap.size,0,none⟩) 1 1,.slice (some ⟨v4.heap.size+1,0,none⟩) 1 1] 39))
      have y7:Upd Non v6 v7:=by rw [←Hv7.out];exact Upd.refl.alloc _
      have dt:Blk v7 (v4.heap.size+1+1) 39 #[.slice none 0 0,.slice (some ⟨w9.heap.size,0,none⟩) 1 1,.slice (some ⟨v2.heap.size,0,none⟩) 1 1,.slice (some ⟨v4.heap.size,0,none⟩) 1 1,.slice (some ⟨v4.heap.size+1,0,none⟩) 1 1]:=by rw [←Hv7.out,←z6];exact Blk.new _ _ _
      rw [Hv7.out];have x7:=((x4.then_non y5).then_non y6).then_non y7;have e1:=((d1.upd y5 (fun f=>f)).upd y6 (fun f=>f)).upd y7 (fun f=>f);have e2:=((d2.upd y5 (fun f=>f)).upd y6 (fun f=>f)).upd y7 (fun f=>f);have e3:=(d3'.upd y6 (fun f=>f)).upd y7 (fun f=>f);have e4:=d4.upd y7 (fun f=>f);have q1:=x1.size;have q2:=y2.size;have q3:=y3.size;have q4:=y4.size;have b9:=Hb9.out.upd x7 (fun f=>f);clear d1 d2 d3' d4 Hv1 Hv3 Hv5 Hv6 Hv7 y2 y3 y4 y5 y6 y7 x1 x2 x3' x4 z5 z6;refine (CP.out v7).mono ?_;rintro e wx ⟨rfl,hwx⟩;subst hwx;have rr:=b9.cell 11;have rf:=b9.frozen;have D1:=h_ e1;have D2:=h_ e2;have D3:=h_ e3;have D4:=h_ e4;have B9:=h_ b9;have X7:=h_ x7;clear e1 e2 e3 e4 b9 x7;have hu:∀v,Upd (·=w6.heap.size) v7 (v7.setCell ⟨w6.heap.size,11,none⟩ v):=fun v=>updCell _ _ _ _
      have bs:=fun v=>B9.out.set_ 11 v
      have Hu:=h_ hu;have Bs:=h_ bs;clear hu bs;rcases (by omega:k5=0∨k5=1∨k5=2∨k5=3∨k5=4) with hk | hk | hk | hk | hk
      ·subst hk;have tc:=dt.cell 0;go_wp2_with fail
       go_meet
       case rel=>exact ⟨none,[],0,by rw [←HC5.out];unfold aCond5;rw [if_pos rfl],by simpa using Bs.out (.slice none 0 0),.nil,by simp,(X7.out.mono (fun _ _ f=>f.elim)).trans (Hu.out (.slice none 0 0)) (fun _ _ h=>h)⟩
      ·subst hk;have tc:=dt.cell 1;go_wp2_with fail
       go_meet
       case rel=>exact ⟨some ⟨w9.heap.size,0,none⟩,[⟨1,1,0,0⟩],1,by rw [←HC5.out];unfold aCond5;rw [if_neg (by omega),if_pos rfl],by simpa using Bs.out (.slice (some ⟨w9.heap.size,0,none⟩) 1 1),condsV_one ⟨1,1,0,0⟩ (D1.out.upd (Hu.out (.slice (some ⟨w9.heap.size,0,none⟩) 1 1)) (by omega)) (by omega),by simp,(X7.out.mono (fun _ _ f=>f.elim)).trans (Hu.out (.slice (some ⟨w9.heap.size,0,none⟩) 1 1)) (fun _ _ h=>h)⟩
      ·subst hk;have tc:=dt.cell 2;go_wp2_with fail
       go_meet
       case rel=>exact ⟨some ⟨v2.heap.size,0,none⟩,[⟨2,nv,0,x3⟩],1,by rw [←HC5.out];unfold aCond5;rw [if_neg (by omega),if_neg (by omega),if_pos rfl,Hd3.out,Hx3.out],by simpa using Bs.out (.slice (some ⟨v2.heap.size,0,none⟩) 1 1),condsV_one ⟨2,nv,0,x3⟩ (D2.out.upd (Hu.out (.slice (some ⟨v2.heap.size,0,none⟩) 1 1)) (by omega)) (by omega),by simp,(X7.out.mono (fun _ _ f=>f.elim)).trans (Hu.out (.slice (some ⟨v2.heap.size,0,none⟩) 1 1)) (fun _ _ h=>h)⟩
      ·subst hk;have tc:=dt.cell 3;go_wp2_with fail
       go_meet
       case rel=>exact ⟨some ⟨v4.heap.size,0,none⟩,[⟨3,1,0,x5⟩],1,by rw [←HC5.out];unfold aCond5;rw [if_neg (by omega),if_neg (by omega),if_neg (by omega),if_pos rfl,Hd5.out,Hx5.out],by simpa using Bs.out (.slice (some ⟨v4.heap.size,0,none⟩) 1 1),condsV_one ⟨3,1,0,x5⟩ (D3.out.upd (Hu.out (.slice (some ⟨v4.heap.size,0,none⟩) 1 1)) (by omega)) (by omega),by simp,(X7.out.mono (fun _ _ f=>f.elim)).trans (Hu.out (.slice (some ⟨v4.heap.size,0,none⟩) 1 1)) (fun _ _ h=>h)⟩
      ·subst hk;have tc:=dt.cell 4;go_wp2_with fail
       go_meet
       case rel=>exact ⟨some ⟨v4.heap.size+1,0,none⟩,[⟨5,1,1,0⟩],1,by rw [←HC5.out];unfold aCond5;rw [if_neg (by omega),if_neg (by omega),if_neg (by omega),if_neg (by omega)],by simpa using Bs.out (.slice (some ⟨v4.heap.size+1,0,none⟩) 1 1),condsV_one ⟨5,1,1,0⟩ (D4.out.upd (Hu.out (.slice (some ⟨v4.heap.size+1,0,none⟩) 1 1)) (by omega)) (by omega),by simp,(X7.out.mono (fun _ _ f=>f.elim)).trans (Hu.out (.slice (some ⟨v4.heap.size+1,0,none⟩) 1 1)) (fun _ _ h=>h)⟩
     case rest =>
      obtain ⟨wd,rfl⟩:∃wd:World,wd=wc:=⟨_,rfl⟩;obtain ⟨CA,cs,cc,hcs0,bz,hcz,hle,uz⟩:=hcut;have HCS:=h_ hcs0;clear hcs0;have sz:=uz.size;have hz:=Hz9.out.upd uz (by omega);have HUz:Hid (Upd (fun k=>k=p∨k=w4.heap.size∨k=w6.heap.size) w1 wd):=HU9.out.trans uz (fun _ _ h=>by omega);have HpL:=h_ (PtK.upd uz (fun k hk h=>by omega) _ _ _ HpL.out);have HpR:=h_ (PtK.upd uz (fun k hk h=>by omega) _ _ _ HpR.out);have Hcz:Hid (CondsV wd (fun k=>w.heap.size<k∧k≠p∧k≠w4.heap.size∧k≠w6.heap.size) CA cs):=hcz.mono (fun k hk h=>by omega);clear HU9 Hb9 b9 hcz uz Hz9;by_cases h1:1<nv
      ·have tn1:decide ((1:Int)<(nv:Int))=true:=dT_ (by omega);have CP:=h_ (pick_c n 5 wd (by omega) (by omega));go_wp2_with fail
       refine CP.out.mono ?_;rintro e wx ⟨rfl,hwx⟩;subst hwx;obtain ⟨j5,Hj5⟩:=nm (n % 5);rw [Hj5.out];clear CP;by_cases h5:j5=0
       ·have t5:decide (j5=0)=true:=dT_ h5;have hb:=h_ bz;have Hzd:=h_ hz;have r11:∀o,(wd.alloc o).cell? ⟨w6.heap.size,11,none⟩=some (.slice CA cs.length cc):=fun o=>(hb.out.alloc o).cell 11
        have rf:∀o,(wd.alloc o).frozen? ⟨w6.heap.size,11,none⟩=false:=fun o=>(hb.out.alloc o).frozen 11
        clear bz hz
        go_upto_region 13 with fail
        obtain ⟨bz,hcz,uz⟩:=aCond_one hb.out ⟨4,1,2,0⟩;simp only at bz hcz uz;obtain ⟨wz,Hwz⟩:=nm ((wd.alloc (.cells #[.int .i64 4,.int .i64 1,.int .i64 2,.int .i64 0] 102)).setCell ⟨w6.heap.size,11,none⟩ (.slice (some ⟨wd.heap.size,0,none⟩) 1 1))
        rw [Hwz.out] at bz hcz uz ⊢;have hz:=Hzd.out.upd uz (by omega)
        have HRr0:aRuleF ys=⟨⟨#[114]⟩,L,Q,[⟨4,1,2,0⟩],nv,0⟩:=by
         rw [HRF.out];unfold aCondsF;rw [if_pos ⟨h1,by rw [Hj5.out];exact h5⟩]
        obtain ⟨CA,cs,cc,hcs,bz,hcz,hle⟩:∃(CA:Option Addr) (cs:List Cd) (cc:Nat),cs=[⟨4,1,2,0⟩]∧Blk wz w6.heap.size 41 #[.string ⟨#[114]⟩,.int .i64 L.v,.int .i64 L.op,.int .i64 L.imm,.int .i64 L.iv,.slice KL L.kids.length kl,.int .i64 Q.v,.int .i64 Q.op,.int .i64 Q.imm,.int .i64 Q.iv,.slice KR Q.kids.length kr,.slice CA cs.length cc,.int .i64 nv,.int .i64 0]∧CondsV wz (fun k=>w.heap.size<k∧k≠p∧k≠w4.heap.size∧k≠w6.heap.size) CA cs∧cs.length≤cc:=⟨some ⟨wd.heap.size,0,none⟩,[⟨4,1,2,0⟩],1,rfl,bz,hcz.mono (fun k hk h=>by omega),by simp⟩
        rw [←hcs] at HRr0;have HRr:=h_ HRr0;have Hcz:=h_ hcz;have HpL:=h_ (PtK.upd uz (fun k hk h=>by omega) _ _ _ HpL.out);have HpR:=h_ (PtK.upd uz (fun k hk h=>by omega) _ _ _ HpR.out);have HUz:=h_ (HUz.out.trans uz (fun _ _ h=>by omega));clear HRr0 hcz hcs r11 rf;have r0:=bz.cell 0;have r1:=bz.cell 1;have r2:=bz.cell 2;have r3:=bz.cell 3;have r4:=bz.cell 4;have r5:=bz.cell 5;have r6:=bz.cell 6;have r7:=bz.cell 7;have r8:=bz.cell 8;have r9:=bz.cell 9;have r10:=bz.cell 10;have r11:=bz.cell 11;have r12:=bz.cell 12;have r13:=bz.cell 13;have z0:=hz.cell 0;have z1:=hz.cell 1;have z2:=hz.cell 2;have z3:=hz.cell 3;have z4:=hz.cell 4;have z5:=hz.cell 5;have z6:=hz.cell 6;have z7:=hz.cell 7;have z8:=hz.cell 8;have z9:=hz.cell 9;have z10:=hz.cell 10;have z11:=hz.cell 11;have z12:=hz.cell 12;have z13:=hz.cell 13;have rf:=bz.frozen;have zf:=hz.frozen;have HZ:=h_ hz;clear hz bz;go_wp2_with fail
        rw [set14_eq];refine bodyPost_ret (results_cell_row rfl _ _ w.heap.size 41 _ (0,0) _ rfl (set14_blk HZ.out _ _ _ _ _ _ _ _ _ _ _ _ _ _) Tryz.underlying41 rfl (by kernel_rfl)) rfl ?_
        rw [Hys.out,HRr.out];have uE:=set14_upd wz w.heap.size (.string ⟨#[114]⟩) (.int .i64 L.v) (.int .i64 L.op) (.int .i64 L.imm) (.int .i64 L.iv) (.slice KL L.kids.length kl) (.int .i64 Q.v) (.int .i64 Q.op) (.int .i64 Q.imm) (.int .i64 Q.iv) (.slice KR Q.kids.length kr) (.slice CA cs.length cc) (.int .i64 nv) (.int .i64 0)
        refine ⟨⟨KL,kl,KR,kr,CA,cc⟩,rfl,⟨PtK.mono (fun k hk h=>by omega) _ _ _ (PtK.upd uE (fun k hk h=>by omega) _ _ _ HpL.out),PtK.mono (fun k hk h=>by omega) _ _ _ (PtK.upd uE (fun k hk h=>by omega) _ _ _ HpR.out),(Hcz.out.upd uE (fun k hk h=>by omega)).mono (fun k hk h=>by omega),hle⟩,?_⟩
        exact (HUw1.out.trans HUz.out (fun k hk h=>by omega)).trans uE (fun k hk h=>by omega)
       ·have t5:decide (j5=0)=false:=dF_ h5;obtain ⟨wz,Hwz⟩:∃wz:World,Hid (wd=wz):=⟨_,rfl⟩;rw [Hwz.out] at bz hz HUz HpL HpR Hcz ⊢
        have HRr:Hid (aRuleF ys=⟨⟨#[114]⟩,L,Q,cs,nv,0⟩):=by
         show _=_;rw [HRF.out,HCS.out,←HC5L.out];unfold aCondsF;rw [if_neg (fun h=>h5 (by rw [←Hj5.out];exact h.2)),if_pos h0,Hk5.out]
        go_upto_region 13 with fail
        have r0:=bz.cell 0;have r1:=bz.cell 1;have r2:=bz.cell 2;have r3:=bz.cell 3;have r4:=bz.cell 4;have r5:=bz.cell 5;have r6:=bz.cell 6;have r7:=bz.cell 7;have r8:=bz.cell 8;have r9:=bz.cell 9;have r10:=bz.cell 10;have r11:=bz.cell 11;have r12:=bz.cell 12;have r13:=bz.cell 13;have z0:=hz.cell 0;have z1:=hz.cell 1;have z2:=hz.cell 2;have z3:=hz.cell 3;have z4:=hz.cell 4;have z5:=hz.cell 5;have z6:=hz.cell 6;have z7:=hz.cell 7;have z8:=hz.cell 8;have z9:=hz.cell 9;have z10:=hz.cell 10;have z11:=hz.cell 11;have z12:=hz.cell 12;have z13:=hz.cell 13;have rf:=bz.frozen;have zf:=hz.frozen;have HZ:=h_ hz;clear hz bz;go_wp2_with fail
        rw [set14_eq];refine bodyPost_ret (results_cell_row rfl _ _ w.heap.size 41 _ (0,0) _ rfl (set14_blk HZ.out _ _ _ _ _ _ _ _ _ _ _ _ _ _) Tryz.underlying41 rfl (by kernel_rfl)) rfl ?_
        rw [Hys.out,HRr.out];have uE:=set14_upd wz w.heap.size (.string ⟨#[114]⟩) (.int .i64 L.v) (.int .i64 L.op) (.int .i64 L.imm) (.int .i64 L.iv) (.slice KL L.kids.length kl) (.int .i64 Q.v) (.int .i64 Q.op) (.int .i64 Q.imm) (.int .i64 Q.iv) (.slice KR Q.kids.length kr) (.slice CA cs.length cc) (.int .i64 nv) (.int .i64 0)
        refine ⟨⟨KL,kl,KR,kr,CA,cc⟩,rfl,⟨PtK.mono (fun k hk h=>by omega) _ _ _ (PtK.upd uE (fun k hk h=>by omega) _ _ _ HpL.out),PtK.mono (fun k hk h=>by omega) _ _ _ (PtK.upd uE (fun k hk h=>by omega) _ _ _ HpR.out),(Hcz.out.upd uE (fun k hk h=>by omega)).mono (fun k hk h=>by omega),hle⟩,?_⟩
        exact (HUw1.out.trans HUz.out (fun k hk h=>by omega)).trans uE (fun k hk h=>by omega)
      ·have tn1:decide ((1:Int)<(nv:Int))=false:=dF_ (by omega);obtain ⟨wz,Hwz⟩:∃wz:World,Hid (wd=wz):=⟨_,rfl⟩;rw [Hwz.out] at bz hz HUz HpL HpR Hcz ⊢
       have HRr:Hid (aRuleF ys=⟨⟨#[114]⟩,L,Q,cs,nv,0⟩):=by
        show _=_;rw [HRF.out,HCS.out,←HC5L.out];unfold aCondsF;rw [if_neg (fun h=>h1 h.1),if_pos h0,Hk5.out]
       go_upto_region 13 with fail
       have r0:=bz.cell 0;have r1:=bz.cell 1;have r2:=bz.cell 2;have r3:=bz.cell 3;have r4:=bz.cell 4;have r5:=bz.cell 5;have r6:=bz.cell 6;have r7:=bz.cell 7;have r8:=bz.cell 8;have r9:=bz.cell 9;have r10:=bz.cell 10;have r11:=bz.cell 11;have r12:=bz.cell 12;have r13:=bz.cell 13;have z0:=hz.cell 0;have z1:=hz.cell 1;have z2:=hz.cell 2;have z3:=hz.cell 3;have z4:=hz.cell 4;have z5:=hz.cell 5;have z6:=hz.cell 6;have z7:=hz.cell 7;have z8:=hz.cell 8;have z9:=hz.cell 9;have z10:=hz.cell 10;have z11:=hz.cell 11;have z12:=hz.cell 12;have z13:=hz.cell 13;have rf:=bz.frozen;have zf:=hz.frozen;have HZ:=h_ hz;clear hz bz;go_wp2_with fail
       rw [set14_eq];refine bodyPost_ret (results_cell_row rfl _ _ w.heap.size 41 _ (0,0) _ rfl (set14_blk HZ.out _ _ _ _ _ _ _ _ _ _ _ _ _ _) Tryz.underlying41 rfl (by kernel_rfl)) rfl ?_
       rw [Hys.out,HRr.out];have uE:=set14_upd wz w.heap.size (.string ⟨#[114]⟩) (.int .i64 L.v) (.int .i64 L.op) (.int .i64 L.imm) (.int .i64 L.iv) (.slice KL L.kids.length kl) (.int .i64 Q.v) (.int .i64 Q.op) (.int .i64 Q.imm) (.int .i64 Q.iv) (.slice KR Q.kids.length kr) (.slice CA cs.length cc) (.int .i64 nv) (.int .i64 0)
       refine ⟨⟨KL,kl,KR,kr,CA,cc⟩,rfl,⟨PtK.mono (fun k hk h=>by omega) _ _ _ (PtK.upd uE (fun k hk h=>by omega) _ _ _ HpL.out),PtK.mono (fun k hk h=>by omega) _ _ _ (PtK.upd uE (fun k hk h=>by omega) _ _ _ HpR.out),(Hcz.out.upd uE (fun k hk h=>by omega)).mono (fun k hk h=>by omega),hle⟩,?_⟩
       exact (HUw1.out.trans HUz.out (fun k hk h=>by omega)).trans uE (fun k hk h=>by omega)
end Go.Proofs.YtifhejahbbnkiaaGreat
