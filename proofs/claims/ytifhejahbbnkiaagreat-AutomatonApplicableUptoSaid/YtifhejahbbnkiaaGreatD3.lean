/-
  Lemmas and walks that the claim rests on, part 3 (packed by a program).
-/
import Derived.Test.YtifhejahbbnkiaaGreatD1
import Derived.Test.YtifhejahbbnkiaaGreatD2
import Derived.Laws.DeepStrings4
namespace Go.Proofs.YtifhejahbbnkiaaGreat
open Go.RowKit
theorem tdiv_i64 {x k:Int} (h:I64 x) (hk:1≤k):I64 (x.tdiv k):=by
 unfold I64 at h ⊢;by_cases h0:0≤x
 ·have h1:=Int.tdiv_nonneg h0 (show 0≤k by omega);have h2:=Int.tdiv_le_self k h0;omega
 ·have e:x.tdiv k = -((-x).tdiv k):=by rw [Int.neg_tdiv,Int.neg_neg]
  have h1:=Int.tdiv_nonneg (show 0 ≤ -x by omega) (show 0≤k by omega);have h2:=Int.tdiv_le_self k (show 0 ≤ -x by omega);omega
theorem m2_facts (m:Nat):∃r:Nat,(m:Int).tmod 2=(r:Int)∧(m:Int) % 2=(r:Int)∧r<2∧(r:Int)<2:=⟨m % 2,by rw [Int.tmod_eq_emod_of_nonneg (by omega)];omega,by omega,by omega,by omega⟩
theorem m5_facts (m:Nat):∃r:Nat,(m:Int).tmod 5=(r:Int)∧(m:Int) % 5=(r:Int)∧r<5∧(r:Int)<5:=⟨m % 5,by rw [Int.tmod_eq_emod_of_nonneg (by omega)];omega,by omega,by omega,by omega⟩
set_option maxRecDepth 100000 in
set_option maxHeartbeats 4000000 in
theorem rdPattern_c (n:Nat) (h1:1≤n) (h2:n≤1000) (st:Bool):∀(f:Nat),f≤3→∀(w:World) (F:Nat→Prop) (p:Nat) (xs:List Int) (s:Int),s=1∨s=2→(∀k,F k→k≠p)→Rd w F p xs →
  Calls Tryz.prog 59 #[.pointer (some ⟨p,0,none⟩),.int .i64 s,.int .i64 (3 - f:Nat),.int .i64 n,.bool st] w fun e w'=>∃(KA:Option Addr) (kc:Nat),e=.returned (pv (patF n st f s xs).1 KA kc)∧PtK w' (fun k=>w.heap.size≤k) (patF n st f s xs).1 KA kc∧Rd w' F p (patF n st f s xs).2∧Upd (·=p) w w':=by
 intro f
 induction f with
 | zero =>
  intro _ w F p xs s hs hF hr;have hlt:=hr.lt;have HX:=h_ hr.i64;have hFF:∀k,(F k∧k<w.heap.size)→k≠p:=fun k h=>hF k h.1
  have hrF:=hr.mono (G:=fun k=>F k∧k<w.heap.size) (fun k hk h=>⟨h,hk⟩);obtain ⟨W,HW⟩:=nm (w.alloc (.cells #[.int .i64 0,.int .i64 0,.int .i64 0,.int .i64 0,.slice none 0 0] 38));have hU:Upd Non w W:=by rw [←HW.out];exact Upd.refl.alloc _
  have hb:Blk W w.heap.size 38 #[.int .i64 0,.int .i64 0,.int .i64 0,.int .i64 0,.slice none 0 0]:=by rw [←HW.out];exact Blk.new _ _ _
  have hsW:W.heap.size=w.heap.size+1:=by rw [←HW.out];simp
  have e0:=HW.out;have C1:=h_ (rdNext_c hFF (hrF.upd hU (fun _ _ _ f=>f) (fun f=>f)));obtain ⟨Q,HQ0⟩:=nm (patF n st 0 s xs).1;obtain ⟨Y,HY0⟩:=nm (patF n st 0 s xs).2;rw [HQ0.out,HY0.out];have HQY:Hid ((Q,Y)=(leafF s true n st (xs.headD 0),xs.tail)):=by show _=_;rw [←HQ0.out,←HY0.out];rfl
  clear hr hrF HQ0 HY0;go_enter Tryz.func59,Tryz.ntmps59;go_wp2_with fail
  refine C1.out.mono ?_;rintro e w2 ⟨rfl,hr2,hu2⟩;obtain ⟨x,Hx⟩:=nm (xs.headD 0);rw [Hx.out] at HX HQY ⊢;obtain ⟨z,Hz⟩:=nm (wrap64 (x.tdiv 12));have ez:=Hz.out;have C2:=h_ (pick_c x 12 w2 (by omega) (by omega));have C3:=h_ (pick_c z 1000 w2 (by omega) (by omega))
  have HM0:Hid (z=x.tdiv 12):=by
   show _=_;rw [←ez];exact wrap64_of (tdiv_i64 HX.out (by omega))
  obtain ⟨k,Hk⟩:=nm (x % 12);have k0:0≤k∧k<12:=by rw [←Hk.out];omega
  obtain ⟨m,hm⟩:∃m:Nat,z % 1000=(m:Int):=Int.eq_ofNat_of_zero_le (by omega);have hm1:m<1000:=by omega
  have HM:Hid (x.tdiv 12 % 1000=(m:Int)):=by show _=_;rw [←HM0.out];exact hm
  rw [Hk.out] at C2
  try rw [Hk.out] at HQY
  rw [hm] at C3;clear hm;go_wp2_with fail
  refine C2.out.mono ?_;rintro e w3 ⟨rfl,rfl⟩;go_wp2_with fail
  refine C3.out.mono ?_;rintro e w3 ⟨rfl,rfl⟩;have hb2:=hb.upd hu2 (by omega);have HU2:Upd (·=p) w w2:=(hU.mono (T:=(·=p)) (fun _ _ f=>f.elim)).trans hu2 (fun _ _ h=>h);have hs2:=hu2.size;have HS2:=h_ hs2;have HSW:=h_ hsW;have HK0:=h_ k0;clear hb hU C1 C2 C3 hs2 hsW k0;have HQ:Hid (Q=leafF s true n st x):=congrArg Prod.fst HQY.out;have HY:Hid (Y=xs.tail):=congrArg Prod.snd HQY.out;by_cases hs2:s=2
  ·subst hs2;have c0:=hb2.cell 0;have c1:=hb2.cell 1;have c2:=hb2.cell 2;have c3:=hb2.cell 3;have c4:=hb2.cell 4;have f0:=hb2.frozen;have HL:Hid (Q=.mk 1 0 0 0 []):=HQ.out;go_wp2_with fail
   rw [set5_eq];refine bodyPost_ret (results_cell_row rfl _ _ w.heap.size 38 _ (0,0) _ rfl (set5_blk hb2 _ _ _ _ _) Tryz.underlying38 rfl (by kernel_rfl)) rfl ?_;have hsW:=HSW.out;have hs2:=HS2.out;refine ⟨none,0,by rw [HL.out];rfl,by rw [HL.out];exact PtK.leaf,?_,HU2.trans (set5_upd _ _ _ _ _ _ _) (fun i hi e=>by omega)⟩;rw [HY.out];exact (hr2.upd (set5_upd _ _ _ _ _ _ _) (fun k hk q e=>by have:=q.2;omega) (by omega)).mono (fun k _ h=>h.1)
  ·have ts:(s==2)=false:=by simpa using hs2
   by_cases hk0:k=0
   ·subst hk0;have hdt:true=true:=rfl;have CW:=h_ (word_c w2 m x (by unfold I64;omega))
    have HL:Hid (Q=.mk 0 1 (wordF m x) 0 []):=by
     show _=_;rw [HQ.out];unfold leafF;rw [if_neg hs2,if_pos ⟨Hk.out,hdt⟩,HM.out]
    obtain ⟨wd,Hwd⟩:=nm (wordF m x);rw [Hwd.out] at HL CW;have HSS:=h_ hs2;clear hs2;go_wp2_with fail
    refine CW.out.mono ?_;rintro e w3 ⟨rfl,hu3⟩;have hb2:=hb2.upd hu3 (fun f=>f);have hr2:=hr2.upd hu3 (fun _ _ _ f=>f) (fun f=>f);have HU2:=HU2.then_non hu3;have c0:=hb2.cell 0;have c1:=hb2.cell 1;have c2:=hb2.cell 2;have c3:=hb2.cell 3;have c4:=hb2.cell 4;have f0:=hb2.frozen;go_wp2_with fail
    rw [set5_eq];refine bodyPost_ret (results_cell_row rfl _ _ w.heap.size 38 _ (0,0) _ rfl (set5_blk hb2 _ _ _ _ _) Tryz.underlying38 rfl (by kernel_rfl)) rfl ?_;have hsW:=HSW.out;have hs2:=HS2.out;refine ⟨none,0,by rw [HL.out];rfl,by rw [HL.out];exact PtK.leaf,?_,HU2.trans (set5_upd _ _ _ _ _ _ _) (fun i hi e=>by omega)⟩;rw [HY.out];exact (hr2.upd (set5_upd _ _ _ _ _ _ _) (fun k hk q e=>by have:=q.2;omega) (by omega)).mono (fun k _ h=>h.1)
   ·have tk:(k==0)=false:=by simpa using hk0
    have hkd:¬(k=0∧true=true):=fun q=>hk0 q.1
    clear hk0;have c0:=hb2.cell 0;have c1:=hb2.cell 1;have c2:=hb2.cell 2;have c3:=hb2.cell 3;have c4:=hb2.cell 4;have f0:=hb2.frozen
    cases st with
    | true =>
     by_cases hg:(1:Int)<(n:Int) - 1
     ·have hmn0:0≤(m:Int) % ((n:Int) - 1):=Int.emod_nonneg _ (by omega);have hmn:(m:Int) % ((n:Int) - 1)<(n:Int) - 1:=Int.emod_lt_of_pos _ (by omega);have hv:wrap64 (2+(m:Int) % ((n:Int) - 1))=2+(m:Int) % ((n:Int) - 1):=by unfold wrap64;omega
      have HL:Hid (Q=.mk (2+(m:Int) % ((n:Int) - 1)) 0 0 0 []):=by
       show _=_;rw [HQ.out];unfold leafF;rw [if_neg hs2,if_neg (by rw [Hk.out];exact hkd),if_pos rfl,HM.out,if_neg (by omega)]
      have HKD:=h_ hkd;have HSS:=h_ hs2;clear hkd hs2;go_wp2_with fail
      rw [set5_eq];refine bodyPost_ret (results_cell_row rfl _ _ w.heap.size 38 _ (0,0) _ rfl (set5_blk hb2 _ _ _ _ _) Tryz.underlying38 rfl (by kernel_rfl)) rfl ?_;have hsW:=HSW.out;have hs2:=HS2.out;refine ⟨none,0,by rw [HL.out];rfl,by rw [HL.out];exact PtK.leaf,?_,HU2.trans (set5_upd _ _ _ _ _ _ _) (fun i hi e=>by omega)⟩;rw [HY.out];exact (hr2.upd (set5_upd _ _ _ _ _ _ _) (fun k hk q e=>by have:=q.2;omega) (by omega)).mono (fun k _ h=>h.1)
     ·have hg2:(n:Int) - 1≤1:=by omega
      have hv:wrap64 2=2:=wrap64_of (by unfold I64;omega)
      have HL:Hid (Q=.mk 2 0 0 0 []):=by
       show _=_;rw [HQ.out];unfold leafF;rw [if_neg hs2,if_neg (by rw [Hk.out];exact hkd),if_pos rfl,HM.out]
       split
       ·rw [Int.emod_one];rfl
       ·rw [show (n:Int) - 1=1 by omega,Int.emod_one];rfl
      have HKD:=h_ hkd;have HSS:=h_ hs2;clear hkd hs2 hg;go_wp2_with fail
      rw [set5_eq];refine bodyPost_ret (results_cell_row rfl _ _ w.heap.size 38 _ (0,0) _ rfl (set5_blk hb2 _ _ _ _ _) Tryz.underlying38 rfl (by kernel_rfl)) rfl ?_;have hsW:=HSW.out;have hs2:=HS2.out;refine ⟨none,0,by rw [HL.out];rfl,by rw [HL.out];exact PtK.leaf,?_,HU2.trans (set5_upd _ _ _ _ _ _ _) (fun i hi e=>by omega)⟩;rw [HY.out];exact (hr2.upd (set5_upd _ _ _ _ _ _ _) (fun k hk q e=>by have:=q.2;omega) (by omega)).mono (fun k _ h=>h.1)
    | false =>
     have hmn0:0≤(m:Int) % (n:Int):=Int.emod_nonneg _ (by omega);have hmn:(m:Int) % (n:Int)<n:=Int.emod_lt_of_pos _ (by omega);have hv:wrap64 (1+(m:Int) % (n:Int))=1+(m:Int) % (n:Int):=by unfold wrap64;omega
     have HL:Hid (Q=.mk (1+(m:Int) % (n:Int)) 0 0 0 []):=by
      show _=_;rw [HQ.out];unfold leafF;rw [if_neg hs2,if_neg (by rw [Hk.out];exact hkd),if_neg (by decide),HM.out]
     have HKD:=h_ hkd;have HSS:=h_ hs2;clear hkd hs2;go_wp2_with fail
     rw [set5_eq];refine bodyPost_ret (results_cell_row rfl _ _ w.heap.size 38 _ (0,0) _ rfl (set5_blk hb2 _ _ _ _ _) Tryz.underlying38 rfl (by kernel_rfl)) rfl ?_;have hsW:=HSW.out;have hs2:=HS2.out;refine ⟨none,0,by rw [HL.out];rfl,by rw [HL.out];exact PtK.leaf,?_,HU2.trans (set5_upd _ _ _ _ _ _ _) (fun i hi e=>by omega)⟩;rw [HY.out];exact (hr2.upd (set5_upd _ _ _ _ _ _ _) (fun k hk q e=>by have:=q.2;omega) (by omega)).mono (fun k _ h=>h.1)
 | succ f ih =>
  intro hf3 w F p xs s hs hF hr;have HI:=h_ (ih (by omega));have hlt:=hr.lt;have HX:=h_ hr.i64;have hFF:∀k,(F k∧k<w.heap.size)→k≠p:=fun k h=>hF k h.1
  have hrF:=hr.mono (G:=fun k=>F k∧k<w.heap.size) (fun k hk h=>⟨h,hk⟩);obtain ⟨W,HW⟩:=nm (w.alloc (.cells #[.int .i64 0,.int .i64 0,.int .i64 0,.int .i64 0,.slice none 0 0] 38));have hU:Upd Non w W:=by rw [←HW.out];exact Upd.refl.alloc _
  have hb:Blk W w.heap.size 38 #[.int .i64 0,.int .i64 0,.int .i64 0,.int .i64 0,.slice none 0 0]:=by rw [←HW.out];exact Blk.new _ _ _
  have hsW:W.heap.size=w.heap.size+1:=by rw [←HW.out];simp
  have e0:=HW.out;have C1:=h_ (rdNext_c hFF (hrF.upd hU (fun _ _ _ f=>f) (fun f=>f)));obtain ⟨Q,HQ0⟩:=nm (patF n st (f+1) s xs).1;obtain ⟨Y,HY0⟩:=nm (patF n st (f+1) s xs).2;rw [HQ0.out,HY0.out];have HQY:Hid ((Q,Y)=patF n st (f+1) s xs):=by show _=_;rw [←HQ0.out,←HY0.out]
  obtain ⟨G,HG⟩:=nm (patF n st f);unfold patF at HQY;rw [HG.out] at HQY HI;obtain ⟨dp,Hdp⟩:=nm (3 - (f+1));have hdp:dp+1=3 - f:=by rw [←Hdp.out];omega
  have hd2:dp≤2:=by omega
  have HF2:Hid (f≤2):=by show f≤2;omega
  have t0:decide ((2:Int)<(dp:Int))=false:=dF_ (by omega);have HDP:Hid (0<dp↔f<2):=by show _↔_;omega
  rw [←hdp] at HI;rw [Hdp.out];clear hr hrF HQ0 HY0 ih hdp hf3;go_enter Tryz.func59,Tryz.ntmps59;go_wp2_with fail
  refine C1.out.mono ?_;rintro e w2 ⟨rfl,hr2,hu2⟩;obtain ⟨x,Hx⟩:=nm (xs.headD 0);rw [Hx.out] at HX HQY ⊢;obtain ⟨z,Hz⟩:=nm (wrap64 (x.tdiv 12));have ez:=Hz.out;have C2:=h_ (pick_c x 12 w2 (by omega) (by omega));have C3:=h_ (pick_c z 1000 w2 (by omega) (by omega))
  have HM0:Hid (z=x.tdiv 12):=by
   show _=_;rw [←ez];exact wrap64_of (tdiv_i64 HX.out (by omega))
  obtain ⟨k,Hk⟩:=nm (x % 12);have k0:0≤k∧k<12:=by rw [←Hk.out];omega
  obtain ⟨m,hm⟩:∃m:Nat,z % 1000=(m:Int):=Int.eq_ofNat_of_zero_le (by omega);have hm1:m<1000:=by omega
  have HM:Hid (x.tdiv 12 % 1000=(m:Int)):=by show _=_;rw [←HM0.out];exact hm
  rw [Hk.out] at C2
  try rw [Hk.out] at HQY
  rw [hm] at C3;clear hm;go_wp2_with fail
  refine C2.out.mono ?_;rintro e w3 ⟨rfl,rfl⟩;go_wp2_with fail
  refine C3.out.mono ?_;rintro e w3 ⟨rfl,rfl⟩;have hb2:=hb.upd hu2 (by omega);have HU2:Upd (·=p) w w2:=(hU.mono (T:=(·=p)) (fun _ _ f=>f.elim)).trans hu2 (fun _ _ h=>h);have hs2:=hu2.size;have HS2:=h_ hs2;have HSW:=h_ hsW;have HK0:=h_ k0;clear hb hU C1 C2 C3 hs2 hsW k0;by_cases hk3:k<3
  ·have tk3:decide (k<3)=true:=dT_ hk3;rw [if_pos hk3] at HQY;have HQ:Hid (Q=leafF s (decide (f<2)) n st x):=congrArg Prod.fst HQY.out;have HY:Hid (Y=xs.tail):=congrArg Prod.snd HQY.out;clear HQY hk3;by_cases hs2:s=2
   ·subst hs2;have c0:=hb2.cell 0;have c1:=hb2.cell 1;have c2:=hb2.cell 2;have c3:=hb2.cell 3;have c4:=hb2.cell 4;have f0:=hb2.frozen;have HL:Hid (Q=.mk 1 0 0 0 []):=HQ.out;go_wp2_with fail
    rw [set5_eq];refine bodyPost_ret (results_cell_row rfl _ _ w.heap.size 38 _ (0,0) _ rfl (set5_blk hb2 _ _ _ _ _) Tryz.underlying38 rfl (by kernel_rfl)) rfl ?_;have hsW:=HSW.out;have hs2:=HS2.out;refine ⟨none,0,by rw [HL.out];rfl,by rw [HL.out];exact PtK.leaf,?_,HU2.trans (set5_upd _ _ _ _ _ _ _) (fun i hi e=>by omega)⟩;rw [HY.out];exact (hr2.upd (set5_upd _ _ _ _ _ _ _) (fun k hk q e=>by have:=q.2;omega) (by omega)).mono (fun k _ h=>h.1)
   ·have ts:(s==2)=false:=by simpa using hs2
    by_cases hk0:k=0
    ·subst hk0;by_cases hf2:f<2
     ·have hdt:decide (f<2)=true:=dT_ hf2;have td:decide (0<dp)=true:=dT_ (HDP.out.2 hf2);clear hf2;have CW:=h_ (word_c w2 m x (by unfold I64;omega))
      have HL:Hid (Q=.mk 0 1 (wordF m x) 0 []):=by
       show _=_;rw [HQ.out];unfold leafF;rw [if_neg hs2,if_pos ⟨Hk.out,hdt⟩,HM.out]
      obtain ⟨wd,Hwd⟩:=nm (wordF m x);rw [Hwd.out] at HL CW;have HSS:=h_ hs2;clear hs2;go_wp2_with fail
      refine CW.out.mono ?_;rintro e w3 ⟨rfl,hu3⟩;have hb2:=hb2.upd hu3 (fun f=>f);have hr2:=hr2.upd hu3 (fun _ _ _ f=>f) (fun f=>f);have HU2:=HU2.then_non hu3;have c0:=hb2.cell 0;have c1:=hb2.cell 1;have c2:=hb2.cell 2;have c3:=hb2.cell 3;have c4:=hb2.cell 4;have f0:=hb2.frozen;go_wp2_with fail
      rw [set5_eq];refine bodyPost_ret (results_cell_row rfl _ _ w.heap.size 38 _ (0,0) _ rfl (set5_blk hb2 _ _ _ _ _) Tryz.underlying38 rfl (by kernel_rfl)) rfl ?_;have hsW:=HSW.out;have hs2:=HS2.out;refine ⟨none,0,by rw [HL.out];rfl,by rw [HL.out];exact PtK.leaf,?_,HU2.trans (set5_upd _ _ _ _ _ _ _) (fun i hi e=>by omega)⟩;rw [HY.out];exact (hr2.upd (set5_upd _ _ _ _ _ _ _) (fun k hk q e=>by have:=q.2;omega) (by omega)).mono (fun k _ h=>h.1)
     ·have td:decide (0<dp)=false:=dF_ (fun q=>hf2 (HDP.out.1 q));have hkd:¬((0:Int)=0∧decide (f<2)=true):=fun q=>hf2 (of_decide_eq_true q.2)
      clear hf2;have c0:=hb2.cell 0;have c1:=hb2.cell 1;have c2:=hb2.cell 2;have c3:=hb2.cell 3;have c4:=hb2.cell 4;have f0:=hb2.frozen
      cases st with
      | true =>
       by_cases hg:(1:Int)<(n:Int) - 1
       ·have hmn0:0≤(m:Int) % ((n:Int) - 1):=Int.emod_nonneg _ (by omega);have hmn:(m:Int) % ((n:Int) - 1)<(n:Int) - 1:=Int.emod_lt_of_pos _ (by omega);have hv:wrap64 (2+(m:Int) % ((n:Int) - 1))=2+(m:Int) % ((n:Int) - 1):=by unfold wrap64;omega
        have HL:Hid (Q=.mk (2+(m:Int) % ((n:Int) - 1)) 0 0 0 []):=by
         show _=_;rw [HQ.out];unfold leafF;rw [if_neg hs2,if_neg (by rw [Hk.out];exact hkd),if_pos rfl,HM.out,if_neg (by omega)]
        have HKD:=h_ hkd;have HSS:=h_ hs2;clear hkd hs2;go_wp2_with fail
        rw [set5_eq];refine bodyPost_ret (results_cell_row rfl _ _ w.heap.size 38 _ (0,0) _ rfl (set5_blk hb2 _ _ _ _ _) Tryz.underlying38 rfl (by kernel_rfl)) rfl ?_;have hsW:=HSW.out;have hs2:=HS2.out;refine ⟨none,0,by rw [HL.out];rfl,by rw [HL.out];exact PtK.leaf,?_,HU2.trans (set5_upd _ _ _ _ _ _ _) (fun i hi e=>by omega)⟩;rw [HY.out];exact (hr2.upd (set5_upd _ _ _ _ _ _ _) (fun k hk q e=>by have:=q.2;omega) (by omega)).mono (fun k _ h=>h.1)
       ·have hg2:(n:Int) - 1≤1:=by omega
        have hv:wrap64 2=2:=wrap64_of (by unfold I64;omega)
        have HL:Hid (Q=.mk 2 0 0 0 []):=by
         show _=_;rw [HQ.out];unfold leafF;rw [if_neg hs2,if_neg (by rw [Hk.out];exact hkd),if_pos rfl,HM.out]
         split
         ·rw [Int.emod_one];rfl
         ·rw [show (n:Int) - 1=1 by omega,Int.emod_one];rfl
        have HKD:=h_ hkd;have HSS:=h_ hs2;clear hkd hs2 hg;go_wp2_with fail
        rw [set5_eq];refine bodyPost_ret (results_cell_row rfl _ _ w.heap.size 38 _ (0,0) _ rfl (set5_blk hb2 _ _ _ _ _) Tryz.underlying38 rfl (by kernel_rfl)) rfl ?_;have hsW:=HSW.out;have hs2:=HS2.out;refine ⟨none,0,by rw [HL.out];rfl,by rw [HL.out];exact PtK.leaf,?_,HU2.trans (set5_upd _ _ _ _ _ _ _) (fun i hi e=>by omega)⟩;rw [HY.out];exact (hr2.upd (set5_upd _ _ _ _ _ _ _) (fun k hk q e=>by have:=q.2;omega) (by omega)).mono (fun k _ h=>h.1)
      | false =>
       have hmn0:0≤(m:Int) % (n:Int):=Int.emod_nonneg _ (by omega);have hmn:(m:Int) % (n:Int)<n:=Int.emod_lt_of_pos _ (by omega);have hv:wrap64 (1+(m:Int) % (n:Int))=1+(m:Int) % (n:Int):=by unfold wrap64;omega
       have HL:Hid (Q=.mk (1+(m:Int) % (n:Int)) 0 0 0 []):=by
        show _=_;rw [HQ.out];unfold leafF;rw [if_neg hs2,if_neg (by rw [Hk.out];exact hkd),if_neg (by decide),HM.out]
       have HKD:=h_ hkd;have HSS:=h_ hs2;clear hkd hs2;go_wp2_with fail
       rw [set5_eq];refine bodyPost_ret (results_cell_row rfl _ _ w.heap.size 38 _ (0,0) _ rfl (set5_blk hb2 _ _ _ _ _) Tryz.underlying38 rfl (by kernel_rfl)) rfl ?_;have hsW:=HSW.out;have hs2:=HS2.out;refine ⟨none,0,by rw [HL.out];rfl,by rw [HL.out];exact PtK.leaf,?_,HU2.trans (set5_upd _ _ _ _ _ _ _) (fun i hi e=>by omega)⟩;rw [HY.out];exact (hr2.upd (set5_upd _ _ _ _ _ _ _) (fun k hk q e=>by have:=q.2;omega) (by omega)).mono (fun k _ h=>h.1)
    ·have tk:(k==0)=false:=by simpa using hk0
     have hkd:¬(k=0∧decide (f<2)=true):=fun q=>hk0 q.1
     clear hk0;have c0:=hb2.cell 0;have c1:=hb2.cell 1;have c2:=hb2.cell 2;have c3:=hb2.cell 3;have c4:=hb2.cell 4;have f0:=hb2.frozen
     cases st with
     | true =>
      by_cases hg:(1:Int)<(n:Int) - 1
      ·have hmn0:0≤(m:Int) % ((n:Int) - 1):=Int.emod_nonneg _ (by omega);have hmn:(m:Int) % ((n:Int) - 1)<(n:Int) - 1:=Int.emod_lt_of_pos _ (by omega);have hv:wrap64 (2+(m:Int) % ((n:Int) - 1))=2+(m:Int) % ((n:Int) - 1):=by unfold wrap64;omega
       have HL:Hid (Q=.mk (2+(m:Int) % ((n:Int) - 1)) 0 0 0 []):=by
        show _=_;rw [HQ.out];unfold leafF;rw [if_neg hs2,if_neg (by rw [Hk.out];exact hkd),if_pos rfl,HM.out,if_neg (by omega)]
       have HKD:=h_ hkd;have HSS:=h_ hs2;clear hkd hs2;go_wp2_with fail
       rw [set5_eq];refine bodyPost_ret (results_cell_row rfl _ _ w.heap.size 38 _ (0,0) _ rfl (set5_blk hb2 _ _ _ _ _) Tryz.underlying38 rfl (by kernel_rfl)) rfl ?_;have hsW:=HSW.out;have hs2:=HS2.out;refine ⟨none,0,by rw [HL.out];rfl,by rw [HL.out];exact PtK.leaf,?_,HU2.trans (set5_upd _ _ _ _ _ _ _) (fun i hi e=>by omega)⟩;rw [HY.out];exact (hr2.upd (set5_upd _ _ _ _ _ _ _) (fun k hk q e=>by have:=q.2;omega) (by omega)).mono (fun k _ h=>h.1)
      ·have hg2:(n:Int) - 1≤1:=by omega
       have hv:wrap64 2=2:=wrap64_of (by unfold I64;omega)
       have HL:Hid (Q=.mk 2 0 0 0 []):=by
        show _=_;rw [HQ.out];unfold leafF;rw [if_neg hs2,if_neg (by rw [Hk.out];exact hkd),if_pos rfl,HM.out]
        split
        ·rw [Int.emod_one];rfl
        ·rw [show (n:Int) - 1=1 by omega,Int.emod_one];rfl
       have HKD:=h_ hkd;have HSS:=h_ hs2;clear hkd hs2 hg;go_wp2_with fail
       rw [set5_eq];refine bodyPost_ret (results_cell_row rfl _ _ w.heap.size 38 _ (0,0) _ rfl (set5_blk hb2 _ _ _ _ _) Tryz.underlying38 rfl (by kernel_rfl)) rfl ?_;have hsW:=HSW.out;have hs2:=HS2.out;refine ⟨none,0,by rw [HL.out];rfl,by rw [HL.out];exact PtK.leaf,?_,HU2.trans (set5_upd _ _ _ _ _ _ _) (fun i hi e=>by omega)⟩;rw [HY.out];exact (hr2.upd (set5_upd _ _ _ _ _ _ _) (fun k hk q e=>by have:=q.2;omega) (by omega)).mono (fun k _ h=>h.1)
     | false =>
      have hmn0:0≤(m:Int) % (n:Int):=Int.emod_nonneg _ (by omega);have hmn:(m:Int) % (n:Int)<n:=Int.emod_lt_of_pos _ (by omega);have hv:wrap64 (1+(m:Int) % (n:Int))=1+(m:Int) % (n:Int):=by unfold wrap64;omega
      have HL:Hid (Q=.mk (1+(m:Int) % (n:Int)) 0 0 0 []):=by
       show _=_;rw [HQ.out];unfold leafF;rw [if_neg hs2,if_neg (by rw [Hk.out];exact hkd),if_neg (by decide),HM.out]
      have HKD:=h_ hkd;have HSS:=h_ hs2;clear hkd hs2;go_wp2_with fail
      rw [set5_eq];refine bodyPost_ret (results_cell_row rfl _ _ w.heap.size 38 _ (0,0) _ rfl (set5_blk hb2 _ _ _ _ _) Tryz.underlying38 rfl (by kernel_rfl)) rfl ?_;have hsW:=HSW.out;have hs2:=HS2.out;refine ⟨none,0,by rw [HL.out];rfl,by rw [HL.out];exact PtK.leaf,?_,HU2.trans (set5_upd _ _ _ _ _ _ _) (fun i hi e=>by omega)⟩;rw [HY.out];exact (hr2.upd (set5_upd _ _ _ _ _ _ _) (fun k hk q e=>by have:=q.2;omega) (by omega)).mono (fun k _ h=>h.1)
  ·have tk3:decide (k<3)=false:=dF_ hk3;rw [if_neg hk3] at HQY;clear hk3;obtain ⟨op,Hop⟩:=nm (kOpF s st x);rw [Hop.out] at HQY;have har:=kOp_arity s st x;rw [Hop.out] at har;obtain ⟨ar,har2⟩:∃ar:Nat,(arityF op).1=(ar:Int):=Int.eq_ofNat_of_zero_le har.1;have har3:ar≤3:=by omega
   have HAR:=h_ har2;have HOPE:Hid (op=if s=2 then 27+(m:Int) % 3 else if st=true∧9<k then 23 else 4+(m:Int) % 19):=by show _=_;rw [←Hop.out];unfold kOpF;rw [HM.out,Hk.out]
   go_upto_region 13 with fail
   obtain ⟨W4,HW4⟩:=nm (w2.alloc (.cells #[.int .i64 0,.int .i64 (4+(m:Int) % 19),.int .i64 0,.int .i64 0,.slice none 0 0] 38));rw [HW4.out];have e4:=HW4.out;have u4:Upd Non w2 W4:=by rw [←e4];exact Upd.refl.alloc _
   have hb4:Blk W4 w2.heap.size 38 #[.int .i64 0,.int .i64 (4+(m:Int) % 19),.int .i64 0,.int .i64 0,.slice none 0 0]:=by rw [←e4];exact Blk.new _ _ _
   have hs4:W4.heap.size=w2.heap.size+1:=by rw [←e4];simp
   have hm19:(m:Int).tmod 19=(m:Int) % 19:=Int.tmod_eq_emod_of_nonneg (by omega);clear har har2
   go_upto_if 62 with fail
   go_cut [] (fun wx=>Blk wx w2.heap.size 38 #[.int .i64 0,.int .i64 op,.int .i64 0,.int .i64 0,.slice none 0 0]∧Upd Non w2 wx)
   case first =>
    by_cases hs2:s=2
    ·subst hs2;obtain ⟨r,hma,hmb,hmc,hmd⟩:∃r:Nat,(m:Int).tmod 3=(r:Int)∧(m:Int) % 3=(r:Int)∧r<3∧(r:Int)<3:=⟨m % 3,by rw [Int.tmod_eq_emod_of_nonneg (by omega)];omega,by omega,by omega,by omega⟩
     have ho:op=27+(r:Int):=by rw [HOPE.out,if_pos rfl,hmb]
     obtain ⟨W5,HW5⟩:=nm (W4.alloc (.cells #[.int .i64 27,.int .i64 28,.int .i64 29] 3));have e5:=HW5.out;have u5:Upd Non W4 W5:=by rw [←e5];exact Upd.refl.alloc _
     have hi5:W5.cell? ⟨W4.heap.size,r,none⟩=some (.int .i64 op):=by
      rw [←e5,(Blk.new W4 3 #[.int .i64 27,.int .i64 28,.int .i64 29]).cell,ho];have : r=0∨r=1∨r=2:=by omega
      rcases this with rfl | rfl | rfl <;> rfl
     rw [hs4] at hi5;have hb5:=hb4.upd u5 (fun f=>f);have c1:=hb5.cell 1;have f1:=hb5.frozen 1;obtain ⟨W6,HW6⟩:=nm (W5.setCell ⟨w2.heap.size,1,none⟩ (.int .i64 op));have e6:=HW6.out;have hb6:Blk W6 w2.heap.size 38 #[.int .i64 0,.int .i64 op,.int .i64 0,.int .i64 0,.slice none 0 0]:=by rw [←e6];exact hb5.set_ 1 (.int .i64 op)
     have u6:Upd (·=w2.heap.size) W5 W6:=by rw [←e6];exact updCell _ _ _ _
     have HB6:=h_ hb6;have HO:=h_ ho;clear ho hb6 hb4;go_wp2_with fail
     go_meet
     case rel=>exact ⟨HB6.out,(u4.then_non u5).trans u6 (fun i hi e=>by omega)⟩
    ·have ts:(s==2)=false:=by simpa using hs2
     have hop2:Hid (op=if st=true∧9<k then 23 else 4+(m:Int) % 19):=by show _=_;rw [HOPE.out,if_neg hs2]
     have HSS:=h_ hs2;clear hs2
     cases st with
     | false =>
      have ho:Hid (op=4+(m:Int) % 19):=by show _=_;rw [hop2.out,if_neg (fun q=>by cases q.1)]
      have hbE:Hid (Blk W4 w2.heap.size 38 #[.int .i64 0,.int .i64 op,.int .i64 0,.int .i64 0,.slice none 0 0]):=by rw [ho.out];exact hb4
      go_wp2_with fail
      go_meet
      case rel=>exact ⟨hbE.out,u4⟩
     | true =>
      by_cases h9:9<k
      ·have t9:decide (9<k)=true:=dT_ h9;have ho:op=23:=by rw [hop2.out,if_pos ⟨rfl,h9⟩]
       have c1:=hb4.cell 1;have f1:=hb4.frozen 1;obtain ⟨W6,HW6⟩:=nm (W4.setCell ⟨w2.heap.size,1,none⟩ (.int .i64 23));have e6:=HW6.out;have hb6:Blk W6 w2.heap.size 38 #[.int .i64 0,.int .i64 op,.int .i64 0,.int .i64 0,.slice none 0 0]:=by rw [←e6,ho];exact hb4.set_ 1 (.int .i64 23)
       have u6:Upd (·=w2.heap.size) W4 W6:=by rw [←e6];exact updCell _ _ _ _
       have HB6:=h_ hb6;have HO:=h_ ho;clear ho hb6 h9;go_wp2_with fail
       go_meet
       case rel=>exact ⟨HB6.out,u4.trans u6 (fun i hi e=>by omega)⟩
      ·have t9:decide (9<k)=false:=dF_ h9;have ho:Hid (op=4+(m:Int) % 19):=by show _=_;rw [hop2.out,if_neg (fun q=>h9 q.2)]
       have hbE:Hid (Blk W4 w2.heap.size 38 #[.int .i64 0,.int .i64 op,.int .i64 0,.int .i64 0,.slice none 0 0]):=by rw [ho.out];exact hb4
       clear h9;go_wp2_with fail
       go_meet
       case rel=>exact ⟨hbE.out,u4⟩
   case rest =>
   obtain ⟨w5,rfl⟩:∃w5:World,w5=wc:=⟨_,rfl⟩;obtain ⟨hb5,u5⟩:=hcut;clear hb4 e4 HW4 u4 hs4 hm19;have c1:=hb5.cell 1;have CA:=h_ (arity_c op w5);rw [HAR.out] at CA;obtain ⟨ab,Hab⟩:=nm (arityF op).2;rw [Hab.out] at CA;go_wp2_with fail
   refine CA.out.mono ?_;rintro e w6 ⟨rfl,rfl⟩;have hss:(sortsOf op).length=ar:=by rw [sortsOf_len,HAR.out];rfl
   have hsj:∀j (h:j<(sortsOf op).length),(sortsOf op)[j]=operandSortF op j:=sortsOf_get op
   have hso:∀j (h:j<(sortsOf op).length),(sortsOf op)[j]=1∨(sortsOf op)[j]=2:=fun j h=>by
    rw [hsj j h];unfold operandSortF;split
    ·exact .inr rfl
    ·exact .inl rfl
   obtain ⟨ss,Hss⟩:=nm (sortsOf op);rw [Hss.out] at HQY hss hsj hso;have HSL:=h_ hss;have HSJ:=h_ hsj;have HSO:=h_ hso;obtain ⟨ys,Hys⟩:=nm xs.tail;rw [Hys.out] at HQY hr2;have hr6:=hr2.upd u5 (fun _ _ _ f=>f) (fun f=>f);have hsu:=u5.size;have hpw:p<w2.heap.size:=hr2.lt;have hF6:∀k,(F k∧k<w.heap.size)→k≠p:=hFF;have hwrapd:IntKind.i64.wrap ((dp:Int)+1)=((dp+1:Nat):Int):=by rw [i64w_of (by unfold I64;omega)];omega
   have HWD:=h_ hwrapd;have HKS:=h_ (patF_size n st f);rw [HG.out] at HKS
   have hks:kSize f≤1000:=by
    have : f=0∨f=1∨f=2:=by have:=HF2.out;omega
    rcases this with rfl | rfl | rfl <;> decide
   have hlt5:w2.heap.size<w5.heap.size:=hb5.lt;have hww:w.heap.size<w2.heap.size:=by have:=HS2.out;have:=HSW.out;omega
   clear hr2 hss hsj hso hwrapd CA c1 hFF;go_wp2_with fail
   go_loopg [17] ar (fun g i wr=>∃(j:Nat) (A:Option Addr) (c:Nat),Hid (g=ar - j)∧j≤ar∧i=.int .i64 j∧Blk wr w2.heap.size 38 #[.int .i64 0,.int .i64 op,.int .i64 0,.int .i64 0,.slice A j c]∧PtO wr (fun k=>w5.heap.size≤k) A j c (kidsG G (ss.take j) ys).1∧Hid (∀k,At A k→w5.heap.size≤k)∧Rd wr (fun k=>F k∧k<w.heap.size) p (kidsG G (ss.take j) ys).2∧Upd (fun k=>k=p∨k=w2.heap.size) w5 wr)
   case atStart=>exact ⟨0,none,0,rfl,by omega,rfl,hb5,PtO.none_,fun k h=>(At.none_ h).elim,hr6,Upd.refl⟩
   case round =>
    obtain ⟨j,A,c,Hg,hj,rfl,hbr,hpo,HA,hrr,hu⟩:=hrel;by_cases hlt:j<ar
    ·have hjs:j<ss.length:=by rw [HSL.out];exact hlt
     have HTK:Hid (ss.take (j+1)=ss.take j++[ss[j]]):=take_snoc_ hjs;have hsjE:=HSJ.out j hjs;have hsoE:=HSO.out j hjs;generalize ss[j]=sj at *
     have HKN:Hid (kidsG G (ss.take (j+1)) ys=((kidsG G (ss.take j) ys).1++[(G sj (kidsG G (ss.take j) ys).2).1],(G sj (kidsG G (ss.take j) ys).2).2)):=by
      show _=_;rw [HTK.out,kidsG_snoc]
     obtain ⟨kids,Hkids⟩:=nm (kidsG G (ss.take j) ys).1;obtain ⟨zs,Hzs⟩:=nm (kidsG G (ss.take j) ys).2;rw [Hkids.out,Hzs.out] at HKN;rw [Hkids.out] at hpo;rw [Hzs.out] at hrr;have CO:=h_ (fun w'=>operandSort_c op j w');rw [←hsjE] at CO;have t1:decide (j<ar)=true:=dT_ hlt;have d1:wr.cell? ⟨w2.heap.size,1,none⟩=some (.int .i64 op):=hbr.cell 1;obtain ⟨wD,HwD⟩:=nm wr.drew;have uD:Upd Non wr wD:=by rw [←HwD.out];exact Upd.refl.drew
     have hbD:=hbr.upd uD (fun f=>f);have hpD:=hpo.upd uD (fun _ _ f=>f) (fun _ _ _ f=>f);have hrD:=hrr.upd uD (fun _ _ _ f=>f) (fun f=>f);have C1:=h_ (HI.out wD _ p zs sj hsoE hF6 hrD);obtain ⟨q,Hq⟩:=nm (G sj zs).1;obtain ⟨zs2,Hzs2⟩:=nm (G sj zs).2;rw [Hq.out,Hzs2.out] at C1 HKN;have hwd:=HWD.out;clear hsjE hsoE HTK hbr hpo hrr;go_wp2_with fail
     refine wp_region_held_drew (S:=fun w'=>w'.cell? ⟨w2.heap.size,1,none⟩=some (.int .i64 op)) (by kernel_rfl) (by rw [HwD.out];exact u_ d1 uD (fun f=>f)) (fun hHeld=>?_)
     rw [HwD.out] at hHeld ⊢;refine wpT 0 ?_;(try simp only [y_,z_]);refine wpT 2 ?_;(try simp only [y_,z_]);refine wpT 3 ?_;(try simp only [y_,z_]);refine wpT 4 ?_;(try simp only [y_,z_]);refine wpT 5 ?_;(try simp only [y_,z_]);refine wpAnyH_takeC (i:=6) (v:=?v1) rfl (by kernel_rfl) (by kernel_rfl) (by kernel_rfl) (fun _ _ _ h=>h) ⟨by rfl,?f1,?a1,?r1,?c1⟩ (by assumption) ?m1
     case r1=>intro w;go_simp;constructor <;> with_reducible rfl
     case c1=>intro W hSw;refine (CO.out W).mono ?_;rintro e w' ⟨rfl,rfl⟩;constructor <;> with_reducible rfl
     (try simp only [y_,z_]);refine wpT 7 ?_;(try simp only [y_,z_]);refine wpT 8 ?_;(try simp only [y_,z_]);refine wpT 9 ?_;(try simp only [y_,z_]);refine wpT 10 ?_;(try simp only [y_,z_]);have hsD:∀k,At A k→k<wD.heap.size:=fun k h=>hpD.lt h
     have hgD:=hbD.lt;refine aR_ (rs:=[1,11]) (by kernel_rfl) (by simp) ?_;refine aC_ rfl (fun K hK=>?_) (aC_ rfl (fun K hK=>?_) aN_)
     ·have d4:=hbD.cell 4;go_simp;refine hK.out _ _ ?_ (fun hHeld=>?_)
      ·exact u_ d1 uD (fun f=>f)
      clear hK K;(try simp only [y_,z_]);refine aR_ (rs:=[11]) (by kernel_rfl) (by simp) ?_;refine aC_ rfl (fun K hK=>?_) aN_;go_simp;refine C1.out.mono ?_;rintro e w7 ⟨KB,kb,rfl,hq,hr7,u7⟩;unfold pv;go_wp2_with fail
      have d7:=u_ (u_ d1 uD (fun f=>f)) u7 (by omega);refine hK.out _ _ ?_ (fun hHeld=>?_)
      ·exact d7
      clear hK K;(try simp only [y_,z_]);have hb7:=hbD.upd u7 (by omega);have hp7:=hpD.upd u7 (fun k h e=>by have:=HA.out k h;omega) (fun k _ h e=>by omega);obtain ⟨hn7,cs,ho7,hc7⟩:=id hp7;have hs7:=u7.size;have hsu:=hu.size;have hsd:=uD.size;have hq7:PtK w7 (fun k=>w5.heap.size≤k∧¬At A k) q KB kb:=PtK.mono (fun k _ h=>⟨by have h:wD.heap.size≤k:=h;omega,fun hA=>by have h:wD.heap.size≤k:=h;have:=hsD _ hA;omega⟩) _ _ _ hq
      have HP7:=h_ hp7;have HC7:=h_ hc7;have HQ7:=h_ hq7;clear hp7 hc7 hq7 hpD hbD hrD hq hn7 hsD;refine aR_ (rs:=[12]) (by kernel_rfl) (by simp) ?_;refine aC_ rfl (fun K hK=>?_) aN_;go_simp;refine hK.out _ _ ?_ (fun hHeld=>?_)
      ·exact (hb7.alloc _).cell 1
      clear hK K;(try simp only [y_,z_]);refine aR_ (rs:=[13]) (by kernel_rfl) (by simp) ?_;refine aC_ rfl (fun K hK=>?_) aN_;refine step_app rfl rfl T_pats rfl (ho7.alloc _) rfl (Sl.new _ _ _) rfl (by simp [Value.oneCell']) (by simp only [maxLen];omega) (by omega) ?_;intro A8 c8 w8 ho8 hu8 hat8;have b8:=(hb7.alloc _).upd hu8 (fun h=>by have:=HA.out _ h;omega);have d8:=b8.cell 4;have f8:=b8.frozen 4;have e8:w8.cell? ⟨w2.heap.size,1,none⟩=some (.int .i64 op):=b8.cell 1;refine hK.out _ _ ?_ (fun hHeld=>?_)
      ·exact e8
      clear hK K;(try simp only [y_,z_]);have b9:=b8.set_ 4 (.slice A8 (j+1) c8);have e9:(w8.setCell ⟨w2.heap.size,4,none⟩ (.slice A8 (j+1) c8)).cell? ⟨w2.heap.size,1,none⟩=some (.int .i64 op):=by rw [b9.cell];rfl
      refine wpT 14 ?_;(try simp only [y_,z_]);refine aR_ (rs:=[15]) (by kernel_rfl) (by simp) ?_;refine aC_ rfl (fun K hK=>?_) aN_;go_simp;refine hK.out _ _ ?_ (fun hHeld=>?_)
      ·exact e9
      clear hK K;(try simp only [y_,z_]);refine aD_ (by kernel_rfl) ?_ _
      have hA8:∀k,At A8 k→w5.heap.size≤k:=fun k h=>by
       rcases hat8 k h with h | h
       ·exact HA.out k h
       ·rw [h];simp;omega
      have hal:Upd Non w7 (w7.alloc (.cells #[.int .i64 q.v,.int .i64 q.op,.int .i64 q.imm,.int .i64 q.iv,.slice KB q.kids.length kb] 38)):=Upd.refl.alloc _;have u9:Upd (·=w2.heap.size) w8 (w8.setCell ⟨w2.heap.size,4,none⟩ (.slice A8 (j+1) c8)):=updCell _ _ _ _;have hpa:=HP7.out.upd hal (fun _ _ f=>f) (fun _ _ _ f=>f);have hp8:=PtO.snoc (G':=fun k=>w5.heap.size≤k) hpa (HC7.out.mono hal (fun _ _ _ f=>f) (fun _ _ h=>h)) (PtK.upd hal (fun _ _ _ f=>f) _ _ _ HQ7.out) ho8 hu8 hat8 (fun _ _ h=>h)
      have hp9:=hp8.upd u9 (fun k h e=>by have:=hA8 k h;omega) (fun k _ h e=>by omega);have hr8:=(hr7.upd hal (fun _ _ _ f=>f) (fun f=>f)).upd hu8 (fun k _ h hA=>by have:=HA.out k hA;have h2:k<w.heap.size:=h.2;omega) (fun hA=>by have:=HA.out _ hA;omega)
      have hr9:=hr8.upd u9 (fun k _ h e=>by have h2:k<w.heap.size:=h.2;omega) (by omega)
      have HU9:Upd (fun k=>k=p∨k=w2.heap.size) w5 (w8.setCell ⟨w2.heap.size,4,none⟩ (.slice A8 (j+1) c8)) :=
       ((((hu.then_non uD).trans u7 (fun i _ h=>.inl h)).then_non hal).trans hu8 (fun i hi h=>by have:=HA.out i h;omega)).trans u9 (fun i _ h=>.inr h)
      have hb9:Blk (w8.setCell ⟨w2.heap.size,4,none⟩ (.slice A8 (j+1) c8)) w2.heap.size 38 #[.int .i64 0,.int .i64 op,.int .i64 0,.int .i64 0,.slice A8 (j+1) c8]:=by simpa using b9
      have HE1:Hid ((kidsG G (ss.take (j+1)) ys).1=kids++[q]∧(kidsG G (ss.take (j+1)) ys).2=zs2):=by
       show _∧_;rw [HKN.out];exact ⟨rfl,rfl⟩
      have HA8:=h_ hA8;have HP9:=h_ hp9;have HR9:=h_ hr9;have HB9:=h_ hb9;clear hA8 hpa hp8 hp9 hr8 hr9 b9 b8 d8 f8 e8 e9 ho8 hu8 hat8 hb7 ho7 hb9;go_wp2_with fail
      go_roundg (ar - (j+1))
      case measure=>rw [Hg.out];omega
      case rel=>exact ⟨j+1,A8,c8,rfl,by omega,by go_num,HB9.out,by rw [HE1.out.1];exact HP9.out,HA8.out,by rw [HE1.out.2];exact HR9.out,HU9⟩
     ·go_simp;refine C1.out.mono ?_;rintro e w7 ⟨KB,kb,rfl,hq,hr7,u7⟩;unfold pv;go_wp2_with fail
      have d7:=u_ (u_ d1 uD (fun f=>f)) u7 (by omega);refine hK.out _ _ ?_ (fun hHeld=>?_)
      ·exact d7
      clear hK K;(try simp only [y_,z_]);have d4:w7.cell? ⟨w2.heap.size,4,none⟩=some (.slice A j c):=(hbD.upd u7 (by omega)).cell 4;refine wpAnyH_takeM (fun w'=>w'.cell? ⟨w2.heap.size,4,none⟩=some (.slice A j c)) (calm_cell _ _) [13,14,15] (i:=1) (v:=?_) rfl (by kernel_rfl) (by kernel_rfl) (by kernel_rfl) (by kernel_rfl) (fun _ _ _ h=>h) (Or.inl ⟨by rfl,?_⟩) (d4) (by assumption) ?_
      rotate_left
      ·intro w hSw;(try dsimp only at hSw);go_simp;try with_reducible rfl
      (try simp only [y_,z_]);clear d4;have hb7:=hbD.upd u7 (by omega);have hp7:=hpD.upd u7 (fun k h e=>by have:=HA.out k h;omega) (fun k _ h e=>by omega);obtain ⟨hn7,cs,ho7,hc7⟩:=id hp7;have hs7:=u7.size;have hsu:=hu.size;have hsd:=uD.size;have hq7:PtK w7 (fun k=>w5.heap.size≤k∧¬At A k) q KB kb:=PtK.mono (fun k _ h=>⟨by have h:wD.heap.size≤k:=h;omega,fun hA=>by have h:wD.heap.size≤k:=h;have:=hsD _ hA;omega⟩) _ _ _ hq
      have HP7:=h_ hp7;have HC7:=h_ hc7;have HQ7:=h_ hq7;clear hp7 hc7 hq7 hpD hbD hrD hq hn7 hsD;refine aR_ (rs:=[12]) (by kernel_rfl) (by simp) ?_;refine aC_ rfl (fun K hK=>?_) aN_;go_simp;refine hK.out _ _ ?_ (fun hHeld=>?_)
      ·exact (hb7.alloc _).cell 1
      clear hK K;(try simp only [y_,z_]);refine aR_ (rs:=[13]) (by kernel_rfl) (by simp) ?_;refine aC_ rfl (fun K hK=>?_) aN_;refine step_app rfl rfl T_pats rfl (ho7.alloc _) rfl (Sl.new _ _ _) rfl (by simp [Value.oneCell']) (by simp only [maxLen];omega) (by omega) ?_;intro A8 c8 w8 ho8 hu8 hat8;have b8:=(hb7.alloc _).upd hu8 (fun h=>by have:=HA.out _ h;omega);have d8:=b8.cell 4;have f8:=b8.frozen 4;have e8:w8.cell? ⟨w2.heap.size,1,none⟩=some (.int .i64 op):=b8.cell 1;refine hK.out _ _ ?_ (fun hHeld=>?_)
      ·exact e8
      clear hK K;(try simp only [y_,z_]);have b9:=b8.set_ 4 (.slice A8 (j+1) c8);have e9:(w8.setCell ⟨w2.heap.size,4,none⟩ (.slice A8 (j+1) c8)).cell? ⟨w2.heap.size,1,none⟩=some (.int .i64 op):=by rw [b9.cell];rfl
      refine wpT 14 ?_;(try simp only [y_,z_]);refine aR_ (rs:=[15]) (by kernel_rfl) (by simp) ?_;refine aC_ rfl (fun K hK=>?_) aN_;go_simp;refine hK.out _ _ ?_ (fun hHeld=>?_)
      ·exact e9
      clear hK K;(try simp only [y_,z_]);refine aD_ (by kernel_rfl) ?_ _
      have hA8:∀k,At A8 k→w5.heap.size≤k:=fun k h=>by
       rcases hat8 k h with h | h
       ·exact HA.out k h
       ·rw [h];simp;omega
      have hal:Upd Non w7 (w7.alloc (.cells #[.int .i64 q.v,.int .i64 q.op,.int .i64 q.imm,.int .i64 q.iv,.slice KB q.kids.length kb] 38)):=Upd.refl.alloc _;have u9:Upd (·=w2.heap.size) w8 (w8.setCell ⟨w2.heap.size,4,none⟩ (.slice A8 (j+1) c8)):=updCell _ _ _ _;have hpa:=HP7.out.upd hal (fun _ _ f=>f) (fun _ _ _ f=>f);have hp8:=PtO.snoc (G':=fun k=>w5.heap.size≤k) hpa (HC7.out.mono hal (fun _ _ _ f=>f) (fun _ _ h=>h)) (PtK.upd hal (fun _ _ _ f=>f) _ _ _ HQ7.out) ho8 hu8 hat8 (fun _ _ h=>h)
      have hp9:=hp8.upd u9 (fun k h e=>by have:=hA8 k h;omega) (fun k _ h e=>by omega);have hr8:=(hr7.upd hal (fun _ _ _ f=>f) (fun f=>f)).upd hu8 (fun k _ h hA=>by have:=HA.out k hA;have h2:k<w.heap.size:=h.2;omega) (fun hA=>by have:=HA.out _ hA;omega)
      have hr9:=hr8.upd u9 (fun k _ h e=>by have h2:k<w.heap.size:=h.2;omega) (by omega)
      have HU9:Upd (fun k=>k=p∨k=w2.heap.size) w5 (w8.setCell ⟨w2.heap.size,4,none⟩ (.slice A8 (j+1) c8)) :=
       ((((hu.then_non uD).trans u7 (fun i _ h=>.inl h)).then_non hal).trans hu8 (fun i hi h=>by have:=HA.out i h;omega)).trans u9 (fun i _ h=>.inr h)
      have hb9:Blk (w8.setCell ⟨w2.heap.size,4,none⟩ (.slice A8 (j+1) c8)) w2.heap.size 38 #[.int .i64 0,.int .i64 op,.int .i64 0,.int .i64 0,.slice A8 (j+1) c8]:=by simpa using b9
      have HE1:Hid ((kidsG G (ss.take (j+1)) ys).1=kids++[q]∧(kidsG G (ss.take (j+1)) ys).2=zs2):=by
       show _∧_;rw [HKN.out];exact ⟨rfl,rfl⟩
      have HA8:=h_ hA8;have HP9:=h_ hp9;have HR9:=h_ hr9;have HB9:=h_ hb9;clear hA8 hpa hp8 hp9 hr8 hr9 b9 b8 d8 f8 e8 e9 ho8 hu8 hat8 hb7 ho7 hb9;go_wp2_with fail
      go_roundg (ar - (j+1))
      case measure=>rw [Hg.out];omega
      case rel=>exact ⟨j+1,A8,c8,rfl,by omega,by go_num,HB9.out,by rw [HE1.out.1];exact HP9.out,HA8.out,by rw [HE1.out.2];exact HR9.out,HU9⟩
    ·obtain rfl:ar=j:=by omega
     have HTK:Hid (ss.take ar=ss):=List.take_of_length_le (by rw [HSL.out];exact Nat.le_refl _);rw [HTK.out] at hpo hrr;obtain ⟨imm,Himm⟩:=nm (kImmF op x).1;obtain ⟨iv,Hiv⟩:=nm (kImmF op x).2;obtain ⟨kids,Hkids⟩:=nm (kidsG G ss ys).1;obtain ⟨zs,Hzs⟩:=nm (kidsG G ss ys).2;rw [Hkids.out,Hzs.out,Himm.out,Hiv.out] at HQY;rw [Hkids.out] at hpo;rw [Hzs.out] at hrr
     have HIE:Hid ((imm,iv)=if hasImmF op then (if (m:Int) % 5=0 then (if op=27 then 1 else 1 - (m:Int) % 2,0) else (0,1+(m:Int) % 2)) else (0,0)):=by
      show _=_;rw [←Himm.out,←Hiv.out,←HM.out];rfl
     have CH:=h_ (r15HasImm_c op wr);obtain ⟨hi,Hhi⟩:=nm (hasImmF op);rw [Hhi.out] at CH HIE;have t1:decide (ar<ar)=false:=by simp
     have d1:wr.cell? ⟨w2.heap.size,1,none⟩=some (.int .i64 op):=hbr.cell 1;go_wp2_with fail
     refine CH.out.mono ?_;rintro e w7 ⟨rfl,rfl⟩
     go_upto_if 103 with fail
     go_cut [] (fun wx=>Blk wx w2.heap.size 38 #[.int .i64 0,.int .i64 op,.int .i64 imm,.int .i64 iv,.slice A ar c]∧Upd (·=w2.heap.size) wr wx)
     case first =>
      cases hi with
      | false =>
       have hie:imm=0∧iv=0:=by have:=HIE.out;rw [if_neg (by decide)] at this;exact ⟨congrArg Prod.fst this,congrArg Prod.snd this⟩
       obtain ⟨rfl,rfl⟩:=hie;go_wp2_with fail
       go_meet
       case rel=>exact ⟨hbr,Upd.refl⟩
      | true =>
       obtain ⟨r2,hma,hmb,hmc,hmd⟩:=m2_facts m;obtain ⟨r5,hna,hnb,hnc,hnd⟩:=m5_facts m;rw [hmb,hnb] at HIE;clear hmb hnb;have c3:=hbr.cell 3;have f3:=hbr.frozen 3;obtain ⟨X1,HX1⟩:=nm (wr.setCell ⟨w2.heap.size,3,none⟩ (.int .i64 (1+(r2:Int))));have x1:=HX1.out;have hx1:Blk X1 w2.heap.size 38 #[.int .i64 0,.int .i64 op,.int .i64 0,.int .i64 (1+(r2:Int)),.slice A ar c]:=by rw [←x1];simpa using hbr.set_ 3 (.int .i64 (1+(r2:Int)))
       have v1:Upd (·=w2.heap.size) wr X1:=by rw [←x1];exact updCell _ _ _ _
       by_cases h5:(r5:Int)=0
       ·have t5:((r5:Int)==0)=true:=by simpa using h5
        obtain ⟨X2,HX2⟩:=nm (X1.setCell ⟨w2.heap.size,3,none⟩ (.int .i64 0));have x2:=HX2.out;have hx2:Blk X2 w2.heap.size 38 #[.int .i64 0,.int .i64 op,.int .i64 0,.int .i64 0,.slice A ar c]:=by rw [←x2];simpa using hx1.set_ 3 (.int .i64 0)
        have v2:Upd (·=w2.heap.size) X1 X2:=by rw [←x2];exact updCell _ _ _ _
        obtain ⟨X3,HX3⟩:=nm (X2.setCell ⟨w2.heap.size,2,none⟩ (.int .i64 (1 - (r2:Int))));have x3:=HX3.out;have hx3:Blk X3 w2.heap.size 38 #[.int .i64 0,.int .i64 op,.int .i64 (1 - (r2:Int)),.int .i64 0,.slice A ar c]:=by rw [←x3];simpa using hx2.set_ 2 (.int .i64 (1 - (r2:Int)))
        have v3:Upd (·=w2.heap.size) X2 X3:=by rw [←x3];exact updCell _ _ _ _
        have V3:=(v1.trans v2 (fun _ _ h=>h)).trans v3 (fun _ _ h=>h);have g1:=hx1.cell 3;have k1:=hx1.frozen 3;have g2:=hx2.cell 2;have k2:=hx2.frozen 2;have g3:=hx3.cell 1;by_cases h27:op=27
        ·have hie:imm=1∧iv=0:=by have:=HIE.out;rw [if_pos rfl,if_pos h5,if_pos h27] at this;exact ⟨congrArg Prod.fst this,congrArg Prod.snd this⟩
         obtain ⟨rfl,rfl⟩:=hie;have t27:(op==27)=true:=by simpa using h27
         obtain ⟨X4,HX4⟩:=nm (X3.setCell ⟨w2.heap.size,2,none⟩ (.int .i64 1));have x4:=HX4.out;have hx4:Blk X4 w2.heap.size 38 #[.int .i64 0,.int .i64 op,.int .i64 1,.int .i64 0,.slice A ar c]:=by rw [←x4];simpa using hx3.set_ 2 (.int .i64 1)
         have v4:Upd (·=w2.heap.size) X3 X4:=by rw [←x4];exact updCell _ _ _ _
         have g4:=hx3.cell 2;have k4:=hx3.frozen 2;have HX4b:=h_ hx4;clear h27 h5 hx4 hx3 hx2 hx1;go_wp2_with fail
         go_meet
         case rel=>exact ⟨HX4b.out,V3.trans v4 (fun _ _ h=>h)⟩
        ·have hie:imm=1 - (r2:Int)∧iv=0:=by have:=HIE.out;rw [if_pos rfl,if_pos h5,if_neg h27] at this;exact ⟨congrArg Prod.fst this,congrArg Prod.snd this⟩
         have t27:(op==27)=false:=by simpa using h27
         have HX3b:Hid (Blk X3 w2.heap.size 38 #[.int .i64 0,.int .i64 op,.int .i64 imm,.int .i64 iv,.slice A ar c]):=by rw [hie.1,hie.2];exact hx3
         clear h27 h5 hx3 hx2 hx1 hie;go_wp2_with fail
         go_meet
         case rel=>exact ⟨HX3b.out,V3⟩
       ·have t5:((r5:Int)==0)=false:=by simpa using h5
        have hie:imm=0∧iv=1+(r2:Int):=by have:=HIE.out;rw [if_pos rfl,if_neg h5] at this;exact ⟨congrArg Prod.fst this,congrArg Prod.snd this⟩
        have HX1b:Hid (Blk X1 w2.heap.size 38 #[.int .i64 0,.int .i64 op,.int .i64 imm,.int .i64 iv,.slice A ar c]):=by rw [hie.1,hie.2];exact hx1
        clear h5 hx1 hie;go_wp2_with fail
        go_meet
        case rel=>exact ⟨HX1b.out,v1⟩
     case rest =>
     obtain ⟨w8,rfl⟩:∃w8:World,w8=wc:=⟨_,rfl⟩;obtain ⟨hb8,u8⟩:=hcut;have g0:=hb8.cell 0;have g1:=hb8.cell 1;have g2:=hb8.cell 2;have g3:=hb8.cell 3;have g4:=hb8.cell 4;have hbR:=((hb2.upd u5 (fun f=>f)).upd hu (by omega)).upd u8 (by omega);have c0:=hbR.cell 0;have c1:=hbR.cell 1;have c2:=hbR.cell 2;have c3:=hbR.cell 3;have c4:=hbR.cell 4;have f0:=hbR.frozen;clear d1 CH;go_wp2_with fail
     rw [set5_eq];refine bodyPost_ret (results_cell_row rfl _ _ w.heap.size 38 _ (0,0) _ rfl (set5_blk hbR _ _ _ _ _) Tryz.underlying38 rfl (by kernel_rfl)) rfl ?_;have uS:=set5_upd w8 w.heap.size (.int .i64 0) (.int .i64 op) (.int .i64 imm) (.int .i64 iv) (.slice A ar c);have hQ:Q=.mk 0 op imm iv kids:=congrArg Prod.fst HQY.out;have hY:Y=zs:=congrArg Prod.snd HQY.out;have hkl:kids.length=ar:=by rw [←Hkids.out,kidsG_len,HSL.out]
     subst hQ hY;have hp8:=(hpo.upd u8 (fun k h e=>by have:=HA.out k h;omega) (fun k _ h e=>by omega)).upd uS (fun k h e=>by have:=HA.out k h;omega) (fun k _ h e=>by omega)
     refine ⟨A,c,by unfold pv;rw [←hkl];rfl,hp8.view (fun k h=>by have:=HA.out k h;show w.heap.size≤k;omega) (fun k _ h=>by show w.heap.size≤k;omega) _ _ _ _,?_,?_⟩
     ·exact ((hrr.upd u8 (fun k _ h e=>by have h2:k<w.heap.size:=h.2;omega) (by omega)).upd uS (fun k _ h e=>by have h2:k<w.heap.size:=h.2;omega) (by omega)).mono (fun k _ h=>h.1)
     ·exact ((((HU2.then_non u5).trans hu (fun i hi h=>by rcases h with h | h;exact h;omega)).trans u8 (fun i hi h=>by omega)).trans uS (fun i hi h=>by omega))
def set14 (w:World) (g:Nat) (a b c d e f g1 h i j k l m n:Value):World:=(((((((((set5 w g a b c d e).setCell ⟨g,5,none⟩ f).setCell ⟨g,6,none⟩ g1).setCell ⟨g,7,none⟩ h).setCell ⟨g,8,none⟩ i).setCell ⟨g,9,none⟩ j).setCell ⟨g,10,none⟩ k).setCell ⟨g,11,none⟩ l).setCell ⟨g,12,none⟩ m).setCell ⟨g,13,none⟩ n
theorem set14_blk {w:World} {g:Nat} {t:TypeId} {x0 x1 x2 x3 x4 x5 x6 x7 x8 x9 x10 x11 x12 x13:Value} (h:Blk w g t #[x0,x1,x2,x3,x4,x5,x6,x7,x8,x9,x10,x11,x12,x13]) (a b c d e f g1 i j k l m n o:Value):Blk (set14 w g a b c d e f g1 i j k l m n o) g t #[a,b,c,d,e,f,g1,i,j,k,l,m,n,o]:=by
 unfold set14 set5;simpa using (((((((((((((h.set_ 0 a).set_ 1 b).set_ 2 c).set_ 3 d).set_ 4 e).set_ 5 f).set_ 6 g1).set_ 7 i).set_ 8 j).set_ 9 k).set_ 10 l).set_ 11 m).set_ 12 n).set_ 13 o
theorem set14_upd (w:World) (g:Nat) (a b c d e f g1 i j k l m n o:Value):Upd (·=g) w (set14 w g a b c d e f g1 i j k l m n o):=by
 have s:∀(w:World) (i:Nat) (v:Value),Upd (·=g) w (w.setCell ⟨g,i,none⟩ v):=fun w i v=>updCell _ _ _ _
 have t:∀{a b c:World},Upd (·=g) a b→Upd (·=g) b c→Upd (·=g) a c:=fun h k=>h.trans k (fun _ _ h=>h)
 exact t (t (t (t (t (t (t (t (t (set5_upd _ _ _ _ _ _ _) (s _ _ _)) (s _ _ _)) (s _ _ _)) (s _ _ _)) (s _ _ _)) (s _ _ _)) (s _ _ _)) (s _ _ _)) (s _ _ _)
theorem set14_eq (w:World) (g:Nat) (a b c d e f g1 h i j k l m n:Value):(((((((((((((w.setCell ⟨g,0,none⟩ a).setCell ⟨g,1,none⟩ b).setCell ⟨g,2,none⟩ c).setCell ⟨g,3,none⟩ d).setCell ⟨g,4,none⟩ e).setCell ⟨g,5,none⟩ f).setCell ⟨g,6,none⟩ g1).setCell ⟨g,7,none⟩ h).setCell ⟨g,8,none⟩ i).setCell ⟨g,9,none⟩ j).setCell ⟨g,10,none⟩ k).setCell ⟨g,11,none⟩ l).setCell ⟨g,12,none⟩ m).setCell ⟨g,13,none⟩ n=set14 w g a b c d e f g1 h i j k l m n:=rfl
def setRt (w:World) (g:Nat) (a b c d e:Value):World:=((((w.setCell ⟨g,6,none⟩ a).setCell ⟨g,7,none⟩ b).setCell ⟨g,8,none⟩ c).setCell ⟨g,9,none⟩ d).setCell ⟨g,10,none⟩ e
theorem setRt_blk {w:World} {g:Nat} {t:TypeId} {x0 x1 x2 x3 x4 x5 x6 x7 x8 x9 x10 x11 x12 x13:Value} (h:Blk w g t #[x0,x1,x2,x3,x4,x5,x6,x7,x8,x9,x10,x11,x12,x13]) (a b c d e:Value):Blk (setRt w g a b c d e) g t #[x0,x1,x2,x3,x4,x5,a,b,c,d,e,x11,x12,x13]:=by
 unfold setRt;simpa using ((((h.set_ 6 a).set_ 7 b).set_ 8 c).set_ 9 d).set_ 10 e
theorem setRt_upd (w:World) (g:Nat) (a b c d e:Value):Upd (·=g) w (setRt w g a b c d e):=by
 have s:∀(w:World) (i:Nat) (v:Value),Upd (·=g) w (w.setCell ⟨g,i,none⟩ v):=fun w i v=>updCell _ _ _ _
 have t:∀{a b c:World},Upd (·=g) a b→Upd (·=g) b c→Upd (·=g) a c:=fun h k=>h.trans k (fun _ _ h=>h)
 exact t (t (t (t (s _ _ _) (s _ _ _)) (s _ _ _)) (s _ _ _)) (s _ _ _)
theorem setRt_eq (w:World) (g:Nat) (a b c d e:Value):((((w.setCell ⟨g,6,none⟩ a).setCell ⟨g,7,none⟩ b).setCell ⟨g,8,none⟩ c).setCell ⟨g,9,none⟩ d).setCell ⟨g,10,none⟩ e=setRt w g a b c d e:=rfl
theorem cond_one {w:World} {g:Nat} {x0 x1 x2 x3 x4 x5 x6 x7 x8 x9 x10 x11 x12 x13:Value} (b:Blk w g 41 #[x0,x1,x2,x3,x4,x5,x6,x7,x8,x9,x10,x11,x12,x13]) (c:Cd) :
  Blk ((w.alloc (.cells #[.int .i64 c.kind,.int .i64 c.a,.int .i64 c.b,.int .i64 c.n] 102)).setCell ⟨g,11,none⟩ (.slice (some ⟨w.heap.size,0,none⟩) 1 1)) g 41 #[x0,x1,x2,x3,x4,x5,x6,x7,x8,x9,x10,.slice (some ⟨w.heap.size,0,none⟩) 1 1,x12,x13] ∧
  CondsV ((w.alloc (.cells #[.int .i64 c.kind,.int .i64 c.a,.int .i64 c.b,.int .i64 c.n] 102)).setCell ⟨g,11,none⟩ (.slice (some ⟨w.heap.size,0,none⟩) 1 1)) (fun k=>w.heap.size≤k) (some ⟨w.heap.size,0,none⟩) [c] ∧
  Upd (·=g) w ((w.alloc (.cells #[.int .i64 c.kind,.int .i64 c.a,.int .i64 c.b,.int .i64 c.n] 102)).setCell ⟨g,11,none⟩ (.slice (some ⟨w.heap.size,0,none⟩) 1 1)):=by
 have hg:g<w.heap.size:=b.lt;have ua:Upd Non w (w.alloc (.cells #[.int .i64 c.kind,.int .i64 c.a,.int .i64 c.b,.int .i64 c.n] 102)):=Upd.refl.alloc _;have ba:=Blk.new w 102 #[.int .i64 c.kind,.int .i64 c.a,.int .i64 c.b,.int .i64 c.n];obtain ⟨W,HW⟩:=nm (w.alloc (.cells #[.int .i64 c.kind,.int .i64 c.a,.int .i64 c.b,.int .i64 c.n] 102));rw [HW.out] at ua ba ⊢;have us:Upd (·=g) W (W.setCell ⟨g,11,none⟩ (.slice (some ⟨w.heap.size,0,none⟩) 1 1)):=updCell _ _ _ _;have bs:=ba.upd us (by omega);refine ⟨by simpa using (b.upd ua (fun f=>f)).set_ 11 (.slice (some ⟨w.heap.size,0,none⟩) 1 1),.inr ⟨w.heap.size,0,rfl,Nat.le_refl _,fun i hi=>?_⟩,(ua.mono (fun _ _ f=>f.elim)).trans us (fun _ _ h=>h)⟩
 obtain rfl:i=0:=by simpa using hi
 exact ⟨bs.cell 0,bs.cell 1,bs.cell 2,bs.cell 3⟩
def sideF (op:Int) (p:Pt):Pt:=if 0<p.v then .mk 0 op 0 0 [p] else p
def kCondsF (n:Int) (nv:Nat):List Cd :=
 if n % 9=0 then [⟨1,1,0,0⟩] else if n % 9=1 then [⟨2,1,0,wordF (n.tdiv 9) 3⟩] else if n % 9=2 then [⟨3,nv,0,wordF (n.tdiv 9) 3⟩] else if n % 9=3∧1<nv then [⟨4,1,2,0⟩] else []
def kRuleF (name:ByteArray) (xs:List Int):Rl :=
 let P:=patF (3:Nat) false 3 1 xs.tail
 let R:=numF P.1 [] []
 if R.2.1.length=0 then ⟨name,sideF 21 R.1,.mk 0 1 (wordF (xs.headD 0) 5) 0 [],[],0,0⟩
 else ⟨name,sideF 21 R.1,(patF R.2.1.length false 2 1 P.2).1,kCondsF (xs.headD 0) R.2.1.length,R.2.1.length,0⟩
set_option maxRecDepth 100000 in
set_option maxHeartbeats 1600000 in
theorem kRule_c (w:World) (F:Nat→Prop) (A:Option Addr) (c:Nat) (xs:List Int) (name:ByteArray) (hx:Ints w F A xs) (hc:xs.length≤c) (hI:∀x∈xs,I64 x) (hn:xs.length≤100000000000000) :
  Calls Tryz.prog 21 #[.slice A xs.length c,.string name] w fun e w'=>∃a:RlA,e=.returned (rlv (kRuleF name (xs.take 40)) a)∧RlK w' (fun k=>w.heap.size≤k) (kRuleF name (xs.take 40)) a∧Upd Non w w':=by
 have hx0:=hx.mono (G:=(·<w.heap.size)) (fun k hk _=>hk);obtain ⟨W,HW⟩:=nm (w.alloc (.cells #[.string ⟨#[]⟩,.int .i64 0,.int .i64 0,.int .i64 0,.int .i64 0,.slice none 0 0,.int .i64 0,.int .i64 0,.int .i64 0,.int .i64 0,.slice none 0 0,.slice none 0 0,.int .i64 0,.int .i64 0] 41))
 have hU:Upd Non w W:=by rw [←HW.out];exact Upd.refl.alloc _
 have hb:Blk W w.heap.size 41 #[.string ⟨#[]⟩,.int .i64 0,.int .i64 0,.int .i64 0,.int .i64 0,.slice none 0 0,.int .i64 0,.int .i64 0,.int .i64 0,.int .i64 0,.slice none 0 0,.slice none 0 0,.int .i64 0,.int .i64 0]:=by rw [←HW.out];exact Blk.new _ _ _
 have hsW:W.heap.size=w.heap.size+1:=by rw [←HW.out];simp
 have e0:=HW.out;have hxW:=hx0.upd hU (fun _ _ _ f=>f);obtain ⟨l,Hl⟩:=nm xs.length;rw [Hl.out] at hc;rw [Hl.out];go_enter Tryz.func21,Tryz.ntmps21
 go_upto_region 1 with fail
 go_cut [5] (fun s wx=>∃p,s=.pointer (some ⟨p,0,none⟩)∧w.heap.size<p∧Rd wx (fun k=>w.heap.size<k∧k≠p) p (xs.take 40)∧Upd Non W wx)
 case first =>
  obtain ⟨W2,HW2⟩:=nm (W.alloc (.cells #[] 3));have hU2:Upd Non W W2:=by rw [←HW2.out];exact Upd.refl.alloc _
  have ho2:Own W2 3 1 (some ⟨w.heap.size+1,0,none⟩) 0 0 (icells []):=by rw [←HW2.out];exact own_empty' 3 1 hsW.symm
  have e2:=HW2.out;have hx2:=hxW.upd hU2 (fun _ _ _ f=>f);obtain ⟨m,hm⟩:∃m:Nat,(xs.take 40).length=m:=⟨_,rfl⟩;have hmx:Ints W2 (·<w.heap.size) A (xs.take 40):=hx2.take_ 40;have hml:m≤40:=by rw [←hm];simp;omega
  have H:∀(A3:Option Addr) (c3:Nat) (w3:World),Own w3 3 1 A3 (0+m) c3 (icells []++icells (xs.take 40))→Upd (At (some ⟨w.heap.size+1,0,none⟩)) W2 w3→(∀k,At A3 k→At (some ⟨w.heap.size+1,0,none⟩) k∨k=W2.heap.size) →
    ∃p,Value.pointer (some ⟨w3.heap.size,0,none⟩)=.pointer (some ⟨p,0,none⟩)∧w.heap.size<p∧Rd (w3.alloc (.cells #[.slice A3 m c3,.int .i64 0] 96)) (fun k=>w.heap.size<k∧k≠p) p (xs.take 40)∧Upd Non W (w3.alloc (.cells #[.slice A3 m c3,.int .i64 0] 96)):=by
   intro A3 c3 w3 ho3 hu3 hat3;have hs3:=hu3.size;have hsW2:W2.heap.size=w.heap.size+1+1:=by rw [←HW2.out];simp [hsW]
   obtain ⟨W4,HW4⟩:=nm (w3.alloc (.cells #[.slice A3 m c3,.int .i64 0] 96));have uA:Upd Non w3 W4:=by rw [←HW4.out];exact Upd.refl.alloc _
   rw [HW4.out];refine ⟨w3.heap.size,rfl,by omega,⟨A3,c3,.int .i64 0,?_,?_,?_,fun x hx=>hI x (List.mem_of_mem_take hx)⟩,?_⟩
   ·rw [←HW4.out,hm];exact Blk.new _ _ _
   ·have ho4:=ho3.upd uA (fun _ _ f=>f);refine (Own.ints ho4).mono (fun k hk h=>?_);have hlt:=ho3.lt h;rcases hat3 k h with h | h
    ·rw [At.some_] at h;omega
    ·omega
   ·have:=ho3.le;omega
   ·exact (hU2.trans hu3 (fun i hi h=>by rw [At.some_] at h;omega)).then_non uA
  have hlm:xs.length≤40∧m=xs.length∨40<xs.length∧m=40:=by rw [←hm];simp;omega
  rw [Hl.out] at hlm;rcases hlm with ⟨hl,rfl⟩ | ⟨hl,rfl⟩
  ·go_wp2_with (at_builtin;refine wpList_app rfl rfl T_ints' rfl ho2 rfl hmx (by rw [List.length_map,hm,Nat.mul_one]) (icells_one _) (by simp only [maxLen];omega) (by omega) ?_;intro A3 c3 w3 ho3 hu3 hat3)
   go_meet
   case rel=>exact H A3 c3 w3 ho3 hu3 hat3
  ·have t20:((l:Int)≤40)=False:=by simp;omega
   obtain ⟨b0,o0,rfl,_⟩:=hmx.at_ (k:=0) (by omega)
   go_wp2_with (at_builtin;refine wpList_app rfl rfl T_ints' rfl ho2 rfl hmx (by rw [List.length_map,hm,Nat.mul_one]) (icells_one _) (by simp only [maxLen];omega) (by omega) ?_;intro A3 c3 w3 ho3 hu3 hat3)
   go_meet
   case rel=>exact H A3 c3 w3 ho3 hu3 hat3
 case rest =>
  obtain ⟨w1,rfl⟩:∃w1:World,w1=wc:=⟨_,rfl⟩;obtain ⟨p,rfl,hpw,hR,hU1⟩:=hcut;have hb1:=hb.upd hU1 (fun f=>f);obtain ⟨ys,Hys⟩:=nm (xs.take 40);rw [Hys.out] at hR;have hR1:=hR.mono (G:=fun k=>w.heap.size<k∧k≠p∧k<w1.heap.size) (fun k hk h=>⟨h.1,h.2,hk⟩);have hpl:=hR.lt;have hni:=hR.i64;have C1:=h_ (rdNext_c (fun k h=>h.2.1) hR1);have hUw1:=hU.then_non hU1;clear hx hx0 hxW hI hR hb hU hU1 HW e0 hR1;go_wp2_with fail
  refine C1.out.mono ?_;rintro e w2 ⟨rfl,hR2,hu2⟩;obtain ⟨n,Hn⟩:=nm (ys.headD 0);rw [Hn.out] at hni ⊢;have C2:=h_ (rdPattern_c 3 (by omega) (by omega) false 3 (by omega) w2 _ p ys.tail 1 (.inl rfl) (fun k h=>h.2.1) hR2);have hb2:=hb1.upd hu2 (by omega);clear C1 hR2 hb1;go_wp2_with fail
  refine C2.out.mono ?_;rintro e w3 ⟨K1,k1,rfl,hp3,hR3,hu3⟩;have hPs:=patF_size (3:Nat) false 3 1 ys.tail;obtain ⟨P,HP⟩:=nm (patF (3:Nat) false 3 1 ys.tail);rw [HP.out] at hp3 hR3 hPs ⊢;simp only [kSize] at hPs;have C3:=h_ (Numbered_c P.1 w3 _ K1 k1 hp3 (by omega));have hb3:=hb2.upd hu3 (by omega);have hls:=numF_len P.1 [] [];simp only [List.length_nil,Nat.zero_add] at hls;clear C2 hb2;go_wp2_with fail
  refine C3.out.mono ?_;rintro e w4 ⟨K2,k2,rfl,hp4,hu4⟩;obtain ⟨R,HR⟩:=nm (numF P.1 [] []);rw [HR.out] at hp4 hls ⊢;obtain ⟨q,Hq⟩:=nm R.1;obtain ⟨nv,Hnv⟩:=nm R.2.1.length;obtain ⟨ni,Hni⟩:=nm R.2.2.length;rw [Hq.out] at hp4 ⊢;rw [Hnv.out] at hls ⊢;rw [Hni.out];have hnv:nv≤40:=by omega
  have hb4:=hb3.upd hu4 (fun f=>f);have hR4:=hR3.upd hu4 (fun _ _ _ f=>f) (fun f=>f);have s1:=hUw1.size;have s2:=hu2.size;have s3:=hu3.size;have s4:=hu4.size;have hU4:Upd (·=p) w1 w4:=(hu2.trans hu3 (fun _ _ h=>h)).then_non hu4;clear C3 hls hPs hp3 hR3 hb3;unfold pv
  go_upto_region 4 with fail
  obtain ⟨w5,Hw5⟩:=nm (w4.alloc (.cells #[.int .i64 q.v,.int .i64 q.op,.int .i64 q.imm,.int .i64 q.iv,.slice K2 q.kids.length k2] 38));have u5:Upd Non w4 w5:=by rw [←Hw5.out];exact Upd.refl.alloc _
  have b5:Blk w5 w4.heap.size 38 #[.int .i64 q.v,.int .i64 q.op,.int .i64 q.imm,.int .i64 q.iv,.slice K2 q.kids.length k2]:=by rw [←Hw5.out];exact Blk.new _ _ _
  have s5:w5.heap.size=w4.heap.size+1:=by rw [←Hw5.out];simp
  have hp5:PtK w5 (fun k=>w.heap.size<k∧k≠p∧k<w4.heap.size) q K2 k2:=PtK.upd u5 (fun _ _ _ f=>f) _ _ _ (PtK.mono (fun k hk h=>by omega) _ _ _ hp4)
  have hb5:=hb4.upd u5 (fun f=>f);have hR5:=hR4.upd u5 (fun _ _ _ f=>f) (fun f=>f);have hU5:=hU4.then_non u5;rw [Hw5.out];clear hp4 hb4 hR4 hU4 u5 Hw5;have HR5:=h_ hR5;have HU5:=h_ hU5;have HB5:=h_ hb5;have HP5:=h_ hp5;have Hb5:=h_ b5;have c0:=b5.cell 0;have c1:=b5.cell 1;have c2:=b5.cell 2;have c3:=b5.cell 3;have c4:=b5.cell 4;have f5:=b5.frozen;clear hR5 hU5 hb5 hp5 b5;obtain ⟨v,Hv⟩:=nm q.v;rw [Hv.out] at c0 ⊢
  go_upto_if 31 with fail
  go_cut [] (fun wx=>∃KL kl,Blk wx w4.heap.size 38 #[.int .i64 (sideF 21 q).v,.int .i64 (sideF 21 q).op,.int .i64 (sideF 21 q).imm,.int .i64 (sideF 21 q).iv,.slice KL (sideF 21 q).kids.length kl]∧PtK wx (fun k=>w.heap.size<k∧k≠p∧k≠w4.heap.size) (sideF 21 q) KL kl∧Upd (·=w4.heap.size) w5 wx)
  case first =>
   by_cases hv:0<q.v
   ·have e:sideF 21 q=.mk 0 21 0 0 [q]:=if_pos hv;have hv':0<v:=by rw [←Hv.out];exact hv
    have tv:decide (0<v)=true:=dT_ hv';go_wp2_with fail
    go_meet
    case rel =>
     rw [set5_eq,e];have b:=Hb5.out;rw [Hv.out] at b;have us:=set5_upd w5 w4.heap.size (.int .i64 0) (.int .i64 21) (.int .i64 0) (.int .i64 0) (.slice (some ⟨w4.heap.size+1,0,none⟩) 1 1);have bs:=set5_blk b (.int .i64 0) (.int .i64 21) (.int .i64 0) (.int .i64 0) (.slice (some ⟨w4.heap.size+1,0,none⟩) 1 1);have hs:=us.size;obtain ⟨wA,HwA⟩:=nm (set5 w5 w4.heap.size (.int .i64 0) (.int .i64 21) (.int .i64 0) (.int .i64 0) (.slice (some ⟨w4.heap.size+1,0,none⟩) 1 1));have hsA:wA.heap.size=w4.heap.size+1:=by rw [←HwA.out,←s5];simp [set5]
     rw [HwA.out] at us bs ⊢;have ua:Upd Non wA (wA.alloc (.cells #[.int .i64 v,.int .i64 q.op,.int .i64 q.imm,.int .i64 q.iv,.slice K2 q.kids.length k2] 38)):=Upd.refl.alloc _;have ba:=Blk.new wA 38 #[.int .i64 v,.int .i64 q.op,.int .i64 q.imm,.int .i64 q.iv,.slice K2 q.kids.length k2];rw [hsA,←Hv.out] at ba;rw [←Hv.out] at ua ⊢;refine ⟨some ⟨w4.heap.size+1,0,none⟩,1,bs.upd ua (fun f=>f),?_,us.then_non ua⟩;exact PtK.one _ _ _ _ ba (PtK.upd ua (fun _ _ _ f=>f) _ _ _ (PtK.upd us (fun k hk h=>by omega) _ _ _ (PtK.mono (fun k _ h=>by omega) _ _ _ HP5.out))) (by omega) (by omega)
   ·have e:sideF 21 q=q:=if_neg hv;have hv':¬0<v:=by rw [←Hv.out];exact hv
    have tv:decide (0<v)=false:=dF_ hv';go_wp2_with fail
    go_meet
    case rel=>rw [e];exact ⟨K2,k2,Hb5.out,PtK.mono (fun k _ h=>by omega) _ _ _ HP5.out,Upd.refl⟩
  case rest =>
   obtain ⟨w6,rfl⟩:∃w6:World,w6=wc:=⟨_,rfl⟩;obtain ⟨KL,kl,b6,hp6,u6⟩:=hcut;obtain ⟨L,HL⟩:=nm (sideF 21 q);rw [HL.out] at b6 hp6;have s6:=u6.size;have hb6:=HB5.out.upd u6 (by omega);have hR6:=HR5.out.upd u6 (fun k hk h=>by omega) (by omega);have hU6:Upd (fun k=>k=p∨k=w4.heap.size) w1 w6:=(HU5.out.mono (fun _ _ h=>.inl h)).trans u6 (fun _ _ h=>.inr h);clear HB5 HR5 HU5 HP5 Hb5 c0 c1 c2 c3 c4 f5;have c0:=b6.cell 0;have c1:=b6.cell 1;have c2:=b6.cell 2;have c3:=b6.cell 3;have c4:=b6.cell 4;have f6:=b6.frozen
   go_upto_region 7 with fail
   have HB6:=h_ b6;clear c0 c1 c2 c3 c4 f6 b6;obtain ⟨w7,Hw7⟩:=nm (w6.alloc (.cells #[.string name,.int .i64 L.v,.int .i64 L.op,.int .i64 L.imm,.int .i64 L.iv,.slice KL L.kids.length kl,.int .i64 0,.int .i64 0,.int .i64 0,.int .i64 0,.slice none 0 0,.slice none 0 0,.int .i64 nv,.int .i64 0] 41))
   have u7:Upd Non w6 w7:=by rw [←Hw7.out];exact Upd.refl.alloc _
   have b7:Blk w7 w6.heap.size 41 #[.string name,.int .i64 L.v,.int .i64 L.op,.int .i64 L.imm,.int .i64 L.iv,.slice KL L.kids.length kl,.int .i64 0,.int .i64 0,.int .i64 0,.int .i64 0,.slice none 0 0,.slice none 0 0,.int .i64 nv,.int .i64 0]:=by rw [←Hw7.out];exact Blk.new _ _ _
   have s7:w7.heap.size=w6.heap.size+1:=by rw [←Hw7.out];simp
   rw [Hw7.out];have hb7:=hb6.upd u7 (fun f=>f);have hR7:=hR6.upd u7 (fun _ _ _ f=>f) (fun f=>f);have hU7:=hU6.then_non u7;have hp7:=PtK.upd u7 (fun _ _ _ f=>f) _ _ _ (PtK.mono (G:=fun k=>w.heap.size<k∧k≠p∧k≠w4.heap.size∧k<w6.heap.size) (fun k hk h=>by omega) _ _ _ hp6)
   clear hb6 hR6 hU6 hp6 u7 Hw7 HB6
   have HRe:Hid (nv=0→kRuleF name ys=⟨name,L,.mk 0 1 (wordF n 5) 0 [],[],0,0⟩):=fun h=>by
    unfold kRuleF;simp only [HP.out,HR.out,Hnv.out,Hq.out,HL.out,Hn.out,h,if_true]
   have HRn:Hid (nv≠0→kRuleF name ys=⟨name,L,(patF nv false 2 1 P.2).1,kCondsF n nv,nv,0⟩):=fun h=>by
    unfold kRuleF;simp only [HP.out,HR.out,Hnv.out,Hq.out,HL.out,Hn.out,if_neg h]
   by_cases h0:nv=0
   ·subst h0;have CW:=h_ (word_c w7 n 5 hni);have HRr:=h_ (HRe.out rfl);clear HRe HRn;go_wp2_with fail
    refine CW.out.mono ?_;rintro e w8 ⟨rfl,hu8⟩;obtain ⟨wd,Hwd⟩:=nm (wordF n 5);rw [Hwd.out] at HRr ⊢;have hb8:=hb7.upd hu8 (fun f=>f);have b8:=b7.upd hu8 (fun f=>f);clear b7 hb7 CW;have r6:=b8.cell 6;have r7:=b8.cell 7;have r8:=b8.cell 8;have r9:=b8.cell 9;have r10:=b8.cell 10;have rf:=b8.frozen
    go_upto_region 9 with fail
    rw [setRt_eq];have u9:=setRt_upd w8 w6.heap.size (.int .i64 0) (.int .i64 1) (.int .i64 wd) (.int .i64 0) (.slice none 0 0);have bz:=setRt_blk b8 (.int .i64 0) (.int .i64 1) (.int .i64 wd) (.int .i64 0) (.slice none 0 0);have hz:=hb8.upd u9 (by omega);obtain ⟨wz,Hwz⟩:=nm (setRt w8 w6.heap.size (.int .i64 0) (.int .i64 1) (.int .i64 wd) (.int .i64 0) (.slice none 0 0));rw [Hwz.out] at u9 bz hz ⊢;clear r6 r7 r8 r9 r10 rf b8 hb8;have hpz:=PtK.upd u9 (fun k hk h=>by omega) _ _ _ (PtK.upd hu8 (fun _ _ _ f=>f) _ _ _ hp7);have hUz:Upd (fun k=>k=p∨k=w4.heap.size∨k=w6.heap.size) w1 wz:=((hU7.mono (fun _ _ h=>by omega)).then_non hu8).trans u9 (fun _ _ h=>by omega)
    have r0:=bz.cell 0;have r1:=bz.cell 1;have r2:=bz.cell 2;have r3:=bz.cell 3;have r4:=bz.cell 4;have r5:=bz.cell 5;have r6:=bz.cell 6;have r7:=bz.cell 7;have r8:=bz.cell 8;have r9:=bz.cell 9;have r10:=bz.cell 10;have r11:=bz.cell 11;have r12:=bz.cell 12;have r13:=bz.cell 13;have z0:=hz.cell 0;have z1:=hz.cell 1;have z2:=hz.cell 2;have z3:=hz.cell 3;have z4:=hz.cell 4;have z5:=hz.cell 5;have z6:=hz.cell 6;have z7:=hz.cell 7;have z8:=hz.cell 8;have z9:=hz.cell 9;have z10:=hz.cell 10;have z11:=hz.cell 11;have z12:=hz.cell 12;have z13:=hz.cell 13;have rf:=bz.frozen;have zf:=hz.frozen;have HZ:=h_ hz;clear hz bz;go_wp2_with fail
    rw [set14_eq];refine bodyPost_ret (results_cell_row rfl _ _ w.heap.size 41 _ (0,0) _ rfl (set14_blk HZ.out _ _ _ _ _ _ _ _ _ _ _ _ _ _) Tryz.underlying41 rfl (by kernel_rfl)) rfl ?_
    rw [Hys.out,HRr.out];refine ⟨⟨KL,kl,none,0,none,0⟩,rfl,⟨PtK.mono (fun k hk h=>by omega) _ _ _ (PtK.upd (set14_upd _ _ _ _ _ _ _ _ _ _ _ _ _ _ _ _) (fun k hk h=>by omega) _ _ _ hpz),PtK.leaf,CondsV.nil,by simp⟩,?_⟩
    exact ((hUw1.trans hUz (fun k hk h=>by omega)).trans (set14_upd _ _ _ _ _ _ _ _ _ _ _ _ _ _ _ _) (fun k hk h=>by omega))
   ·have HRr:=h_ (HRn.out h0);have C4:=h_ (rdPattern_c nv (by omega) (by omega) false 2 (by omega) w7 _ p P.2 1 (.inl rfl) (fun k h=>h.2.1) hR7);clear HRe HRn hR7;have th:((nv:Int)=0)=False:=by simp;omega
    have th2:decide ((nv:Int)=0)=false:=by simp;omega
    go_wp2_with fail
    refine C4.out.mono ?_;rintro e w8 ⟨KR,kr,rfl,hp8,-,hu8⟩;obtain ⟨Q,HQ⟩:=nm (patF nv false 2 1 P.2).1;rw [HQ.out] at hp8 HRr ⊢;have hb8:=hb7.upd hu8 (by omega);have b8:=b7.upd hu8 (by omega);have s8:=hu8.size;have hpz:=PtK.upd hu8 (fun k hk h=>by omega) _ _ _ hp7;have hU8:Upd (fun k=>k=p∨k=w4.heap.size) w1 w8:=hU7.trans hu8 (fun k hk h=>.inl h);clear b7 hb7 C4 hp7 hU7;have r6:=b8.cell 6;have r7:=b8.cell 7;have r8:=b8.cell 8;have r9:=b8.cell 9;have r10:=b8.cell 10;have rf:=b8.frozen;unfold pv
    go_upto_region 11 with fail
    rw [setRt_eq];have u9:=setRt_upd w8 w6.heap.size (.int .i64 Q.v) (.int .i64 Q.op) (.int .i64 Q.imm) (.int .i64 Q.iv) (.slice KR Q.kids.length kr);have b9:=setRt_blk b8 (.int .i64 Q.v) (.int .i64 Q.op) (.int .i64 Q.imm) (.int .i64 Q.iv) (.slice KR Q.kids.length kr);have hb9:=hb8.upd u9 (by omega);obtain ⟨w9,Hw9⟩:=nm (setRt w8 w6.heap.size (.int .i64 Q.v) (.int .i64 Q.op) (.int .i64 Q.imm) (.int .i64 Q.iv) (.slice KR Q.kids.length kr));rw [Hw9.out] at u9 b9 hb9 ⊢;have s9:=u9.size;have hpL:=PtK.upd u9 (fun k hk h=>by omega) _ _ _ hpz;have hpR:=PtK.upd u9 (fun k hk h=>by omega) _ _ _ hp8;have hU9:Upd (fun k=>k=p∨k=w4.heap.size∨k=w6.heap.size) w1 w9:=(hU8.mono (fun _ _ h=>by omega)).trans u9 (fun _ _ h=>by omega);clear r6 r7 r8 r9 r10 rf b8 hb8 hpz hp8 hU8 u9 Hw9;have C5:=h_ (pick_c n 9 w9 (by omega) (by omega));go_wp2_with fail
    refine C5.out.mono ?_;rintro e wx ⟨rfl,rfl⟩;obtain ⟨k,Hk⟩:=nm (n % 9);rw [Hk.out];have hk9:0≤k∧k<9:=by rw [←Hk.out];omega
    have HpL:=h_ hpL;have HpR:=h_ hpR;have HU9:=h_ hU9;have Hb9:=h_ hb9;have HB9:=h_ b9;have r11:∀o,(w9.alloc o).cell? ⟨w6.heap.size,11,none⟩=some (.slice none 0 0):=fun o=>(b9.alloc o).cell 11
    have rf:∀o,(w9.alloc o).frozen? ⟨w6.heap.size,11,none⟩=false:=fun o=>(b9.alloc o).frozen 11
    clear hpL hpR hU9 hb9 b9 C5;by_cases k0:k=0
    ·subst k0;have hc:kCondsF n nv=[⟨1,1,0,0⟩]:=by unfold kCondsF;rw [if_pos Hk.out]
     go_upto_region 21 with fail
     obtain ⟨bz,hcz,uz⟩:=cond_one HB9.out ⟨1,1,0,0⟩;simp only at bz hcz uz;have hz:=Hb9.out.upd uz (by omega);obtain ⟨wz,Hwz⟩:=nm ((w9.alloc (.cells #[.int .i64 1,.int .i64 1,.int .i64 0,.int .i64 0] 102)).setCell ⟨w6.heap.size,11,none⟩ (.slice (some ⟨w9.heap.size,0,none⟩) 1 1))
     rw [Hwz.out] at bz hcz uz hz ⊢;obtain ⟨CA,HCA⟩:=nm (some (⟨w9.heap.size,0,none⟩:Addr));rw [HCA.out] at bz hcz;clear r11 rf;have r0:=bz.cell 0;have r1:=bz.cell 1;have r2:=bz.cell 2;have r3:=bz.cell 3;have r4:=bz.cell 4;have r5:=bz.cell 5;have r6:=bz.cell 6;have r7:=bz.cell 7;have r8:=bz.cell 8;have r9:=bz.cell 9;have r10:=bz.cell 10;have r11:=bz.cell 11;have r12:=bz.cell 12;have r13:=bz.cell 13;have z0:=hz.cell 0;have z1:=hz.cell 1;have z2:=hz.cell 2;have z3:=hz.cell 3;have z4:=hz.cell 4;have z5:=hz.cell 5;have z6:=hz.cell 6;have z7:=hz.cell 7;have z8:=hz.cell 8;have z9:=hz.cell 9;have z10:=hz.cell 10;have z11:=hz.cell 11;have z12:=hz.cell 12;have z13:=hz.cell 13;have rf:=bz.frozen;have zf:=hz.frozen;have HZ:=h_ hz;clear hz bz;go_wp2_with fail
     rw [set14_eq];refine bodyPost_ret (results_cell_row rfl _ _ w.heap.size 41 _ (0,0) _ rfl (set14_blk HZ.out _ _ _ _ _ _ _ _ _ _ _ _ _ _) Tryz.underlying41 rfl (by kernel_rfl)) rfl ?_
     rw [Hys.out,HRr.out,hc];have uE:=set14_upd wz w.heap.size (.string name) (.int .i64 L.v) (.int .i64 L.op) (.int .i64 L.imm) (.int .i64 L.iv) (.slice KL L.kids.length kl) (.int .i64 Q.v) (.int .i64 Q.op) (.int .i64 Q.imm) (.int .i64 Q.iv) (.slice KR Q.kids.length kr) (.slice CA 1 1) (.int .i64 nv) (.int .i64 0)
     refine ⟨⟨KL,kl,KR,kr,CA,1⟩,rfl,⟨PtK.mono (fun k hk h=>by omega) _ _ _ (PtK.upd uE (fun k hk h=>by omega) _ _ _ (PtK.upd uz (fun k hk h=>by omega) _ _ _ HpL.out)),PtK.mono (fun k hk h=>by omega) _ _ _ (PtK.upd uE (fun k hk h=>by omega) _ _ _ (PtK.upd uz (fun k hk h=>by omega) _ _ _ HpR.out)),(hcz.upd uE (fun k hk h=>by omega)).mono (fun k hk h=>by omega),by simp⟩,?_⟩
     exact (hUw1.trans (HU9.out.trans uz (fun _ _ h=>by omega)) (fun k hk h=>by omega)).trans uE (fun k hk h=>by omega)
    ·by_cases k1:k=1
     ·subst k1;obtain ⟨d,Hd⟩:=nm (n.tdiv 9);have hdi:I64 d:=by rw [←Hd.out];exact tdiv_i64 hni (by omega)
      have hwr:wrap64 (n.tdiv 9)=d:=by rw [Hd.out];exact wrap64_of hdi
      have CW:=h_ (word_c w9 d 3 hdi);obtain ⟨wd,Hwd⟩:=nm (wordF d 3);rw [Hwd.out] at CW;go_wp2_with fail
      refine CW.out.mono ?_;rintro e wy ⟨rfl,huy⟩;have HpL:=h_ (PtK.upd huy (fun _ _ _ f=>f) _ _ _ HpL.out);have HpR:=h_ (PtK.upd huy (fun _ _ _ f=>f) _ _ _ HpR.out);have HU9:=h_ (HU9.out.then_non huy);have Hb9:=h_ (Hb9.out.upd huy (fun f=>f));have HB9:=h_ (HB9.out.upd huy (fun f=>f));have s9:w8.heap.size≤wy.heap.size:=by have:=huy.size;omega
      have r11:∀o,(wy.alloc o).cell? ⟨w6.heap.size,11,none⟩=some (.slice none 0 0):=fun o=>(HB9.out.alloc o).cell 11
      have rf:∀o,(wy.alloc o).frozen? ⟨w6.heap.size,11,none⟩=false:=fun o=>(HB9.out.alloc o).frozen 11
      have hc:kCondsF n nv=[⟨2,1,0,wd⟩]:=by unfold kCondsF;rw [if_neg (by rw [Hk.out];omega),if_pos Hk.out,Hd.out,Hwd.out]
      go_upto_region 21 with fail
      obtain ⟨bz,hcz,uz⟩:=cond_one HB9.out ⟨2,1,0,wd⟩;simp only at bz hcz uz;have hz:=Hb9.out.upd uz (by omega);obtain ⟨wz,Hwz⟩:=nm ((wy.alloc (.cells #[.int .i64 2,.int .i64 1,.int .i64 0,.int .i64 wd] 102)).setCell ⟨w6.heap.size,11,none⟩ (.slice (some ⟨wy.heap.size,0,none⟩) 1 1))
      rw [Hwz.out] at bz hcz uz hz ⊢;obtain ⟨CA,HCA⟩:=nm (some (⟨wy.heap.size,0,none⟩:Addr));rw [HCA.out] at bz hcz;clear r11 rf;have r0:=bz.cell 0;have r1:=bz.cell 1;have r2:=bz.cell 2;have r3:=bz.cell 3;have r4:=bz.cell 4;have r5:=bz.cell 5;have r6:=bz.cell 6;have r7:=bz.cell 7;have r8:=bz.cell 8;have r9:=bz.cell 9;have r10:=bz.cell 10;have r11:=bz.cell 11;have r12:=bz.cell 12;have r13:=bz.cell 13;have z0:=hz.cell 0;have z1:=hz.cell 1;have z2:=hz.cell 2;have z3:=hz.cell 3;have z4:=hz.cell 4;have z5:=hz.cell 5;have z6:=hz.cell 6;have z7:=hz.cell 7;have z8:=hz.cell 8;have z9:=hz.cell 9;have z10:=hz.cell 10;have z11:=hz.cell 11;have z12:=hz.cell 12;have z13:=hz.cell 13;have rf:=bz.frozen;have zf:=hz.frozen;have HZ:=h_ hz;clear hz bz;go_wp2_with fail
      rw [set14_eq];refine bodyPost_ret (results_cell_row rfl _ _ w.heap.size 41 _ (0,0) _ rfl (set14_blk HZ.out _ _ _ _ _ _ _ _ _ _ _ _ _ _) Tryz.underlying41 rfl (by kernel_rfl)) rfl ?_
      rw [Hys.out,HRr.out,hc];have uE:=set14_upd wz w.heap.size (.string name) (.int .i64 L.v) (.int .i64 L.op) (.int .i64 L.imm) (.int .i64 L.iv) (.slice KL L.kids.length kl) (.int .i64 Q.v) (.int .i64 Q.op) (.int .i64 Q.imm) (.int .i64 Q.iv) (.slice KR Q.kids.length kr) (.slice CA 1 1) (.int .i64 nv) (.int .i64 0)
      refine ⟨⟨KL,kl,KR,kr,CA,1⟩,rfl,⟨PtK.mono (fun k hk h=>by omega) _ _ _ (PtK.upd uE (fun k hk h=>by omega) _ _ _ (PtK.upd uz (fun k hk h=>by omega) _ _ _ HpL.out)),PtK.mono (fun k hk h=>by omega) _ _ _ (PtK.upd uE (fun k hk h=>by omega) _ _ _ (PtK.upd uz (fun k hk h=>by omega) _ _ _ HpR.out)),(hcz.upd uE (fun k hk h=>by omega)).mono (fun k hk h=>by omega),by simp⟩,?_⟩
      exact (hUw1.trans (HU9.out.trans uz (fun _ _ h=>by omega)) (fun k hk h=>by omega)).trans uE (fun k hk h=>by omega)
     ·by_cases k2:k=2
      ·subst k2;obtain ⟨d,Hd⟩:=nm (n.tdiv 9);have hdi:I64 d:=by rw [←Hd.out];exact tdiv_i64 hni (by omega)
       have hwr:wrap64 (n.tdiv 9)=d:=by rw [Hd.out];exact wrap64_of hdi
       have CW:=h_ (word_c w9 d 3 hdi);obtain ⟨wd,Hwd⟩:=nm (wordF d 3);rw [Hwd.out] at CW;go_wp2_with fail
       refine CW.out.mono ?_;rintro e wy ⟨rfl,huy⟩;have HpL:=h_ (PtK.upd huy (fun _ _ _ f=>f) _ _ _ HpL.out);have HpR:=h_ (PtK.upd huy (fun _ _ _ f=>f) _ _ _ HpR.out);have HU9:=h_ (HU9.out.then_non huy);have Hb9:=h_ (Hb9.out.upd huy (fun f=>f));have HB9:=h_ (HB9.out.upd huy (fun f=>f));have s9:w8.heap.size≤wy.heap.size:=by have:=huy.size;omega
       have r11:∀o,(wy.alloc o).cell? ⟨w6.heap.size,11,none⟩=some (.slice none 0 0):=fun o=>(HB9.out.alloc o).cell 11
       have rf:∀o,(wy.alloc o).frozen? ⟨w6.heap.size,11,none⟩=false:=fun o=>(HB9.out.alloc o).frozen 11
       have hc:kCondsF n nv=[⟨3,nv,0,wd⟩]:=by unfold kCondsF;rw [if_neg (by rw [Hk.out];omega),if_neg (by rw [Hk.out];omega),if_pos Hk.out,Hd.out,Hwd.out]
       go_upto_region 21 with fail
       obtain ⟨bz,hcz,uz⟩:=cond_one HB9.out ⟨3,nv,0,wd⟩;simp only at bz hcz uz;have hz:=Hb9.out.upd uz (by omega);obtain ⟨wz,Hwz⟩:=nm ((wy.alloc (.cells #[.int .i64 3,.int .i64 nv,.int .i64 0,.int .i64 wd] 102)).setCell ⟨w6.heap.size,11,none⟩ (.slice (some ⟨wy.heap.size,0,none⟩) 1 1))
       rw [Hwz.out] at bz hcz uz hz ⊢;obtain ⟨CA,HCA⟩:=nm (some (⟨wy.heap.size,0,none⟩:Addr));rw [HCA.out] at bz hcz;clear r11 rf;have r0:=bz.cell 0;have r1:=bz.cell 1;have r2:=bz.cell 2;have r3:=bz.cell 3;have r4:=bz.cell 4;have r5:=bz.cell 5;have r6:=bz.cell 6;have r7:=bz.cell 7;have r8:=bz.cell 8;have r9:=bz.cell 9;have r10:=bz.cell 10;have r11:=bz.cell 11;have r12:=bz.cell 12;have r13:=bz.cell 13;have z0:=hz.cell 0;have z1:=hz.cell 1;have z2:=hz.cell 2;have z3:=hz.cell 3;have z4:=hz.cell 4;have z5:=hz.cell 5;have z6:=hz.cell 6;have z7:=hz.cell 7;have z8:=hz.cell 8;have z9:=hz.cell 9;have z10:=hz.cell 10;have z11:=hz.cell 11;have z12:=hz.cell 12;have z13:=hz.cell 13;have rf:=bz.frozen;have zf:=hz.frozen;have HZ:=h_ hz;clear hz bz;go_wp2_with fail
       rw [set14_eq];refine bodyPost_ret (results_cell_row rfl _ _ w.heap.size 41 _ (0,0) _ rfl (set14_blk HZ.out _ _ _ _ _ _ _ _ _ _ _ _ _ _) Tryz.underlying41 rfl (by kernel_rfl)) rfl ?_
       rw [Hys.out,HRr.out,hc];have uE:=set14_upd wz w.heap.size (.string name) (.int .i64 L.v) (.int .i64 L.op) (.int .i64 L.imm) (.int .i64 L.iv) (.slice KL L.kids.length kl) (.int .i64 Q.v) (.int .i64 Q.op) (.int .i64 Q.imm) (.int .i64 Q.iv) (.slice KR Q.kids.length kr) (.slice CA 1 1) (.int .i64 nv) (.int .i64 0)
       refine ⟨⟨KL,kl,KR,kr,CA,1⟩,rfl,⟨PtK.mono (fun k hk h=>by omega) _ _ _ (PtK.upd uE (fun k hk h=>by omega) _ _ _ (PtK.upd uz (fun k hk h=>by omega) _ _ _ HpL.out)),PtK.mono (fun k hk h=>by omega) _ _ _ (PtK.upd uE (fun k hk h=>by omega) _ _ _ (PtK.upd uz (fun k hk h=>by omega) _ _ _ HpR.out)),(hcz.upd uE (fun k hk h=>by omega)).mono (fun k hk h=>by omega),by simp⟩,?_⟩
       exact (hUw1.trans (HU9.out.trans uz (fun _ _ h=>by omega)) (fun k hk h=>by omega)).trans uE (fun k hk h=>by omega)
      ·by_cases k3:k=3
       ·subst k3;by_cases n1:1<nv
        ·have tn:decide ((1:Int)<(nv:Int))=true:=by simp;omega
         have hc:kCondsF n nv=[⟨4,1,2,0⟩]:=by unfold kCondsF;rw [if_neg (by rw [Hk.out];omega),if_neg (by rw [Hk.out];omega),if_neg (by rw [Hk.out];omega),if_pos ⟨Hk.out,n1⟩]
         go_upto_region 21 with fail
         obtain ⟨bz,hcz,uz⟩:=cond_one HB9.out ⟨4,1,2,0⟩;simp only at bz hcz uz;have hz:=Hb9.out.upd uz (by omega);obtain ⟨wz,Hwz⟩:=nm ((w9.alloc (.cells #[.int .i64 4,.int .i64 1,.int .i64 2,.int .i64 0] 102)).setCell ⟨w6.heap.size,11,none⟩ (.slice (some ⟨w9.heap.size,0,none⟩) 1 1))
         rw [Hwz.out] at bz hcz uz hz ⊢;obtain ⟨CA,HCA⟩:=nm (some (⟨w9.heap.size,0,none⟩:Addr));rw [HCA.out] at bz hcz;clear r11 rf;have r0:=bz.cell 0;have r1:=bz.cell 1;have r2:=bz.cell 2;have r3:=bz.cell 3;have r4:=bz.cell 4;have r5:=bz.cell 5;have r6:=bz.cell 6;have r7:=bz.cell 7;have r8:=bz.cell 8;have r9:=bz.cell 9;have r10:=bz.cell 10;have r11:=bz.cell 11;have r12:=bz.cell 12;have r13:=bz.cell 13;have z0:=hz.cell 0;have z1:=hz.cell 1;have z2:=hz.cell 2;have z3:=hz.cell 3;have z4:=hz.cell 4;have z5:=hz.cell 5;have z6:=hz.cell 6;have z7:=hz.cell 7;have z8:=hz.cell 8;have z9:=hz.cell 9;have z10:=hz.cell 10;have z11:=hz.cell 11;have z12:=hz.cell 12;have z13:=hz.cell 13;have rf:=bz.frozen;have zf:=hz.frozen;have HZ:=h_ hz;clear hz bz;go_wp2_with fail
         rw [set14_eq];refine bodyPost_ret (results_cell_row rfl _ _ w.heap.size 41 _ (0,0) _ rfl (set14_blk HZ.out _ _ _ _ _ _ _ _ _ _ _ _ _ _) Tryz.underlying41 rfl (by kernel_rfl)) rfl ?_
         rw [Hys.out,HRr.out,hc];have uE:=set14_upd wz w.heap.size (.string name) (.int .i64 L.v) (.int .i64 L.op) (.int .i64 L.imm) (.int .i64 L.iv) (.slice KL L.kids.length kl) (.int .i64 Q.v) (.int .i64 Q.op) (.int .i64 Q.imm) (.int .i64 Q.iv) (.slice KR Q.kids.length kr) (.slice CA 1 1) (.int .i64 nv) (.int .i64 0)
         refine ⟨⟨KL,kl,KR,kr,CA,1⟩,rfl,⟨PtK.mono (fun k hk h=>by omega) _ _ _ (PtK.upd uE (fun k hk h=>by omega) _ _ _ (PtK.upd uz (fun k hk h=>by omega) _ _ _ HpL.out)),PtK.mono (fun k hk h=>by omega) _ _ _ (PtK.upd uE (fun k hk h=>by omega) _ _ _ (PtK.upd uz (fun k hk h=>by omega) _ _ _ HpR.out)),(hcz.upd uE (fun k hk h=>by omega)).mono (fun k hk h=>by omega),by simp⟩,?_⟩
         exact (hUw1.trans (HU9.out.trans uz (fun _ _ h=>by omega)) (fun k hk h=>by omega)).trans uE (fun k hk h=>by omega)
        ·have tn:decide ((1:Int)<(nv:Int))=false:=by simp;omega
         have hc:kCondsF n nv=[]:=by unfold kCondsF;rw [if_neg (by rw [Hk.out];omega),if_neg (by rw [Hk.out];omega),if_neg (by rw [Hk.out];omega),if_neg (fun h=>n1 h.2)]
         have uz:Upd (·=w6.heap.size) w9 w9:=Upd.refl;have bz:=HB9.out;have hz:=Hb9.out;have hcz:CondsV w9 (fun k=>w9.heap.size≤k) none []:=CondsV.nil;obtain ⟨wz,Hwz⟩:∃wz:World,Hid (w9=wz):=⟨_,rfl⟩
         go_upto_region 21 with fail
         rw [Hwz.out] at bz hz ⊢;have uz:Upd (·=w6.heap.size) w9 wz:=by rw [←Hwz.out];exact Upd.refl
         have hcz:CondsV wz (fun k=>w9.heap.size≤k) none []:=CondsV.nil;clear r11 rf;have r0:=bz.cell 0;have r1:=bz.cell 1;have r2:=bz.cell 2;have r3:=bz.cell 3;have r4:=bz.cell 4;have r5:=bz.cell 5;have r6:=bz.cell 6;have r7:=bz.cell 7;have r8:=bz.cell 8;have r9:=bz.cell 9;have r10:=bz.cell 10;have r11:=bz.cell 11;have r12:=bz.cell 12;have r13:=bz.cell 13;have z0:=hz.cell 0;have z1:=hz.cell 1;have z2:=hz.cell 2;have z3:=hz.cell 3;have z4:=hz.cell 4;have z5:=hz.cell 5;have z6:=hz.cell 6;have z7:=hz.cell 7;have z8:=hz.cell 8;have z9:=hz.cell 9;have z10:=hz.cell 10;have z11:=hz.cell 11;have z12:=hz.cell 12;have z13:=hz.cell 13;have rf:=bz.frozen;have zf:=hz.frozen;have HZ:=h_ hz;clear hz bz;go_wp2_with fail
         rw [set14_eq];refine bodyPost_ret (results_cell_row rfl _ _ w.heap.size 41 _ (0,0) _ rfl (set14_blk HZ.out _ _ _ _ _ _ _ _ _ _ _ _ _ _) Tryz.underlying41 rfl (by kernel_rfl)) rfl ?_
         rw [Hys.out,HRr.out,hc];have uE:=set14_upd wz w.heap.size (.string name) (.int .i64 L.v) (.int .i64 L.op) (.int .i64 L.imm) (.int .i64 L.iv) (.slice KL L.kids.length kl) (.int .i64 Q.v) (.int .i64 Q.op) (.int .i64 Q.imm) (.int .i64 Q.iv) (.slice KR Q.kids.length kr) (.slice none 0 0) (.int .i64 nv) (.int .i64 0)
         refine ⟨⟨KL,kl,KR,kr,none,0⟩,rfl,⟨PtK.mono (fun k hk h=>by omega) _ _ _ (PtK.upd uE (fun k hk h=>by omega) _ _ _ (PtK.upd uz (fun k hk h=>by omega) _ _ _ HpL.out)),PtK.mono (fun k hk h=>by omega) _ _ _ (PtK.upd uE (fun k hk h=>by omega) _ _ _ (PtK.upd uz (fun k hk h=>by omega) _ _ _ HpR.out)),(hcz.upd uE (fun k hk h=>by omega)).mono (fun k hk h=>by omega),by simp⟩,?_⟩
         exact (hUw1.trans (HU9.out.trans uz (fun _ _ h=>by omega)) (fun k hk h=>by omega)).trans uE (fun k hk h=>by omega)
       ·have hc:kCondsF n nv=[]:=by unfold kCondsF;rw [Hk.out,if_neg k0,if_neg k1,if_neg k2,if_neg (fun h=>k3 h.1)]
        have uz:Upd (·=w6.heap.size) w9 w9:=Upd.refl;have bz:=HB9.out;have hz:=Hb9.out;have hcz:CondsV w9 (fun k=>w9.heap.size≤k) none []:=CondsV.nil;obtain ⟨wz,Hwz⟩:∃wz:World,Hid (w9=wz):=⟨_,rfl⟩
        go_upto_region 21 with fail
        rw [Hwz.out] at bz hz ⊢;have uz:Upd (·=w6.heap.size) w9 wz:=by rw [←Hwz.out];exact Upd.refl
        have hcz:CondsV wz (fun k=>w9.heap.size≤k) none []:=CondsV.nil;clear r11 rf;have r0:=bz.cell 0;have r1:=bz.cell 1;have r2:=bz.cell 2;have r3:=bz.cell 3;have r4:=bz.cell 4;have r5:=bz.cell 5;have r6:=bz.cell 6;have r7:=bz.cell 7;have r8:=bz.cell 8;have r9:=bz.cell 9;have r10:=bz.cell 10;have r11:=bz.cell 11;have r12:=bz.cell 12;have r13:=bz.cell 13;have z0:=hz.cell 0;have z1:=hz.cell 1;have z2:=hz.cell 2;have z3:=hz.cell 3;have z4:=hz.cell 4;have z5:=hz.cell 5;have z6:=hz.cell 6;have z7:=hz.cell 7;have z8:=hz.cell 8;have z9:=hz.cell 9;have z10:=hz.cell 10;have z11:=hz.cell 11;have z12:=hz.cell 12;have z13:=hz.cell 13;have rf:=bz.frozen;have zf:=hz.frozen;have HZ:=h_ hz;clear hz bz;go_wp2_with fail
        rw [set14_eq];refine bodyPost_ret (results_cell_row rfl _ _ w.heap.size 41 _ (0,0) _ rfl (set14_blk HZ.out _ _ _ _ _ _ _ _ _ _ _ _ _ _) Tryz.underlying41 rfl (by kernel_rfl)) rfl ?_
        rw [Hys.out,HRr.out,hc];have uE:=set14_upd wz w.heap.size (.string name) (.int .i64 L.v) (.int .i64 L.op) (.int .i64 L.imm) (.int .i64 L.iv) (.slice KL L.kids.length kl) (.int .i64 Q.v) (.int .i64 Q.op) (.int .i64 Q.imm) (.int .i64 Q.iv) (.slice KR Q.kids.length kr) (.slice none 0 0) (.int .i64 nv) (.int .i64 0)
        refine ⟨⟨KL,kl,KR,kr,none,0⟩,rfl,⟨PtK.mono (fun k hk h=>by omega) _ _ _ (PtK.upd uE (fun k hk h=>by omega) _ _ _ (PtK.upd uz (fun k hk h=>by omega) _ _ _ HpL.out)),PtK.mono (fun k hk h=>by omega) _ _ _ (PtK.upd uE (fun k hk h=>by omega) _ _ _ (PtK.upd uz (fun k hk h=>by omega) _ _ _ HpR.out)),(hcz.upd uE (fun k hk h=>by omega)).mono (fun k hk h=>by omega),by simp⟩,?_⟩
        exact (hUw1.trans (HU9.out.trans uz (fun _ _ h=>by omega)) (fun k hk h=>by omega)).trans uE (fun k hk h=>by omega)
abbrev Bs:=List UInt8
def isPn (c:UInt8):Bool:=decide (c.toNat=40∨c.toNat=41∨c.toNat=59∨c.toNat=58∨c.toNat=44)
def isSp (c:UInt8):Bool:=decide (c.toNat=32∨c.toNat=9∨c.toNat=10∨c.toNat=13)
def isLw (c:UInt8):Bool:=decide (97≤c.toNat∧c.toNat≤122)
def isCm:Bs→Bool
 | a::b::_=>decide (a.toNat=47∧b.toNat=47)
 | _=>false
def wordCh (c:UInt8):Bool:=decide (33≤c.toNat∧c.toNat≤126)&&!isPn c
def wlen:Bs→Nat
 | []=>0
 | c::r=>if wordCh c&&!isCm (c::r) then wlen r+1 else 0
def clen:Bs→Nat
 | []=>0
 | c::r=>if c.toNat=10 then 0 else clen r+1
structure Tok where
 s:Bs
 pos:Nat
 bad:Bool
def tokL:Nat→Bs→Nat→List Tok
 | 0,_,o=>[⟨[],o,true⟩]
 | _+1,[],o=>[⟨[],o,true⟩]
 | f+1,c::r,o =>
  if isSp c then tokL f r (o+1)
  else if isCm (c::r) then tokL f ((c::r).drop (clen (c::r))) (o+clen (c::r))
  else if isPn c || decide (c.toNat<33) || decide (126<c.toNat) then ⟨[c],o,!isPn c⟩::tokL f r (o+1)
  else ⟨(c::r).take (wlen (c::r)),o,false⟩::tokL f ((c::r).drop (wlen (c::r))) (o+wlen (c::r))
def toksF (s:Bs):List Tok:=tokL (s.length+1) s 0
def goodT:List Tok→List (Bs×Nat)
 | []=>[]
 | t::l=>if t.bad then [] else (t.s,t.pos)::goodT l
def finT:List Tok→Nat
 | []=>0
 | t::l=>if t.bad then t.pos else finT l
def findB:Bs→UInt8→Nat→Option Nat
 | [],_,_=>none
 | x::l,c,i=>if x=c then some i else findB l c (i+1)
def lookF (l:Bs) (c:UInt8) (left:Bool):Nat×Bs :=
 match findB l c 0 with
 | some i=>(i+1,l)
 | none=>if left then (l.length+1,l++[c]) else (0,l)
def varF (s:Bs) (c:Nat) (l:Bs) (left:Bool):Nat×Bs :=
 match s with
 | [a,b]=>if a.toNat=c∧isLw b=true then lookF l b left else (0,l)
 | _=>(0,l)
def isDg (c:UInt8):Bool:=decide (48≤c.toNat∧c.toNat≤57)
def digF (l:Bs) (n:Nat):Nat:=l.foldl (fun n c=>10 * n+(c.toNat - 48)) n
def decF (s:Bs):Option Int :=
 let neg:=decide (s.head?=some 45)
 let t:=if neg then s.tail else s
 if t.length<1∨t.length > 19∨(t.head?=some 48∧(t.length > 1∨neg=true)) then none
 else if t.all isDg then
  if digF t 0 > (if neg then 9223372036854775808 else 9223372036854775807) then none else some (if neg then -(digF t 0:Int) else digF t 0)
 else none
def nameL:List Bs :=
 [[97,100,100],
 [115,117,98],
 [109,117,108],
 [100,105,118],
 [114,101,109],
 [97,110,100],
 [111,114],
 [120,111,114],
 [115,104,108],
 [115,104,114],
 [115,97,114],
 [101,113],
 [110,101],
 [108,116],
 [108,101],
 [108,116,117],
 [110,101,103],
 [110,111,116],
 [115,101,108],
 [108,111,97,100],
 [114,101,116],
 [102,105,110],
 [115,116,97,114,116],
 [110,101,101,100],
 [115,116,111,114,101],
 [111,117,116],
 [99,97,108,108],
 [108,111,111,112]]
def findL {α:Type} [DecidableEq α]:List α→α→Nat→Option Nat
 | [],_,_=>none
 | x::l,s,i=>if x=s then some i else findL l s (i+1)
def opF (s:Bs):Option Nat:=(findL nameL s 0).map (4+·)
def arF (op:Int):Option Nat :=
 if op=24∨op=20∨op=21 then some 1 else if op=22∨op=28 then some 3 else if (4≤op∧op≤23)∨op=27∨op=29 then some 2 else none
def immOp (op:Int):Bool:=decide (op=23∨op=27∨op=28)
abbrev Er:=Int×Int
structure PS where
 i:Nat
 vs:Bs
 ms:Bs
section
variable (T:List (Bs×Nat)) (fin:Nat)
def offF (i:Nat):Nat:=match T[i]? with | some t=>t.2 | none=>fin
def tkF (i:Nat):Option Bs:=(T[i]?).map (·.1)
def serr (i:Nat):Er:=(2,(offF T fin i:Int))
def expF (s:Bs) (x:PS):Except Er PS:=if tkF T x.i=some s then .ok { x with i:=x.i+1 } else .error (serr T fin x.i)
def wrdF {α:Type} (f:Bs→PS→Option (α×PS)) (x:PS):Except Er (α×PS) :=
 match tkF T x.i with
 | some s=>if isPn (s.headD 0) then .error (serr T fin x.i) else match f s x with
  | some (a,y)=>.ok (a,{ y with i:=x.i+1 })
  | none=>.error (serr T fin x.i)
 | none=>.error (serr T fin x.i)
def atomF (left:Bool) (s:Bs) (x:PS):Option (Pt×PS) :=
 match decF s with
 | some n=>some (.mk 0 1 n 0 [],x)
 | none =>
  if 0<(varF s 63 x.vs left).1 then some (.mk (varF s 63 x.vs left).1 0 0 0 [],{ x with vs:=(varF s 63 x.vs left).2 })
  else if 0<(varF s 36 x.ms left).1 then some (.mk 0 1 0 (varF s 36 x.ms left).1 [],{ x with ms:=(varF s 36 x.ms left).2 })
  else none
def operF (left:Bool) (s:Bs) (x:PS):Option (Pt×PS) :=
 let a:=s.takeWhile (fun c=>decide (c.toNat≠46))
 let r:=s.drop a.length
 match opF a with
 | none=>none
 | some op =>
  if (arF op).isNone∨immOp op≠decide (a.length<s.length) then none
  else if immOp op=false then some (.mk 0 op 0 0 [],x)
  else match decF r.tail with
   | some n=>some (.mk 0 op n 0 [],x)
   | none=>match r.tail with
    | [c]=>if isLw c=true∧0<(lookF x.ms c left).1 then some (.mk 0 op 0 (lookF x.ms c left).1 [],{ x with ms:=(lookF x.ms c left).2 }) else none
    | _=>none
def kidsF (g:PS→Except Er (Pt×PS)):Nat→PS→Except Er (List Pt×PS)
 | 0,x=>.ok ([],x)
 | k+1,x=>match g x with
  | .error e=>.error e
  | .ok (p,y)=>match kidsF g k y with
   | .error e=>.error e
   | .ok (l,z)=>.ok (p::l,z)
def termF (left:Bool):Nat→PS→Except Er (Pt×PS)
 | 0,x=>.error (serr T fin x.i)
 | f+1,x =>
  if tkF T x.i=some [40] then
   match wrdF T fin (operF left) { x with i:=x.i+1 } with
   | .error e=>.error e
   | .ok (p,y)=>match kidsF (termF left f) ((arF p.op).getD 0) y with
    | .error e=>.error e
    | .ok (l,z)=>match expF T fin [41] z with
     | .error e=>.error e
     | .ok u=>.ok (.mk 0 p.op p.imm p.iv l,u)
  else wrdF T fin (atomF left) x
def pvarF:PS→Except Er (Nat×PS):=wrdF T fin fun s x=>if 0<(varF s 63 x.vs false).1 then some ((varF s 63 x.vs false).1,x) else none
def ivarF:PS→Except Er (Nat×PS):=wrdF T fin fun s x=>match s with
 | [c]=>if isLw c=true∧0<(lookF x.ms c false).1 then some ((lookF x.ms c false).1,x) else none
 | _=>none
def numbF:PS→Except Er (Int×PS):=wrdF T fin fun s x=>(decF s).map fun n=>(n,x)
def condL:List Bs:=[[110,111,110,122,101,114,111],[108,101,97,115,116],[109,111,115,116],[97,112,97,114,116],[105,110,115,105,100,101],[117,110,108,105,107,101]]
def kindF:PS→Except Er (Nat×PS):=wrdF T fin fun s x=>(findL condL s 0).map fun i=>(i+1,x)
def pcondF (x:PS):Except Er (Cd×PS) :=
 match kindF T fin x with
 | .error e=>.error e
 | .ok (k,y)=>match (if k=6 then ivarF T fin y else pvarF T fin y) with
  | .error e=>.error e
  | .ok (a,z) =>
   if k=1 then .ok (⟨1,a,0,0⟩,z)
   else if k=2∨k=3 then match numbF T fin z with
    | .error e=>.error e
    | .ok (n,u)=>.ok (⟨k,a,0,n⟩,u)
   else if k=4 then match pvarF T fin z with
    | .error e=>.error e
    | .ok (b,u)=>.ok (⟨4,a,b,0⟩,u)
   else match ivarF T fin z with
    | .error e=>.error e
    | .ok (b,u)=>.ok (⟨k,a,b,0⟩,u)
def condsF:Nat→PS→Except Er (List Cd×PS)
 | 0,x=>.ok ([],x)
 | f+1,x =>
  if tkF T x.i=some [44] then
   match pcondF T fin { x with i:=x.i+1 } with
   | .error e=>.error e
   | .ok (c,y)=>match condsF f y with
    | .error e=>.error e
    | .ok (l,z)=>.ok (c::l,z)
  else .ok ([],x)
def ifF (f:Nat) (x:PS):Except Er (List Cd×PS) :=
 if tkF T x.i=some [105,102] then
  match pcondF T fin { x with i:=x.i+1 } with
  | .error e=>.error e
  | .ok (c,y)=>match condsF T fin f y with
   | .error e=>.error e
   | .ok (l,z)=>.ok (c::l,z)
 else .ok ([],x)
def anyF:PS→Except Er (Bs×PS):=wrdF T fin fun s x=>some (s,x)
def ruleF (x:PS):Except Er (Rl×PS) :=
 match anyF T fin { x with vs:=[],ms:=[] } with
 | .error e=>.error e
 | .ok (s,x1)=>match expF T fin [58] x1 with
  | .error e=>.error e
  | .ok x2=>match termF T fin true (T.length+1) x2 with
   | .error e=>.error e
   | .ok (l,x3)=>match expF T fin [61,62] x3 with
    | .error e=>.error e
    | .ok x4=>match termF T fin false (T.length+1) x4 with
     | .error e=>.error e
     | .ok (r,x5)=>match ifF T fin (T.length+1) x5 with
      | .error e=>.error e
      | .ok (cs,x6)=>match expF T fin [59] x6 with
       | .error e=>.error e
       | .ok x7=>.ok (⟨⟨s.toArray⟩,l,r,cs,x7.vs.length,x7.ms.length⟩,x7)
def itemF (ax:Bs→Option Rl) (x:PS):Except Er ((Option Rl×Nat)×PS) :=
 if tkF T x.i=some [97,120,105,111,109] then
  match anyF T fin { x with i:=x.i+1 } with
  | .error e=>.error e
  | .ok (s,y)=>match expF T fin [59] y with
   | .error e=>.error e
   | .ok z=>.ok ((ax s,offF T fin (x.i+1)),z)
 else match expF T fin [114,117,108,101] x with
  | .error e=>.error e
  | .ok y=>match ruleF T fin y with
   | .error e=>.error e
   | .ok (r,z)=>.ok ((some r,offF T fin y.i),z)
def loopF (ax:Bs→Option Rl) (n:Nat):Nat→PS→List Rl→Except Er (List Rl)
 | 0,x,_=>.error (serr T fin x.i)
 | f+1,x,out =>
  if offF T fin x.i<n then
   match itemF T fin ax x with
   | .error e=>.error e
   | .ok ((o,pos),y)=>match o with
    | none=>.error (3,pos)
    | some r =>
     if implF r=false then .error (1,pos)
     else if out.any (fun q=>decide (q.name=r.name)) then .error (4,pos)
     else if out.length=160 then .error (6,pos)
     else loopF ax n f y (out++[r])
  else .ok out
end
def parseG (ax:Bs→Option Rl) (s:Bs):Except Er (List Rl) :=
 if 20000<s.length then .error (6,20000)
 else loopF (goodT (toksF s)) (finT (toksF s)) ax s.length (s.length+1) ⟨0,[],[]⟩ []
def axL:List (Bs×Bs) :=
 [([100,105,118,45,111,110,101],[40,100,105,118,32,63,97,32,49,41,32,61,62,32,63,97]),
 ([100,105,118,45,115,101,108,102],[40,100,105,118,32,63,97,32,63,97,41,32,61,62,32,49,32,105,102,32,110,111,110,122,101,114,111,32,63,97]),
 ([100,105,118,45,109,105,110,117,115],[40,100,105,118,32,63,97,32,45,49,41,32,61,62,32,40,110,101,103,32,63,97,41]),
 ([100,105,118,45,122,101,114,111],[40,100,105,118,32,48,32,63,97,41,32,61,62,32,48]),
 ([114,101,109,45,111,110,101],[40,114,101,109,32,63,97,32,49,41,32,61,62,32,48]),
 ([114,101,109,45,115,101,108,102],[40,114,101,109,32,63,97,32,63,97,41,32,61,62,32,48]),
 ([114,101,109,45,100,105,118],[40,114,101,109,32,63,97,32,63,98,41,32,61,62,32,40,115,117,98,32,63,97,32,40,109,117,108,32,40,100,105,118,32,63,97,32,63,98,41,32,63,98,41,41,32,105,102,32,110,111,110,122,101,114,111,32,63,98]),
 ([110,101,101,100,45,116,114,117,101],[40,110,101,101,100,46,107,32,63,97,32,63,98,41,32,61,62,32,63,97,32,105,102,32,110,111,110,122,101,114,111,32,63,98]),
 ([110,101,101,100,45,116,119,105,99,101],[40,110,101,101,100,46,107,32,40,110,101,101,100,46,107,32,63,97,32,63,98,41,32,63,98,41,32,61,62,32,40,110,101,101,100,46,107,32,63,97,32,63,98,41]),
 ([108,111,97,100,45,115,116,111,114,101],[40,108,111,97,100,46,107,32,40,115,116,111,114,101,46,107,32,63,97,32,63,98,32,63,99,41,32,63,98,41,32,61,62,32,63,99,32,105,102,32,105,110,115,105,100,101,32,63,98,32,107]),
 ([108,111,97,100,45,97,112,97,114,116],[40,108,111,97,100,46,107,32,40,115,116,111,114,101,46,107,32,63,97,32,63,98,32,63,99,41,32,63,100,41,32,61,62,32,40,108,111,97,100,46,107,32,63,97,32,63,100,41,32,105,102,32,97,112,97,114,116,32,63,98,32,63,100]),
 ([108,111,97,100,45,111,116,104,101,114],[40,108,111,97,100,46,107,32,40,115,116,111,114,101,46,108,32,63,97,32,63,98,32,63,99,41,32,63,100,41,32,61,62,32,40,108,111,97,100,46,107,32,63,97,32,63,100,41,32,105,102,32,117,110,108,105,107,101,32,107,32,108]),
 ([108,111,97,100,45,110,101,101,100],[40,108,111,97,100,46,107,32,40,110,101,101,100,46,108,32,63,97,32,63,98,41,32,63,99,41,32,61,62,32,40,108,111,97,100,46,107,32,63,97,32,63,99,41]),
 ([108,111,97,100,45,111,117,116],[40,108,111,97,100,46,107,32,40,111,117,116,32,63,97,32,63,98,41,32,63,99,41,32,61,62,32,40,108,111,97,100,46,107,32,63,97,32,63,99,41]),
 ([115,116,111,114,101,45,115,116,111,114,101],[40,115,116,111,114,101,46,107,32,40,115,116,111,114,101,46,107,32,63,97,32,63,98,32,63,99,41,32,63,98,32,63,100,41,32,61,62,32,40,115,116,111,114,101,46,107,32,63,97,32,63,98,32,63,100,41]),
 ([115,116,111,114,101,45,115,119,97,112],[40,115,116,111,114,101,46,107,32,40,115,116,111,114,101,46,107,32,63,97,32,63,98,32,63,99,41,32,63,100,32,63,101,41,32,61,62,32,40,115,116,111,114,101,46,107,32,40,115,116,111,114,101,46,107,32,63,97,32,63,100,32,63,101,41,32,63,98,32,63,99,41,32,105,102,32,97,112,97,114,116,32,63,98,32,63,100]),
 ([115,116,111,114,101,45,108,111,97,100],[40,115,116,111,114,101,46,107,32,63,97,32,63,98,32,40,108,111,97,100,46,107,32,63,97,32,63,98,41,41,32,61,62,32,63,97]),
 ([115,116,111,114,101,45,110,101,101,100],[40,110,101,101,100,46,108,32,40,115,116,111,114,101,46,107,32,63,97,32,63,98,32,63,99,41,32,63,100,41,32,61,62,32,40,115,116,111,114,101,46,107,32,40,110,101,101,100,46,108,32,63,97,32,63,100,41,32,63,98,32,63,99,41]),
 ([115,116,111,114,101,45,111,117,116],[40,111,117,116,32,40,115,116,111,114,101,46,107,32,63,97,32,63,98,32,63,99,41,32,63,100,41,32,61,62,32,40,115,116,111,114,101,46,107,32,40,111,117,116,32,63,97,32,63,100,41,32,63,98,32,63,99,41]),
 ([114,101,116,45,110,101,101,100],[40,114,101,116,32,40,110,101,101,100,46,107,32,63,97,32,63,98,41,41,32,61,62,32,40,114,101,116,32,63,97,41]),
 ([114,101,116,45,111,117,116],[40,114,101,116,32,40,111,117,116,32,63,97,32,63,98,41,41,32,61,62,32,40,114,101,116,32,63,97,41]),
 ([114,101,116,45,115,116,111,114,101],[40,114,101,116,32,40,115,116,111,114,101,46,107,32,63,97,32,63,98,32,63,99,41,41,32,61,62,32,40,114,101,116,32,63,97,41])]
def axText (s:Bs):Option Bs:=(axL.find? fun x=>decide (x.1=s)).map (·.2)
def axiomF (s:Bs):Option Rl :=
 match axText s with
 | none=>none
 | some t=>match parseG (fun _=>none) ([114,117,108,101,32]++s++[58,32]++t++[59]) with
  | .ok [r]=>some r
  | _=>none
theorem T_u8s:SlT Tryz.prog 84 5 1 1:=by
 obtain ⟨i,h1,h2,h3,h4⟩:=info_parts (show (Tryz.prog.info? 5).map (fun i=>(i.zero,i.size,i.bytes))=some (some (.int .u8 0),1,1) from by kernel_rfl)
 exact ⟨Tryz.underlying84,⟨i,_,h1,h2,h3,h4,rfl⟩,by omega⟩
theorem zero_u8:(Tryz.prog.info? 5).bind (·.zero)=some (.int .u8 0):=by kernel_rfl
def u8s (l:List UInt8):List Value:=l.map fun x=>Value.int .u8 (x.toNat:Int)
def kstr (l:List UInt8):ByteArray:=⟨l.toArray⟩
theorem kx_kstr (l:List UInt8):kx (kstr l)=l:=kx_mk l
theorem kstr_size (l:List UInt8):(kstr l).size=l.length:=by rw [←kx_len,kx_kstr]
theorem bstr_u8 (l:List UInt8):bstr (l.map fun x=>(x.toNat:Int))=kstr l:=by
 unfold bstr kstr
 congr 2
 rw [List.map_map]
 conv=>rhs;rw [←List.map_id l]
 refine List.map_congr_left fun x _=>?_
 simp
theorem run_at_str {s:ByteArray} {n i:Nat} (h:s.size=n) (hi:i<n) (w:World):(Instr.index 9 (.string s) (.int .i64 (i:Int))).run Tryz.prog w=.ok (.int .u8 (((kx s).getD i 0).toNat:Int)) w:=by
 rw [run_index_string w 9 s .i64 i Tryz.underlying9,dif_pos (by omega)]
 congr 3
 have : i<(kx s).length:=by rw [kx_len];omega
 simp only [List.getD,List.getElem?_eq_getElem this,Option.getD_some,Int.toNat_natCast];simp [kx,ByteArray.getElem_eq_getElem_data]
theorem kstr_inj {a b:List UInt8}:kstr a=kstr b↔a=b:=⟨fun h=>by have:=congrArg kx h;simpa [kx_kstr] using this,fun h=>by rw [h]⟩
theorem str_beq (a b:List UInt8):((kstr a).toList==(kstr b).toList)=decide (a=b):=by
 rw [Bool.eq_iff_iff,beq_iff_eq,decide_eq_true_eq,ByteArray.toList_eq,ByteArray.toList_eq];simp [kstr]
theorem isCm_drop (l:Bs) (k:Nat):isCm (l.drop k)=decide (k+1<l.length∧(l.getD k 0).toNat=47∧(l.getD (k+1) 0).toNat=47):=by
 by_cases h:k+1<l.length
 ·have h0:k<l.length:=by omega
  rw [List.drop_eq_getElem_cons h0,List.drop_eq_getElem_cons h];simp only [isCm,List.getD,List.getElem?_eq_getElem h,List.getElem?_eq_getElem h0,Option.getD_some,h,true_and]
 ·have hl:(l.drop k).length≤1:=by rw [List.length_drop];omega
  rw [dF_ (fun q=>h q.1)]
  match hd:l.drop k,hl with
  | [],_=>rfl
  | [_],_=>rfl
  | _::_::_,hl=>simp at hl
theorem kstr_extract (s:ByteArray) (i j:Nat):s.extract i j=kstr (((kx s).drop i).take (j - i)):=by
 apply kx_inj;rw [kx_kstr];simp [kx,ByteArray.data_extract,Array.toList_extract,List.extract_eq_take_drop]
theorem run_sub_str {s:ByteArray} {n i j:Nat} (h:s.size=n) (hij:i≤j) (hj:j≤n) (w:World):(Instr.slice 9 (.string s) (some (.int .i64 (i:Int))) (some (.int .i64 (j:Int))) none).run Tryz.prog w=.ok (.string (kstr (((kx s).drop i).take (j - i)))) w:=by
 rw [run_slice_string_if w 9 s .i64 .i64 i j Tryz.underlying9,if_pos (by omega),if_pos (by omega),kstr_extract];simp only [Int.toNat_natCast]
theorem tokL_fuel:∀(f g:Nat) (l:Bs) (o:Nat),l.length<f→l.length<g→tokL f l o=tokL g l o:=by
 intro f
 induction f with
 | zero=>intro g l o h;omega
 | succ f ih =>
  intro g l o hf hg;obtain ⟨g,rfl⟩:∃g',g=g'+1:=⟨g - 1,by omega⟩
  match l with
  | []=>rfl
  | c::r =>
   simp only [List.length_cons] at hf hg;simp only [tokL]
   split
   ·exact ih g r _ (by omega) (by omega)
   ·rename_i hs
    split
    ·rename_i hc
     have h1:1≤clen (c::r):=by
      unfold clen;rw [if_neg (fun q=>hs (by unfold isSp;exact dT_ (by omega)))];omega
     exact ih g _ _ (by rw [List.length_drop,List.length_cons];omega) (by rw [List.length_drop,List.length_cons];omega)
    ·rename_i hc
     split
     ·rw [ih g r _ (by omega) (by omega)]
     ·rename_i hp
      have h1:1≤wlen (c::r):=by
       unfold wlen;simp only [Bool.or_eq_true,decide_eq_true_eq,not_or] at hp
       rw [if_pos (by
        simp only [wordCh,Bool.and_eq_true,decide_eq_true_eq,Bool.not_eq_true']
        exact ⟨⟨by omega,by simpa using hp.1.1⟩,by simpa using hc⟩)]
       omega
      rw [ih g _ _ (by rw [List.length_drop,List.length_cons];omega) (by rw [List.length_drop,List.length_cons];omega)]
theorem drop_cons {l:Bs} {k:Nat} (h:k<l.length):l.drop k=l.getD k 0::l.drop (k+1):=by
 rw [List.drop_eq_getElem_cons h,getD_of h]
theorem clen_step {l:Bs} {k:Nat} (h:k<l.length):clen (l.drop k)=if (l.getD k 0).toNat=10 then 0 else clen (l.drop (k+1))+1:=by rw [drop_cons h];rfl
theorem wlen_cons (c:UInt8) (r:Bs):wlen (c::r)=if wordCh c&&!isCm (c::r) then wlen r+1 else 0:=rfl
theorem wlen_step {l:Bs} {k:Nat} (h:k<l.length):wlen (l.drop k)=if wordCh (l.getD k 0)&&!isCm (l.drop k) then wlen (l.drop (k+1))+1 else 0:=by
 conv=>lhs;rw [drop_cons h,wlen_cons,←drop_cons h]
section
variable {s:Bs} {n k j:Nat}
theorem tok_sp (hn:s.length=n) (hk:k<n) (h:isSp (s.getD k 0)=true):tokL (n - k+1) (s.drop k) k=tokL (n - (k+1)+1) (s.drop (k+1)) (k+1):=by
 rw [drop_cons (by omega:k<s.length)];simp only [tokL,h,if_true];rw [show n - (k+1)+1=n - k by omega]
theorem tok_cm (hn:s.length=n) (hk:k<n) (h1:isSp (s.getD k 0)=false) (h2:isCm (s.drop k)=true) (hkj:k≤j) (hj:clen (s.drop k)=j - k) :
  k<j∧tokL (n - k+1) (s.drop k) k=tokL (n - j+1) (s.drop j) j:=by
 have hd:=drop_cons (by omega:k<s.length)
 have hc:1≤clen (s.drop k):=by
  rw [hd];unfold clen;rw [if_neg (fun q=>by unfold isSp at h1;rw [decide_eq_false_iff_not] at h1;omega)];omega
 refine ⟨by omega,?_⟩;have e:(s.drop k).drop (clen (s.drop k))=s.drop j:=by rw [List.drop_drop,hj];congr 1;omega
 have e2:tokL (n - k+1) (s.drop k) k=tokL (n - k) ((s.drop k).drop (clen (s.drop k))) (k+clen (s.drop k)):=by
  rw [hd] at h2 ⊢;simp only [tokL,h1,h2,Bool.false_eq_true,if_false,if_true]
 rw [e2,e,hj,show k+(j - k)=j by omega];exact tokL_fuel _ _ _ _ (by rw [List.length_drop];omega) (by rw [List.length_drop];omega)
theorem tok_pn (hn:s.length=n) (hk:k<n) (h1:isSp (s.getD k 0)=false) (h2:isCm (s.drop k)=false) (h3:(isPn (s.getD k 0) || decide ((s.getD k 0).toNat<33) || decide (126<(s.getD k 0).toNat))=true) :
  tokL (n - k+1) (s.drop k) k=⟨[s.getD k 0],k,!isPn (s.getD k 0)⟩::tokL (n - (k+1)+1) (s.drop (k+1)) (k+1):=by
 rw [drop_cons (by omega:k<s.length)] at h2 ⊢;simp only [tokL,h1,h2,h3,Bool.false_eq_true,if_false,if_true];rw [show n - (k+1)+1=n - k by omega]
theorem tok_wd (hn:s.length=n) (hk:k<n) (h1:isSp (s.getD k 0)=false) (h2:isCm (s.drop k)=false) (h3:(isPn (s.getD k 0) || decide ((s.getD k 0).toNat<33) || decide (126<(s.getD k 0).toNat))=false) (hkj:k≤j) (hj:wlen (s.drop k)=j - k) :
  k<j∧tokL (n - k+1) (s.drop k) k=⟨(s.drop k).take (j - k),k,false⟩::tokL (n - j+1) (s.drop j) j:=by
 have hks:k<s.length:=by omega
 have hc:1≤wlen (s.drop k):=by
  rw [wlen_step hks,h2];simp only [Bool.or_eq_false_iff,decide_eq_false_iff_not] at h3
  rw [if_pos (by
   simp only [wordCh,Bool.and_eq_true,decide_eq_true_eq,Bool.not_eq_true',Bool.not_false,and_true]
   exact ⟨⟨by omega,by omega⟩,h3.1.1⟩)]
  omega
 refine ⟨by omega,?_⟩;have e:(s.drop k).drop (wlen (s.drop k))=s.drop j:=by rw [List.drop_drop,hj];congr 1;omega
 have e2:tokL (n - k+1) (s.drop k) k=⟨(s.drop k).take (wlen (s.drop k)),k,false⟩::tokL (n - k) ((s.drop k).drop (wlen (s.drop k))) (k+wlen (s.drop k)):=by
  have hd:=drop_cons hks;rw [hd] at h2 ⊢;simp only [tokL,h1,h2,h3,Bool.false_eq_true,if_false]
 rw [e2,e,hj,show k+(j - k)=j by omega]
 congr 1
 exact tokL_fuel _ _ _ _ (by rw [List.length_drop];omega) (by rw [List.length_drop];omega)
theorem tok_end (hn:s.length=n):tokL (n - n+1) (s.drop n) n=[⟨[],n,true⟩]:=by
 rw [List.drop_of_length_le (by omega)];simp only [tokL]
theorem clen_end (hn:s.length=n):clen (s.drop n)=0:=by rw [List.drop_of_length_le (by omega)];rfl
theorem wlen_end (hn:s.length=n):wlen (s.drop n)=0:=by rw [List.drop_of_length_le (by omega)];rfl
end
theorem xIsDelim_c (c:UInt8) (w:World):Calls Tryz.prog 124 #[.int .u8 c.toNat] w fun e w'=>e=.returned (.bool (isPn c))∧w'=w:=by
 have HR:Hid (isPn c=decide (c.toNat=40∨c.toNat=41∨c.toNat=59∨c.toNat=58∨c.toNat=44)):=rfl;obtain ⟨R,HRR⟩:=nm (isPn c);rw [HRR.out] at HR ⊢;obtain ⟨x,Hx⟩:=nm c.toNat;rw [Hx.out] at HR ⊢;by_cases h1:x=40
 ·have f1:((x:Int)==40)=true:=by rw [h1];rfl
  obtain rfl:R=true:=by rw [HR.out];exact dT_ (by omega)
  clear h1;go_enter Tryz.func124,Tryz.ntmps124;go_wp2_with fail
  go_ret;exact ⟨rfl,rfl⟩
 ·have f1:((x:Int)==40)=false:=by simp;omega
  by_cases h2:x=41
  ·have f2:((x:Int)==41)=true:=by rw [h2];rfl
   obtain rfl:R=true:=by rw [HR.out];exact dT_ (by omega)
   clear h1 h2;go_enter Tryz.func124,Tryz.ntmps124;go_wp2_with fail
   go_ret;exact ⟨rfl,rfl⟩
  ·have f2:((x:Int)==41)=false:=by simp;omega
   by_cases h3:x=59
   ·have f3:((x:Int)==59)=true:=by rw [h3];rfl
    obtain rfl:R=true:=by rw [HR.out];exact dT_ (by omega)
    clear h1 h2 h3;go_enter Tryz.func124,Tryz.ntmps124;go_wp2_with fail
    go_ret;exact ⟨rfl,rfl⟩
   ·have f3:((x:Int)==59)=false:=by simp;omega
    by_cases h4:x=58
    ·have f4:((x:Int)==58)=true:=by rw [h4];rfl
     obtain rfl:R=true:=by rw [HR.out];exact dT_ (by omega)
     clear h1 h2 h3 h4;go_enter Tryz.func124,Tryz.ntmps124;go_wp2_with fail
     go_ret;exact ⟨rfl,rfl⟩
    ·have f4:((x:Int)==58)=false:=by simp;omega
     obtain ⟨b,f5⟩:∃b,((x:Int)==44)=b:=⟨_,rfl⟩
     obtain rfl:R=b:=by
      rw [HR.out,←f5,Bool.eq_iff_iff];simp only [beq_iff_eq,decide_eq_true_eq];omega
     clear h1 h2 h3 h4;go_enter Tryz.func124,Tryz.ntmps124;go_wp2_with fail
     go_ret;exact ⟨rfl,rfl⟩
def xtcells (L:List (Bs×Nat)):List Value:=L.flatMap fun t=>[.string (kstr t.1),.int .i64 t.2]
theorem xtcells_snoc (L:List (Bs×Nat)) (s:Bs) (n:Nat):xtcells (L++[(s,n)])=xtcells L++[.string (kstr s),.int .i64 n]:=by simp [xtcells]
theorem T_xtoks:SlT Tryz.prog 110 174 2 24:=by
 obtain ⟨i,h1,h2,h3,h4⟩:=info_parts (show (Tryz.prog.info? 174).map (fun i=>(i.zero,i.size,i.bytes))=some (some (.agg #[.string ⟨#[]⟩,.int .i64 0]),2,24) from by kernel_rfl)
 exact ⟨Tryz.underlying110,⟨i,_,h1,h2,h3,h4,rfl⟩,by omega⟩
def gf (l:List Tok):List (Bs×Nat)×Nat:=(goodT l,finT l)
theorem gf_good (s:Bs) (n:Nat) (l:List Tok):gf (⟨s,n,false⟩::l)=((s,n)::(gf l).1,(gf l).2):=rfl
theorem gf_bad (s:Bs) (n:Nat) (l:List Tok):gf (⟨s,n,true⟩::l)=([],n):=rfl
set_option maxRecDepth 100000 in
set_option maxHeartbeats 4000000 in
theorem xTokens_c (s:ByteArray) (w:World) (hs:s.size≤100000000000) :
  Calls Tryz.prog 63 #[.string s] w fun e w'=>∃(A:Option Addr) (c:Nat) (m:Int),e=.returned (.tuple #[.slice A (goodT (toksF (kx s))).length c,.int .i64 m])∧Own w' 174 2 A (goodT (toksF (kx s))).length c (xtcells (goodT (toksF (kx s))))∧(∀k,At A k→w.heap.size≤k)∧(goodT (toksF (kx s))).length≤s.size∧finT (toksF (kx s))≤s.size∧m=(if finT (toksF (kx s))<s.size then (finT (toksF (kx s)):Int) else -1)∧Upd Non w w':=by
 obtain ⟨n,Hn⟩:=nm s.size;have hn:=Hn.out;have hkn:(kx s).length=n:=by rw [kx_len,hn]
 rw [hn] at hs ⊢;have HKN:=h_ hkn;clear hkn;obtain ⟨GT,HGT⟩:=nm (goodT (toksF (kx s)));obtain ⟨FT,HFT⟩:=nm (finT (toksF (kx s)));rw [HGT.out,HFT.out];have HG:Hid (gf (toksF (kx s))=(GT,FT)):=by show _=_;unfold gf;rw [HGT.out,HFT.out]
 clear HGT HFT;obtain ⟨mv,Hmv⟩:=nm (if FT<n then (FT:Int) else -1);rw [Hmv.out];go_enter Tryz.func63,Tryz.ntmps63;go_wp2_with fail
 go_loopg [4,5] (n+1) (fun g l p wr=>∃(k:Nat) (A:Option Addr) (c:Nat) (L:List (Bs×Nat)),Hid (g=n+1 - k)∧k≤n∧p=.int .i64 k∧l=.slice A L.length c∧Own wr 174 2 A L.length c (xtcells L)∧(∀j,At A j→w.heap.size≤j)∧Hid ((L++(gf (tokL (n - k+1) ((kx s).drop k) k)).1,(gf (tokL (n - k+1) ((kx s).drop k) k)).2)=(GT,FT))∧L.length≤k∧Upd Non w wr)
 case atStart =>
  refine ⟨0,none,0,[],rfl,by omega,rfl,rfl,Own.none_,fun j h=>(At.none_ h).elim,?_,by simp,Upd.refl⟩;show _=_;rw [List.nil_append,List.drop_zero,←HG.out];unfold toksF;rw [HKN.out];rfl
 case round =>
  obtain ⟨k,A,c,L,Hg,hk,rfl,rfl,ho,hA,HT,hLk,hu⟩:=hrel;obtain ⟨W,rfl⟩:∃x:World,x=wr:=⟨_,rfl⟩;by_cases hlt:k<n
  ·have ti:decide ((k:Int)<(n:Int))=true:=dT_ (by omega);have hkl:k<(kx s).length:=by rw [HKN.out];exact hlt
   have i1:=fun W=>run_at_str Hn.out hlt W
   have hdr:=h_ (drop_cons hkl);obtain ⟨ch,HC⟩:=nm ((kx s).getD k 0);rw [HC.out] at i1 hdr;obtain ⟨x,Hx⟩:=nm ch.toNat;rw [Hx.out] at i1;have hx256:x<256:=by rw [←Hx.out];exact ch.toNat_lt
   have HSP:Hid (isSp ch=decide (x=32∨x=9∨x=10∨x=13)):=by show _=_;rw [←Hx.out];rfl
   obtain ⟨R,HR⟩:=nm (isSp ch);rw [HR.out] at HSP
   go_upto_region 6 with fail
   go_cut [17] (fun s wx=>s=.bool R∧wx=W)
   case first =>
    by_cases h1:x=32
    ·have f1:((x:Int)==32)=true:=by rw [h1];rfl
     obtain rfl:R=true:=by rw [HSP.out];exact dT_ (by omega)
     clear h1;go_wp2_with fail
     go_meet
     case rel=>exact ⟨rfl,rfl⟩
    ·have f1:((x:Int)==32)=false:=by simp;omega
     by_cases h2:x=9
     ·have f2:((x:Int)==9)=true:=by rw [h2];rfl
      obtain rfl:R=true:=by rw [HSP.out];exact dT_ (by omega)
      clear h1 h2;go_wp2_with fail
      go_meet
      case rel=>exact ⟨rfl,rfl⟩
     ·have f2:((x:Int)==9)=false:=by simp;omega
      by_cases h3:x=10
      ·have f3:((x:Int)==10)=true:=by rw [h3];rfl
       obtain rfl:R=true:=by rw [HSP.out];exact dT_ (by omega)
       clear h1 h2 h3;go_wp2_with fail
       go_meet
       case rel=>exact ⟨rfl,rfl⟩
      ·have f3:((x:Int)==10)=false:=by simp;omega
       obtain ⟨b,f4⟩:∃b,((x:Int)==13)=b:=⟨_,rfl⟩
       obtain rfl:R=b:=by
        rw [HSP.out,←f4,Bool.eq_iff_iff];simp only [beq_iff_eq,decide_eq_true_eq];omega
       clear h1 h2 h3;go_wp2_with fail
       go_meet
       case rel=>exact ⟨rfl,rfl⟩
   case rest =>
    obtain ⟨rfl,rfl⟩:=hcut
    cases R with
    | true =>
     have HT2:Hid ((L++(gf (tokL (n - (k+1)+1) ((kx s).drop (k+1)) (k+1))).1,(gf (tokL (n - (k+1)+1) ((kx s).drop (k+1)) (k+1))).2)=(GT,FT)):=by
      show _=_;rw [←HT.out,tok_sp HKN.out hlt (by rw [HC.out];exact HR.out)]
     clear hdr HT HSP;go_wp2_with fail
     go_roundg (n+1 - (k+1))
     case measure=>rw [Hg.out];omega
     case rel=>exact ⟨k+1,A,c,L,rfl,by omega,by go_num,rfl,ho,hA,HT2,by omega,hu⟩
    | false =>
     have h1:isSp ((kx s).getD k 0)=false:=by rw [HC.out];exact HR.out
     have H1:=h_ h1;clear h1;obtain ⟨Q,HQ⟩:=nm (isCm ((kx s).drop k))
     have HQE:Hid (Q=decide (k+1<n∧x=47∧((kx s).getD (k+1) 0).toNat=47)):=by
      show _=_;rw [←HQ.out,isCm_drop,HKN.out,HC.out,Hx.out]
     clear HSP hdr HR
     go_upto_region 8 with fail
     go_cut [34] (fun s wx=>s=.bool Q∧wx=wc)
     case first =>
      clear H1 HQ HT hA ho hu;by_cases h47:x=47
      ·have f1:((x:Int)==47)=true:=by rw [h47];rfl
       by_cases hk1:k+1<n
       ·have f0:decide ((k:Int)+1<(n:Int))=true:=dT_ (by omega);have i2:=fun W=>run_at_str Hn.out hk1 W
        rw [show ((k+1:Nat):Int)=(k:Int)+1 by omega] at i2;generalize ((kx s).getD (k+1) 0).toNat=b at i2 HQE;obtain ⟨z,f2⟩:∃z,((b:Int)==47)=z:=⟨_,rfl⟩
        obtain rfl:Q=z:=by
         rw [HQE.out,←f2,Bool.eq_iff_iff];simp only [beq_iff_eq,decide_eq_true_eq];omega
        clear h47 HQE;go_wp2_with fail
        go_meet
        case rel=>exact ⟨rfl,rfl⟩
       ·have f0:decide ((k:Int)+1<(n:Int))=false:=dF_ (by omega);obtain rfl:Q=false:=by rw [HQE.out];exact dF_ (by omega)
        clear h47 HQE;go_wp2_with fail
        go_meet
        case rel=>exact ⟨rfl,rfl⟩
      ·have f1:((x:Int)==47)=false:=by simp;omega
       obtain rfl:Q=false:=by rw [HQE.out];exact dF_ (by omega)
       clear h47 HQE;go_wp2_with fail
       go_meet
       case rel=>exact ⟨rfl,rfl⟩
     case rest =>
      obtain ⟨rfl,hwc⟩:=hcut;subst hwc;clear HQE
      cases Q with
      | true =>
       go_wp2_with fail
       go_loopg [5] (n+1 - k) (fun g p wr=>∃j:Nat,Hid (g=n+1 - j)∧k≤j∧j≤n∧p=.int .i64 j∧Hid (clen ((kx s).drop k)=(j - k)+clen ((kx s).drop j))∧wr=wc)
       case atStart=>exact ⟨k,rfl,Nat.le_refl _,hk,rfl,by show _=_;omega,rfl⟩
       case round =>
        obtain ⟨j,Hj,hkj,hj,rfl,HL,rfl⟩:=hrel;by_cases hlj:j<n
        ·have tj:decide ((j:Int)<(n:Int))=true:=dT_ (by omega);have hjl:j<(kx s).length:=by rw [HKN.out];exact hlj
         have i2:=fun W=>run_at_str Hn.out hlj W
         have HS:=h_ (clen_step hjl);generalize ((kx s).getD j 0).toNat=y at i2 HS;by_cases hy:y=10
         ·have fy:((y:Int) != 10)=false:=by rw [hy];rfl
          have HE0:Hid (clen ((kx s).drop j)=0):=by show _=_;rw [HS.out,if_pos hy]
          clear hy HS;have HE:Hid (clen ((kx s).drop j)=0):=HE0;have hcl:clen ((kx s).drop k)=j - k:=by rw [HL.out,HE.out];rfl
          obtain ⟨hkj2,htk⟩:=tok_cm HKN.out hlt H1.out HQ.out hkj hcl;have HT2:Hid ((L++(gf (tokL (n - j+1) ((kx s).drop j) j)).1,(gf (tokL (n - j+1) ((kx s).drop j) j)).2)=(GT,FT)):=by show _=_;rw [←HT.out,htk]
          clear HE HE0 hcl htk HT HL;go_wp2_with fail
          go_roundg (n+1 - j)
          case measure=>rw [Hg.out];omega
          case rel=>exact ⟨j,A,c,L,rfl,hj,rfl,rfl,ho,hA,HT2,by omega,hu⟩
         ·have fy:((y:Int) != 10)=true:=by simp;omega
          have HL2:Hid (clen ((kx s).drop k)=(j+1 - k)+clen ((kx s).drop (j+1))):=by show _=_;rw [HL.out,HS.out,if_neg hy];omega
          clear hy HS HL;go_wp2_with fail
          go_roundg (n+1 - (j+1))
          case measure=>rw [Hj.out];omega
          case rel=>exact ⟨j+1,rfl,by omega,by omega,by go_num,HL2,rfl⟩
        ·have HJN:Hid (j=n):=by show _=_;omega
         have tj:decide ((j:Int)<(n:Int))=false:=dF_ (by omega);have HE0:Hid (clen ((kx s).drop j)=0):=by rw [HJN.out];exact clen_end HKN.out
         have HE:Hid (clen ((kx s).drop j)=0):=HE0;have hcl:clen ((kx s).drop k)=j - k:=by rw [HL.out,HE.out];rfl
         obtain ⟨hkj2,htk⟩:=tok_cm HKN.out hlt H1.out HQ.out hkj hcl;have HT2:Hid ((L++(gf (tokL (n - j+1) ((kx s).drop j) j)).1,(gf (tokL (n - j+1) ((kx s).drop j) j)).2)=(GT,FT)):=by show _=_;rw [←HT.out,htk]
         clear HE HE0 hcl htk HT HL;go_wp2_with fail
         go_roundg (n+1 - j)
         case measure=>rw [Hg.out];omega
         case rel=>exact ⟨j,A,c,L,rfl,hj,rfl,rfl,ho,hA,HT2,by omega,hu⟩
      | false =>
       obtain ⟨pn,Hpn⟩:=nm (isPn ch);have CP:=h_ (fun W=>xIsDelim_c ch W);rw [Hpn.out,Hx.out] at CP;have CP1:=h_ (CP.out wc);have h3:(isPn ((kx s).getD k 0) || decide (((kx s).getD k 0).toNat<33) || decide (126<((kx s).getD k 0).toNat))=(pn || decide (x<33) || decide (126<x)):=by rw [HC.out,Hx.out,Hpn.out]
       have H3:=h_ h3;obtain ⟨m,Hm⟩:=nm L.length;have ho1:Own wc 174 2 A m c (xtcells L):=by rw [←Hm.out];exact ho
       have hwA:w.heap.size≤wc.heap.size:=hu.size;rw [Hm.out] at hLk ⊢;clear h3 ho;go_wp2_with fail
       refine CP1.out.mono ?_;rintro e w2 ⟨rfl,rfl⟩;clear CP1
       cases pn with
       | true =>
        have hsl:=fun W=>run_sub_str Hn.out (show k≤k+1 by omega) (show k+1≤n by omega) W
        rw [show ((k+1:Nat):Int)=(k:Int)+1 by omega,show ((kx s).drop k).take (k+1 - k)=[ch] by rw [drop_cons hkl,HC.out,show k+1 - k=1 by omega];rfl] at hsl
        have HT2:Hid (((L++[([ch],k)])++(gf (tokL (n - (k+1)+1) ((kx s).drop (k+1)) (k+1))).1,(gf (tokL (n - (k+1)+1) ((kx s).drop (k+1)) (k+1))).2)=(GT,FT)):=by
         show _=_;rw [←HT.out,tok_pn HKN.out hlt H1.out HQ.out H3.out,HC.out,Hpn.out,Bool.not_true,gf_good,List.append_assoc];rfl
        clear CP i1 HT
        go_wp2_with (at_builtin;refine wpList_app rfl rfl T_xtoks rfl (ho1.alloc _) rfl (Sl.new _ _ _) rfl (by simp [Value.oneCell']) (by simp only [maxLen];omega) (by omega) ?_;intro A8 c8 w8 ho8 hu8 hat8)
        have e8:Own w8 174 2 A8 (L++[([ch],k)]).length c8 (xtcells (L++[([ch],k)])):=by
         rw [xtcells_snoc,List.length_append,Hm.out];exact ho8
        have hU8:Upd Non w w8:=(hu.alloc _).trans hu8 (fun i hi h=>by have:=hA i h;omega);have HO8:=h_ e8
        have HA8:Hid (∀j,At A8 j→w.heap.size≤j):=fun j h=>by
         rcases hat8 j h with h | h
         ·exact hA j h
         ·rw [h];simp;omega
        clear ho8 e8 hu8 hat8 ho1;go_wp2_with fail
        go_roundg (n+1 - (k+1))
        case measure=>rw [Hg.out];omega
        case rel=>exact ⟨k+1,A8,c8,L++[([ch],k)],rfl,by omega,by go_num,by rw [List.length_append,Hm.out];rfl,HO8.out,HA8.out,HT2,by rw [List.length_append,Hm.out,List.length_singleton];omega,hU8⟩
       | false =>
        obtain ⟨D,HD⟩:=nm (decide (32<x)&&decide (x<127))
        go_upto_region 14 with fail
        go_cut [78] (fun s wx=>s=.bool D∧wx=w2)
        case first =>
         clear H1 HQ HT hA ho1 hu H3;by_cases hx1:32<x
         ·have fx:decide ((32:Int)<(x:Int))=true:=dT_ (by omega);obtain ⟨z,fz⟩:∃z,decide ((x:Int)<127)=z:=⟨_,rfl⟩
          obtain rfl:D=z:=by
           rw [←HD.out,←fz];simp only [hx1,decide_true,Bool.true_and];rw [Bool.eq_iff_iff,decide_eq_true_eq,decide_eq_true_eq];omega
          clear hx1;go_wp2_with fail
          go_meet
          case rel=>exact ⟨rfl,rfl⟩
         ·have fx:decide ((32:Int)<(x:Int))=false:=dF_ (by omega);obtain rfl:D=false:=by rw [←HD.out];simp [hx1]
          go_wp2_with fail
          go_meet
          case rel=>exact ⟨rfl,rfl⟩
        case rest =>
         obtain ⟨rfl,hwc⟩:=hcut;subst hwc
         cases D with
         | false =>
          have hd:=HD.out
          have H3b:Hid ((isPn ((kx s).getD k 0) || decide (((kx s).getD k 0).toNat<33) || decide (126<((kx s).getD k 0).toNat))=true):=by
           show _=_;rw [H3.out];simp only [Bool.and_eq_false_iff,decide_eq_false_iff_not] at hd;simp only [Bool.or_eq_true,decide_eq_true_eq,Bool.false_or];omega
          have hT:=HT.out;rw [tok_pn HKN.out hlt H1.out HQ.out H3b.out,HC.out,Hpn.out,Bool.not_false,gf_bad,List.append_nil] at hT;injection hT with hT1 hT2
          have HT1:=h_ hT1;have HT2:=h_ hT2;clear hT1 hT2 hd HT;go_wp2_with fail
          go_ret2;refine ⟨A,c,(k:Int),by rw [←HT1.out,Hm.out];rfl,by rw [←HT1.out,Hm.out];exact ho1,hA,by rw [←HT1.out,Hm.out];omega,by rw [←HT2.out];omega,by rw [←Hmv.out,←HT2.out,if_pos hlt],hu⟩
         | true =>
          have hd:=HD.out
          have H3b:Hid ((isPn ((kx s).getD k 0) || decide (((kx s).getD k 0).toNat<33) || decide (126<((kx s).getD k 0).toNat))=false):=by
           show _=_;rw [H3.out];simp only [Bool.and_eq_true,decide_eq_true_eq] at hd;simp only [Bool.or_eq_false_iff,decide_eq_false_iff_not];exact ⟨⟨trivial,by omega⟩,by omega⟩
          clear hd CP i1;go_wp2_with fail
          go_loopg [7] (n+1 - k) (fun g p wr=>∃j:Nat,Hid (g=n+1 - j)∧k≤j∧j≤n∧p=.int .i64 j∧Hid (wlen ((kx s).drop k)=(j - k)+wlen ((kx s).drop j))∧wr=wc)
          case atStart=>exact ⟨k,rfl,Nat.le_refl _,hk,rfl,by show _=_;omega,rfl⟩
          case round =>
           obtain ⟨j,Hj,hkj,hj,rfl,HL,hwr⟩:=hrel;subst hwr;obtain ⟨E,HE⟩:=nm (decide (j<n)&&(wordCh ((kx s).getD j 0)&&!isCm ((kx s).drop j)))
           go_upto_region 16 with fail
           go_cut [128] (fun s wx=>s=.bool E∧wx=wr)
           case first =>
            clear ho1 hA HT H1 H3 H3b HQ hu HC Hx;by_cases hlj:j<n
            ·have tj:decide ((j:Int)<(n:Int))=true:=dT_ (by omega);have i2:=fun W=>run_at_str Hn.out hlj W
             rw [isCm_drop,HKN.out] at HE;generalize (kx s).getD j 0=cj at i2 HE;have CP2:=h_ (xIsDelim_c cj wr);have HW:Hid (wordCh cj=(decide (33≤cj.toNat∧cj.toNat≤126)&&!isPn cj)):=rfl;obtain ⟨pj,Hpj⟩:=nm (isPn cj);rw [Hpj.out] at CP2 HW;rw [HW.out] at HE;clear HW Hpj;generalize cj.toNat=y at i2 HE CP2;by_cases hy1:32<y
             ·have fy1:decide ((32:Int)<(y:Int))=true:=dT_ (by omega);by_cases hy2:y<127
              ·have fy2:decide ((y:Int)<127)=true:=dT_ (by omega)
               cases pj with
               | true =>
                obtain rfl:E=false:=by rw [←HE.out];simp
                clear HE;go_wp2_with fail
                refine CP2.out.mono ?_;rintro e w3 ⟨rfl,rfl⟩;go_wp2_with fail
                go_meet
                case rel=>exact ⟨rfl,rfl⟩
               | false =>
                have hy3:decide (33≤y∧y≤126)=true:=dT_ (by omega);rw [dT_ hlj,hy3] at HE;by_cases hy4:y=47
                ·have fy4:((y:Int) != 47)=false:=by rw [hy4];rfl
                 by_cases hj1:j+1<n
                 ·have fj:decide ((n:Int)≤(j:Int)+1)=false:=dF_ (by omega);have i3:=fun W=>run_at_str Hn.out hj1 W
                  rw [show ((j+1:Nat):Int)=(j:Int)+1 by omega] at i3;generalize ((kx s).getD (j+1) 0).toNat=b at i3 HE;obtain ⟨z,fz⟩:∃z,((b:Int) != 47)=z:=⟨_,rfl⟩
                  obtain rfl:E=z:=by
                   rw [←HE.out,←fz,hy4];simp only [hj1,true_and,Bool.true_and,Bool.not_false];rw [Bool.eq_iff_iff];simp only [Bool.not_eq_true',decide_eq_false_iff_not,bne_iff_ne,ne_eq];omega
                  clear HE hy4 hy3;go_wp2_with fail
                  refine CP2.out.mono ?_;rintro e w3 ⟨rfl,rfl⟩;go_wp2_with fail
                  go_meet
                  case rel=>exact ⟨rfl,rfl⟩
                 ·have fj:decide ((n:Int)≤(j:Int)+1)=true:=dT_ (by omega);obtain rfl:E=true:=by rw [←HE.out];simp [hj1]
                  clear HE hy4 hy3;go_wp2_with fail
                  refine CP2.out.mono ?_;rintro e w3 ⟨rfl,rfl⟩;go_wp2_with fail
                  go_meet
                  case rel=>exact ⟨rfl,rfl⟩
                ·have fy4:((y:Int) != 47)=true:=by simp;omega
                 obtain rfl:E=true:=by rw [←HE.out];simp [hy4]
                 clear HE hy4 hy3;go_wp2_with fail
                 refine CP2.out.mono ?_;rintro e w3 ⟨rfl,rfl⟩;go_wp2_with fail
                 go_meet
                 case rel=>exact ⟨rfl,rfl⟩
              ·have fy2:decide ((y:Int)<127)=false:=dF_ (by omega);obtain rfl:E=false:=by rw [←HE.out,dF_ (p:=33≤y∧y≤126) (by omega)];simp
               clear HE;go_wp2_with fail
               go_meet
               case rel=>exact ⟨rfl,rfl⟩
             ·have fy1:decide ((32:Int)<(y:Int))=false:=dF_ (by omega);obtain rfl:E=false:=by rw [←HE.out,dF_ (p:=33≤y∧y≤126) (by omega)];simp
              clear HE;go_wp2_with fail
              go_meet
              case rel=>exact ⟨rfl,rfl⟩
            ·have tj:decide ((j:Int)<(n:Int))=false:=dF_ (by omega);obtain rfl:E=false:=by rw [←HE.out];simp [hlj]
             clear HE;go_wp2_with fail
             go_meet
             case rel=>exact ⟨rfl,rfl⟩
           case rest =>
            obtain ⟨rfl,hwc⟩:=hcut;subst hwc
            cases E with
            | true =>
             have hd:=HE.out;simp only [Bool.and_eq_true,decide_eq_true_eq] at hd
             have HL2:Hid (wlen ((kx s).drop k)=(j+1 - k)+wlen ((kx s).drop (j+1))):=by
              show _=_;rw [HL.out,wlen_step (by rw [HKN.out];exact hd.1),if_pos (by simpa using hd.2)];omega
             have hj2:=hd.1;clear hd HE HL;go_wp2_with fail
             go_roundg (n+1 - (j+1))
             case measure=>rw [Hj.out];omega
             case rel=>exact ⟨j+1,rfl,by omega,by omega,by go_num,HL2,rfl⟩
            | false =>
             have hcl:wlen ((kx s).drop k)=j - k:=by
              rw [HL.out];by_cases hjn:j<n
              ·have hd:=HE.out;rw [dT_ hjn,Bool.true_and] at hd;rw [wlen_step (by rw [HKN.out];exact hjn),hd];simp
              ·rw [show j=n by omega,wlen_end HKN.out];rfl
             obtain ⟨hkj2,htk⟩:=tok_wd HKN.out hlt H1.out HQ.out H3b.out hkj hcl;have hsl:=fun W=>run_sub_str Hn.out hkj hj W
             obtain ⟨wd,Hwd⟩:=nm (((kx s).drop k).take (j - k));rw [Hwd.out] at hsl htk
             have HT2:Hid (((L++[(wd,k)])++(gf (tokL (n - j+1) ((kx s).drop j) j)).1,(gf (tokL (n - j+1) ((kx s).drop j) j)).2)=(GT,FT)):=by
              show _=_;rw [←HT.out,htk,gf_good,List.append_assoc];rfl
             clear HE hcl htk HL
             go_wp2_with (at_builtin;refine wpList_app rfl rfl T_xtoks rfl (ho1.alloc _) rfl (Sl.new _ _ _) rfl (by simp [Value.oneCell']) (by simp only [maxLen];omega) (by omega) ?_;intro A8 c8 w8 ho8 hu8 hat8)
             have e8:Own w8 174 2 A8 (L++[(wd,k)]).length c8 (xtcells (L++[(wd,k)])):=by
              rw [xtcells_snoc,List.length_append,Hm.out];exact ho8
             have hU8:Upd Non w w8:=(hu.alloc _).trans hu8 (fun i hi h=>by have:=hA i h;omega);have HO8:=h_ e8
             have HA8:Hid (∀j,At A8 j→w.heap.size≤j):=fun j h=>by
              rcases hat8 j h with h | h
              ·exact hA j h
              ·rw [h];simp;omega
             clear ho8 e8 hu8 hat8 ho1;go_wp2_with fail
             go_roundg (n+1 - j)
             case measure=>rw [Hg.out];omega
             case rel=>exact ⟨j,A8,c8,L++[(wd,k)],rfl,hj,rfl,by rw [List.length_append,Hm.out];rfl,HO8.out,HA8.out,HT2,by rw [List.length_append,Hm.out,List.length_singleton];omega,hU8⟩
  ·obtain rfl:n=k:=by omega
   have hT:=HT.out;rw [tok_end HKN.out,gf_bad,List.append_nil] at hT;injection hT with hT1 hT2
   have HT1:=h_ hT1;have HT2:=h_ hT2;obtain ⟨m,Hm⟩:=nm L.length;have ho1:Own W 174 2 A m c (xtcells L):=by rw [←Hm.out];exact ho
   rw [Hm.out] at hLk ⊢;clear hT1 hT2 HT ho;go_wp2_with fail
   go_ret2;exact ⟨A,c,-1,by rw [←HT1.out,Hm.out];rfl,by rw [←HT1.out,Hm.out];exact ho1,hA,by rw [←HT1.out,Hm.out];omega,by rw [←HT2.out];omega,by rw [←Hmv.out,←HT2.out,if_neg (by omega)],hu⟩
section
variable {w w':World} {F G S:Nat→Prop} {A:Option Addr} {L:List Tok}
end
structure St where
 i:Nat
 why:Int
 ea:Int
 va:Option Addr
 vc:Nat
 vs:Bs
 ma:Option Addr
 mc:Nat
 ms:Bs
 left:Bool
section
variable {w w':World} {p:Nat} {A:Option Addr} {c:Nat} {L:List Tok} {x:St} {S:Nat→Prop}
end
end Go.Proofs.YtifhejahbbnkiaaGreat
namespace Go.Proofs.YtifhejahbbnkiaaGreat
open Go.RowKit
theorem findB_step {l:Bs} {k:Nat} (h:k<l.length) (c:UInt8) (i:Nat):findB (l.drop k) c i=if l.getD k 0=c then some i else findB (l.drop (k+1)) c (i+1):=by rw [drop_cons h];rfl
end Go.Proofs.YtifhejahbbnkiaaGreat
