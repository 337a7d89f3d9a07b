/-
  Lemmas and walks that the claim rests on, part 7 (packed by a program).
-/
import Derived.Test.YtblkgjdhaibhgaaGreatV3
import Derived.Test.YtblkgjdhaibhgaaGreatV6
import Derived.Test.YtblkgjdhaibhgaaGreatV5
import Derived.Deep.CutBlock
namespace Go.Proofs.YtblkgjdhaibhgaaGreat
open Go.RowKit
theorem tdiv_i64 {x k:Int} (h:I64 x) (hk:1≤k):I64 (x.tdiv k):=by
 unfold I64 at h ⊢;by_cases h0:0≤x
 ·have h1:=Int.tdiv_nonneg h0 (show 0≤k by omega);have h2:=Int.tdiv_le_self k h0;omega
 ·have e:x.tdiv k = -((-x).tdiv k):=by rw [Int.neg_tdiv,Int.neg_neg]
  have h1:=Int.tdiv_nonneg (show 0 ≤ -x by omega) (show 0≤k by omega);have h2:=Int.tdiv_le_self k (show 0 ≤ -x by omega);omega
theorem m2_facts (m:Nat):∃r:Nat,(m:Int).tmod 2=(r:Int)∧(m:Int) % 2=(r:Int)∧r<2∧(r:Int)<2:=⟨m % 2,by rw [Int.tmod_eq_emod_of_nonneg (by omega)];omega,by omega,by omega,by omega⟩
theorem m5_facts (m:Nat):∃r:Nat,(m:Int).tmod 5=(r:Int)∧(m:Int) % 5=(r:Int)∧r<5∧(r:Int)<5:=⟨m % 5,by rw [Int.tmod_eq_emod_of_nonneg (by omega)];omega,by omega,by omega,by omega⟩
set_option maxRecDepth 100000 in
set_option maxHeartbeats 4000000 in
theorem rdPattern_c (n:Nat) (h1:1≤n) (h2:n≤1000) (st:Bool):∀(f:Nat),f≤3→∀(w:World) (F:Nat→Prop) (p:Nat) (xs:List Int) (s:Int),s=1∨s=2→(∀k,F k→k≠p)→Rd w F p xs →
  Calls Tryz.prog 36 #[.pointer (some ⟨p,0,none⟩),.int .i64 s,.int .i64 (3 - f:Nat),.int .i64 n,.bool st] w fun e w'=>∃(KA:Option Addr) (kc:Nat),e=.returned (pv (patF n st f s xs).1 KA kc)∧PtK w' (fun k=>w.heap.size≤k) (patF n st f s xs).1 KA kc∧Rd w' F p (patF n st f s xs).2∧Upd (·=p) w w':=by
 intro f
 induction f with
 | zero =>
  intro _ w F p xs s hs hF hr;have hlt:=hr.lt;have HX:=h_ hr.i64;have hFF:∀k,(F k∧k<w.heap.size)→k≠p:=fun k h=>hF k h.1
  have hrF:=hr.mono (G:=fun k=>F k∧k<w.heap.size) (fun k hk h=>⟨h,hk⟩);obtain ⟨W,HW⟩:=nm (w.alloc (.cells #[.int .i64 0,.int .i64 0,.int .i64 0,.int .i64 0,.slice none 0 0] 40));have hU:Upd Non w W:=by rw [←HW.out];exact Upd.refl.alloc _
  have hb:Blk W w.heap.size 40 #[.int .i64 0,.int .i64 0,.int .i64 0,.int .i64 0,.slice none 0 0]:=by rw [←HW.out];exact Blk.new _ _ _
  have hsW:W.heap.size=w.heap.size+1:=by rw [←HW.out];simp
  have e0:=HW.out;have C1:=h_ (rdNext_c hFF (hrF.upd hU (fun _ _ _ f=>f) (fun f=>f)));obtain ⟨Q,HQ0⟩:=nm (patF n st 0 s xs).1;obtain ⟨Y,HY0⟩:=nm (patF n st 0 s xs).2;rw [HQ0.out,HY0.out];have HQY:Hid ((Q,Y)=(leafF s true n st (xs.headD 0),xs.tail)):=by show _=_;rw [←HQ0.out,←HY0.out];rfl
  clear hr hrF HQ0 HY0;go_enter Tryz.func36,Tryz.ntmps36;go_wp2_with fail
  refine C1.out.mono ?_;rintro e w2 ⟨rfl,hr2,hu2⟩;obtain ⟨x,Hx⟩:=nm (xs.headD 0);rw [Hx.out] at HX HQY ⊢;obtain ⟨z,Hz⟩:=nm (wrap64 (x.tdiv 12));have ez:=Hz.out;have C2:=h_ (pick_c x 12 w2 (by omega) (by omega));have C3:=h_ (pick_c z 1000 w2 (by omega) (by omega))
  have HM0:Hid (z=x.tdiv 12):=by
   show _=_;rw [←ez];exact wrap64_of (tdiv_i64 HX.out (by omega))
  obtain ⟨k,Hk⟩:=nm (x % 12);have k0:0≤k∧k<12:=by rw [←Hk.out];omega
  obtain ⟨m,hm⟩:∃m:Nat,z % 1000=(m:Int):=Int.eq_ofNat_of_zero_le (by omega);have hm1:m<1000:=by omega
  have HM:Hid (x.tdiv 12 % 1000=(m:Int)):=by show _=_;rw [←HM0.out];exact hm
  rw [Hk.out] at C2
  try rw [Hk.out] at HQY
  rw [hm] at C3;clear hm;go_wp2_with fail
  refine C2.out.mono ?_;rintro e w3 ⟨rfl,rfl⟩;go_wp2_with fail
  refine C3.out.mono ?_;rintro e w3 ⟨rfl,rfl⟩;have hb2:=hb.upd hu2 (by omega);have HU2:Upd (·=p) w w2:=(hU.mono (T:=(·=p)) (fun _ _ f=>f.elim)).trans hu2 (fun _ _ h=>h);have hs2:=hu2.size;have HS2:=h_ hs2;have HSW:=h_ hsW;have HK0:=h_ k0;clear hb hU C1 C2 C3 hs2 hsW k0;have HQ:Hid (Q=leafF s true n st x):=congrArg Prod.fst HQY.out;have HY:Hid (Y=xs.tail):=congrArg Prod.snd HQY.out;by_cases hs2:s=2
  ·subst hs2;have c0:=hb2.cell 0;have c1:=hb2.cell 1;have c2:=hb2.cell 2;have c3:=hb2.cell 3;have c4:=hb2.cell 4;have f0:=hb2.frozen;have HL:Hid (Q=.mk 1 0 0 0 []):=HQ.out;go_wp2_with fail
   rw [set5_eq];refine bodyPost_ret (results_cell_row rfl _ _ w.heap.size 40 _ (0,0) _ rfl (set5_blk hb2 _ _ _ _ _) Tryz.underlying40 rfl (by kernel_rfl)) rfl ?_;have hsW:=HSW.out;have hs2:=HS2.out;refine ⟨none,0,by rw [HL.out];rfl,by rw [HL.out];exact PtK.leaf,?_,HU2.trans (set5_upd _ _ _ _ _ _ _) (fun i hi e=>by omega)⟩;rw [HY.out];exact (hr2.upd (set5_upd _ _ _ _ _ _ _) (fun k hk q e=>by have:=q.2;omega) (by omega)).mono (fun k _ h=>h.1)
  ·have ts:(s==2)=false:=by simpa using hs2
   by_cases hk0:k=0
   ·subst hk0;have hdt:true=true:=rfl;have CW:=h_ (word_c w2 m x (by unfold I64;omega))
    have HL:Hid (Q=.mk 0 1 (wordF m x) 0 []):=by
     show _=_;rw [HQ.out];unfold leafF;rw [if_neg hs2,if_pos ⟨Hk.out,hdt⟩,HM.out]
    obtain ⟨wd,Hwd⟩:=nm (wordF m x);rw [Hwd.out] at HL CW;have HSS:=h_ hs2;clear hs2;go_wp2_with fail
    refine CW.out.mono ?_;rintro e w3 ⟨rfl,hu3⟩;have hb2:=hb2.upd hu3 (fun f=>f);have hr2:=hr2.upd hu3 (fun _ _ _ f=>f) (fun f=>f);have HU2:=HU2.then_non hu3;have c0:=hb2.cell 0;have c1:=hb2.cell 1;have c2:=hb2.cell 2;have c3:=hb2.cell 3;have c4:=hb2.cell 4;have f0:=hb2.frozen;go_wp2_with fail
    rw [set5_eq];refine bodyPost_ret (results_cell_row rfl _ _ w.heap.size 40 _ (0,0) _ rfl (set5_blk hb2 _ _ _ _ _) Tryz.underlying40 rfl (by kernel_rfl)) rfl ?_;have hsW:=HSW.out;have hs2:=HS2.out;refine ⟨none,0,by rw [HL.out];rfl,by rw [HL.out];exact PtK.leaf,?_,HU2.trans (set5_upd _ _ _ _ _ _ _) (fun i hi e=>by omega)⟩;rw [HY.out];exact (hr2.upd (set5_upd _ _ _ _ _ _ _) (fun k hk q e=>by have:=q.2;omega) (by omega)).mono (fun k _ h=>h.1)
   ·have tk:(k==0)=false:=by simpa using hk0
    have hkd:¬(k=0∧true=true):=fun q=>hk0 q.1
    clear hk0;have c0:=hb2.cell 0;have c1:=hb2.cell 1;have c2:=hb2.cell 2;have c3:=hb2.cell 3;have c4:=hb2.cell 4;have f0:=hb2.frozen
    cases st with
    | true =>
     by_cases hg:(1:Int)<(n:Int) - 1
     ·have hmn0:0≤(m:Int) % ((n:Int) - 1):=Int.emod_nonneg _ (by omega);have hmn:(m:Int) % ((n:Int) - 1)<(n:Int) - 1:=Int.emod_lt_of_pos _ (by omega);have hv:wrap64 (2+(m:Int) % ((n:Int) - 1))=2+(m:Int) % ((n:Int) - 1):=by unfold wrap64;omega
      have HL:Hid (Q=.mk (2+(m:Int) % ((n:Int) - 1)) 0 0 0 []):=by
       show _=_;rw [HQ.out];unfold leafF;rw [if_neg hs2,if_neg (by rw [Hk.out];exact hkd),if_pos rfl,HM.out,if_neg (by omega)]
      have HKD:=h_ hkd;have HSS:=h_ hs2;clear hkd hs2;go_wp2_with fail
      rw [set5_eq];refine bodyPost_ret (results_cell_row rfl _ _ w.heap.size 40 _ (0,0) _ rfl (set5_blk hb2 _ _ _ _ _) Tryz.underlying40 rfl (by kernel_rfl)) rfl ?_;have hsW:=HSW.out;have hs2:=HS2.out;refine ⟨none,0,by rw [HL.out];rfl,by rw [HL.out];exact PtK.leaf,?_,HU2.trans (set5_upd _ _ _ _ _ _ _) (fun i hi e=>by omega)⟩;rw [HY.out];exact (hr2.upd (set5_upd _ _ _ _ _ _ _) (fun k hk q e=>by have:=q.2;omega) (by omega)).mono (fun k _ h=>h.1)
     ·have hg2:(n:Int) - 1≤1:=by omega
      have hv:wrap64 2=2:=wrap64_of (by unfold I64;omega)
      have HL:Hid (Q=.mk 2 0 0 0 []):=by
       show _=_;rw [HQ.out];unfold leafF;rw [if_neg hs2,if_neg (by rw [Hk.out];exact hkd),if_pos rfl,HM.out]
       split
       ·rw [Int.emod_one];rfl
       ·rw [show (n:Int) - 1=1 by omega,Int.emod_one];rfl
      have HKD:=h_ hkd;have HSS:=h_ hs2;clear hkd hs2 hg;go_wp2_with fail
      rw [set5_eq];refine bodyPost_ret (results_cell_row rfl _ _ w.heap.size 40 _ (0,0) _ rfl (set5_blk hb2 _ _ _ _ _) Tryz.underlying40 rfl (by kernel_rfl)) rfl ?_;have hsW:=HSW.out;have hs2:=HS2.out;refine ⟨none,0,by rw [HL.out];rfl,by rw [HL.out];exact PtK.leaf,?_,HU2.trans (set5_upd _ _ _ _ _ _ _) (fun i hi e=>by omega)⟩;rw [HY.out];exact (hr2.upd (set5_upd _ _ _ _ _ _ _) (fun k hk q e=>by have:=q.2;omega) (by omega)).mono (fun k _ h=>h.1)
    | false =>
     have hmn0:0≤(m:Int) % (n:Int):=Int.emod_nonneg _ (by omega);have hmn:(m:Int) % (n:Int)<n:=Int.emod_lt_of_pos _ (by omega);have hv:wrap64 (1+(m:Int) % (n:Int))=1+(m:Int) % (n:Int):=by unfold wrap64;omega
     have HL:Hid (Q=.mk (1+(m:Int) % (n:Int)) 0 0 0 []):=by
      show _=_;rw [HQ.out];unfold leafF;rw [if_neg hs2,if_neg (by rw [Hk.out];exact hkd),if_neg (by decide),HM.out]
     have HKD:=h_ hkd;have HSS:=h_ hs2;clear hkd hs2;go_wp2_with fail
     rw [set5_eq];refine bodyPost_ret (results_cell_row rfl _ _ w.heap.size 40 _ (0,0) _ rfl (set5_blk hb2 _ _ _ _ _) Tryz.underlying40 rfl (by kernel_rfl)) rfl ?_;have hsW:=HSW.out;have hs2:=HS2.out;refine ⟨none,0,by rw [HL.out];rfl,by rw [HL.out];exact PtK.leaf,?_,HU2.trans (set5_upd _ _ _ _ _ _ _) (fun i hi e=>by omega)⟩;rw [HY.out];exact (hr2.upd (set5_upd _ _ _ _ _ _ _) (fun k hk q e=>by have:=q.2;omega) (by omega)).mono (fun k _ h=>h.1)
 | succ f ih =>
  intro hf3 w F p xs s hs hF hr;have HI:=h_ (ih (by omega));have hlt:=hr.lt;have HX:=h_ hr.i64;have hFF:∀k,(F k∧k<w.heap.size)→k≠p:=fun k h=>hF k h.1
  have hrF:=hr.mono (G:=fun k=>F k∧k<w.heap.size) (fun k hk h=>⟨h,hk⟩);obtain ⟨W,HW⟩:=nm (w.alloc (.cells #[.int .i64 0,.int .i64 0,.int .i64 0,.int .i64 0,.slice none 0 0] 40));have hU:Upd Non w W:=by rw [←HW.out];exact Upd.refl.alloc _
  have hb:Blk W w.heap.size 40 #[.int .i64 0,.int .i64 0,.int .i64 0,.int .i64 0,.slice none 0 0]:=by rw [←HW.out];exact Blk.new _ _ _
  have hsW:W.heap.size=w.heap.size+1:=by rw [←HW.out];simp
  have e0:=HW.out;have C1:=h_ (rdNext_c hFF (hrF.upd hU (fun _ _ _ f=>f) (fun f=>f)));obtain ⟨Q,HQ0⟩:=nm (patF n st (f+1) s xs).1;obtain ⟨Y,HY0⟩:=nm (patF n st (f+1) s xs).2;rw [HQ0.out,HY0.out];have HQY:Hid ((Q,Y)=patF n st (f+1) s xs):=by show _=_;rw [←HQ0.out,←HY0.out]
  obtain ⟨G,HG⟩:=nm (patF n st f);unfold patF at HQY;rw [HG.out] at HQY HI;obtain ⟨dp,Hdp⟩:=nm (3 - (f+1));have hdp:dp+1=3 - f:=by rw [←Hdp.out];omega
  have hd2:dp≤2:=by omega
  have HF2:Hid (f≤2):=by show f≤2;omega
  have t0:decide ((2:Int)<(dp:Int))=false:=dF_ (by omega);have HDP:Hid (0<dp↔f<2):=by show _↔_;omega
  rw [←hdp] at HI;rw [Hdp.out];clear hr hrF HQ0 HY0 ih hdp hf3;go_enter Tryz.func36,Tryz.ntmps36;go_wp2_with fail
  refine C1.out.mono ?_;rintro e w2 ⟨rfl,hr2,hu2⟩;obtain ⟨x,Hx⟩:=nm (xs.headD 0);rw [Hx.out] at HX HQY ⊢;obtain ⟨z,Hz⟩:=nm (wrap64 (x.tdiv 12));have ez:=Hz.out;have C2:=h_ (pick_c x 12 w2 (by omega) (by omega));have C3:=h_ (pick_c z 1000 w2 (by omega) (by omega))
  have HM0:Hid (z=x.tdiv 12):=by
   show _=_;rw [←ez];exact wrap64_of (tdiv_i64 HX.out (by omega))
  obtain ⟨k,Hk⟩:=nm (x % 12);have k0:0≤k∧k<12:=by rw [←Hk.out];omega
  obtain ⟨m,hm⟩:∃m:Nat,z % 1000=(m:Int):=Int.eq_ofNat_of_zero_le (by omega);have hm1:m<1000:=by omega
  have HM:Hid (x.tdiv 12 % 1000=(m:Int)):=by show _=_;rw [←HM0.out];exact hm
  rw [Hk.out] at C2
  try rw [Hk.out] at HQY
  rw [hm] at C3;clear hm;go_wp2_with fail
  refine C2.out.mono ?_;rintro e w3 ⟨rfl,rfl⟩;go_wp2_with fail
  refine C3.out.mono ?_;rintro e w3 ⟨rfl,rfl⟩;have hb2:=hb.upd hu2 (by omega);have HU2:Upd (·=p) w w2:=(hU.mono (T:=(·=p)) (fun _ _ f=>f.elim)).trans hu2 (fun _ _ h=>h);have hs2:=hu2.size;have HS2:=h_ hs2;have HSW:=h_ hsW;have HK0:=h_ k0;clear hb hU C1 C2 C3 hs2 hsW k0;by_cases hk3:k<3
  ·have tk3:decide (k<3)=true:=dT_ hk3;rw [if_pos hk3] at HQY;have HQ:Hid (Q=leafF s (decide (f<2)) n st x):=congrArg Prod.fst HQY.out;have HY:Hid (Y=xs.tail):=congrArg Prod.snd HQY.out;clear HQY hk3;by_cases hs2:s=2
   ·subst hs2;have c0:=hb2.cell 0;have c1:=hb2.cell 1;have c2:=hb2.cell 2;have c3:=hb2.cell 3;have c4:=hb2.cell 4;have f0:=hb2.frozen;have HL:Hid (Q=.mk 1 0 0 0 []):=HQ.out;go_wp2_with fail
    rw [set5_eq];refine bodyPost_ret (results_cell_row rfl _ _ w.heap.size 40 _ (0,0) _ rfl (set5_blk hb2 _ _ _ _ _) Tryz.underlying40 rfl (by kernel_rfl)) rfl ?_;have hsW:=HSW.out;have hs2:=HS2.out;refine ⟨none,0,by rw [HL.out];rfl,by rw [HL.out];exact PtK.leaf,?_,HU2.trans (set5_upd _ _ _ _ _ _ _) (fun i hi e=>by omega)⟩;rw [HY.out];exact (hr2.upd (set5_upd _ _ _ _ _ _ _) (fun k hk q e=>by have:=q.2;omega) (by omega)).mono (fun k _ h=>h.1)
   ·have ts:(s==2)=false:=by simpa using hs2
    by_cases hk0:k=0
    ·subst hk0;by_cases hf2:f<2
     ·have hdt:decide (f<2)=true:=dT_ hf2;have td:decide (0<dp)=true:=dT_ (HDP.out.2 hf2);clear hf2;have CW:=h_ (word_c w2 m x (by unfold I64;omega))
      have HL:Hid (Q=.mk 0 1 (wordF m x) 0 []):=by
       show _=_;rw [HQ.out];unfold leafF;rw [if_neg hs2,if_pos ⟨Hk.out,hdt⟩,HM.out]
      obtain ⟨wd,Hwd⟩:=nm (wordF m x);rw [Hwd.out] at HL CW;have HSS:=h_ hs2;clear hs2;go_wp2_with fail
      refine CW.out.mono ?_;rintro e w3 ⟨rfl,hu3⟩;have hb2:=hb2.upd hu3 (fun f=>f);have hr2:=hr2.upd hu3 (fun _ _ _ f=>f) (fun f=>f);have HU2:=HU2.then_non hu3;have c0:=hb2.cell 0;have c1:=hb2.cell 1;have c2:=hb2.cell 2;have c3:=hb2.cell 3;have c4:=hb2.cell 4;have f0:=hb2.frozen;go_wp2_with fail
      rw [set5_eq];refine bodyPost_ret (results_cell_row rfl _ _ w.heap.size 40 _ (0,0) _ rfl (set5_blk hb2 _ _ _ _ _) Tryz.underlying40 rfl (by kernel_rfl)) rfl ?_;have hsW:=HSW.out;have hs2:=HS2.out;refine ⟨none,0,by rw [HL.out];rfl,by rw [HL.out];exact PtK.leaf,?_,HU2.trans (set5_upd _ _ _ _ _ _ _) (fun i hi e=>by omega)⟩;rw [HY.out];exact (hr2.upd (set5_upd _ _ _ _ _ _ _) (fun k hk q e=>by have:=q.2;omega) (by omega)).mono (fun k _ h=>h.1)
     ·have td:decide (0<dp)=false:=dF_ (fun q=>hf2 (HDP.out.1 q));have hkd:¬((0:Int)=0∧decide (f<2)=true):=fun q=>hf2 (of_decide_eq_true q.2)
      clear hf2;have c0:=hb2.cell 0;have c1:=hb2.cell 1;have c2:=hb2.cell 2;have c3:=hb2.cell 3;have c4:=hb2.cell 4;have f0:=hb2.frozen
      cases st with
      | true =>
       by_cases hg:(1:Int)<(n:Int) - 1
       ·have hmn0:0≤(m:Int) % ((n:Int) - 1):=Int.emod_nonneg _ (by omega);have hmn:(m:Int) % ((n:Int) - 1)<(n:Int) - 1:=Int.emod_lt_of_pos _ (by omega);have hv:wrap64 (2+(m:Int) % ((n:Int) - 1))=2+(m:Int) % ((n:Int) - 1):=by unfold wrap64;omega
        have HL:Hid (Q=.mk (2+(m:Int) % ((n:Int) - 1)) 0 0 0 []):=by
         show _=_;rw [HQ.out];unfold leafF;rw [if_neg hs2,if_neg (by rw [Hk.out];exact hkd),if_pos rfl,HM.out,if_neg (by omega)]
        have HKD:=h_ hkd;have HSS:=h_ hs2;clear hkd hs2;go_wp2_with fail
        rw [set5_eq];refine bodyPost_ret (results_cell_row rfl _ _ w.heap.size 40 _ (0,0) _ rfl (set5_blk hb2 _ _ _ _ _) Tryz.underlying40 rfl (by kernel_rfl)) rfl ?_;have hsW:=HSW.out;have hs2:=HS2.out;refine ⟨none,0,by rw [HL.out];rfl,by rw [HL.out];exact PtK.leaf,?_,HU2.trans (set5_upd _ _ _ _ _ _ _) (fun i hi e=>by omega)⟩;rw [HY.out];exact (hr2.upd (set5_upd _ _ _ _ _ _ _) (fun k hk q e=>by have:=q.2;omega) (by omega)).mono (fun k _ h=>h.1)
       ·have hg2:(n:Int) - 1≤1:=by omega
        have hv:wrap64 2=2:=wrap64_of (by unfold I64;omega)
        have HL:Hid (Q=.mk 2 0 0 0 []):=by
         show _=_;rw [HQ.out];unfold leafF;rw [if_neg hs2,if_neg (by rw [Hk.out];exact hkd),if_pos rfl,HM.out]
         split
         ·rw [Int.emod_one];rfl
         ·rw [show (n:Int) - 1=1 by omega,Int.emod_one];rfl
        have HKD:=h_ hkd;have HSS:=h_ hs2;clear hkd hs2 hg;go_wp2_with fail
        rw [set5_eq];refine bodyPost_ret (results_cell_row rfl _ _ w.heap.size 40 _ (0,0) _ rfl (set5_blk hb2 _ _ _ _ _) Tryz.underlying40 rfl (by kernel_rfl)) rfl ?_;have hsW:=HSW.out;have hs2:=HS2.out;refine ⟨none,0,by rw [HL.out];rfl,by rw [HL.out];exact PtK.leaf,?_,HU2.trans (set5_upd _ _ _ _ _ _ _) (fun i hi e=>by omega)⟩;rw [HY.out];exact (hr2.upd (set5_upd _ _ _ _ _ _ _) (fun k hk q e=>by have:=q.2;omega) (by omega)).mono (fun k _ h=>h.1)
      | false =>
       have hmn0:0≤(m:Int) % (n:Int):=Int.emod_nonneg _ (by omega);have hmn:(m:Int) % (n:Int)<n:=Int.emod_lt_of_pos _ (by omega);have hv:wrap64 (1+(m:Int) % (n:Int))=1+(m:Int) % (n:Int):=by unfold wrap64;omega
       have HL:Hid (Q=.mk (1+(m:Int) % (n:Int)) 0 0 0 []):=by
        show _=_;rw [HQ.out];unfold leafF;rw [if_neg hs2,if_neg (by rw [Hk.out];exact hkd),if_neg (by decide),HM.out]
       have HKD:=h_ hkd;have HSS:=h_ hs2;clear hkd hs2;go_wp2_with fail
       rw [set5_eq];refine bodyPost_ret (results_cell_row rfl _ _ w.heap.size 40 _ (0,0) _ rfl (set5_blk hb2 _ _ _ _ _) Tryz.underlying40 rfl (by kernel_rfl)) rfl ?_;have hsW:=HSW.out;have hs2:=HS2.out;refine ⟨none,0,by rw [HL.out];rfl,by rw [HL.out];exact PtK.leaf,?_,HU2.trans (set5_upd _ _ _ _ _ _ _) (fun i hi e=>by omega)⟩;rw [HY.out];exact (hr2.upd (set5_upd _ _ _ _ _ _ _) (fun k hk q e=>by have:=q.2;omega) (by omega)).mono (fun k _ h=>h.1)
    ·have tk:(k==0)=false:=by simpa using hk0
     have hkd:¬(k=0∧decide (f<2)=true):=fun q=>hk0 q.1
     clear hk0;have c0:=hb2.cell 0;have c1:=hb2.cell 1;have c2:=hb2.cell 2;have c3:=hb2.cell 3;have c4:=hb2.cell 4;have f0:=hb2.frozen
     cases st with
     | true =>
      by_cases hg:(1:Int)<(n:Int) - 1
      ·have hmn0:0≤(m:Int) % ((n:Int) - 1):=Int.emod_nonneg _ (by omega);have hmn:(m:Int) % ((n:Int) - 1)<(n:Int) - 1:=Int.emod_lt_of_pos _ (by omega);have hv:wrap64 (2+(m:Int) % ((n:Int) - 1))=2+(m:Int) % ((n:Int) - 1):=by unfold wrap64;omega
       have HL:Hid (Q=.mk (2+(m:Int) % ((n:Int) - 1)) 0 0 0 []):=by
        show _=_;rw [HQ.out];unfold leafF;rw [if_neg hs2,if_neg (by rw [Hk.out];exact hkd),if_pos rfl,HM.out,if_neg (by omega)]
       have HKD:=h_ hkd;have HSS:=h_ hs2;clear hkd hs2;go_wp2_with fail
       rw [set5_eq];refine bodyPost_ret (results_cell_row rfl _ _ w.heap.size 40 _ (0,0) _ rfl (set5_blk hb2 _ _ _ _ _) Tryz.underlying40 rfl (by kernel_rfl)) rfl ?_;have hsW:=HSW.out;have hs2:=HS2.out;refine ⟨none,0,by rw [HL.out];rfl,by rw [HL.out];exact PtK.leaf,?_,HU2.trans (set5_upd _ _ _ _ _ _ _) (fun i hi e=>by omega)⟩;rw [HY.out];exact (hr2.upd (set5_upd _ _ _ _ _ _ _) (fun k hk q e=>by have:=q.2;omega) (by omega)).mono (fun k _ h=>h.1)
      ·have hg2:(n:Int) - 1≤1:=by omega
       have hv:wrap64 2=2:=wrap64_of (by unfold I64;omega)
       have HL:Hid (Q=.mk 2 0 0 0 []):=by
        show _=_;rw [HQ.out];unfold leafF;rw [if_neg hs2,if_neg (by rw [Hk.out];exact hkd),if_pos rfl,HM.out]
        split
        ·rw [Int.emod_one];rfl
        ·rw [show (n:Int) - 1=1 by omega,Int.emod_one];rfl
       have HKD:=h_ hkd;have HSS:=h_ hs2;clear hkd hs2 hg;go_wp2_with fail
       rw [set5_eq];refine bodyPost_ret (results_cell_row rfl _ _ w.heap.size 40 _ (0,0) _ rfl (set5_blk hb2 _ _ _ _ _) Tryz.underlying40 rfl (by kernel_rfl)) rfl ?_;have hsW:=HSW.out;have hs2:=HS2.out;refine ⟨none,0,by rw [HL.out];rfl,by rw [HL.out];exact PtK.leaf,?_,HU2.trans (set5_upd _ _ _ _ _ _ _) (fun i hi e=>by omega)⟩;rw [HY.out];exact (hr2.upd (set5_upd _ _ _ _ _ _ _) (fun k hk q e=>by have:=q.2;omega) (by omega)).mono (fun k _ h=>h.1)
     | false =>
      have hmn0:0≤(m:Int) % (n:Int):=Int.emod_nonneg _ (by omega);have hmn:(m:Int) % (n:Int)<n:=Int.emod_lt_of_pos _ (by omega);have hv:wrap64 (1+(m:Int) % (n:Int))=1+(m:Int) % (n:Int):=by unfold wrap64;omega
      have HL:Hid (Q=.mk (1+(m:Int) % (n:Int)) 0 0 0 []):=by
       show _=_;rw [HQ.out];unfold leafF;rw [if_neg hs2,if_neg (by rw [Hk.out];exact hkd),if_neg (by decide),HM.out]
      have HKD:=h_ hkd;have HSS:=h_ hs2;clear hkd hs2;go_wp2_with fail
      rw [set5_eq];refine bodyPost_ret (results_cell_row rfl _ _ w.heap.size 40 _ (0,0) _ rfl (set5_blk hb2 _ _ _ _ _) Tryz.underlying40 rfl (by kernel_rfl)) rfl ?_;have hsW:=HSW.out;have hs2:=HS2.out;refine ⟨none,0,by rw [HL.out];rfl,by rw [HL.out];exact PtK.leaf,?_,HU2.trans (set5_upd _ _ _ _ _ _ _) (fun i hi e=>by omega)⟩;rw [HY.out];exact (hr2.upd (set5_upd _ _ _ _ _ _ _) (fun k hk q e=>by have:=q.2;omega) (by omega)).mono (fun k _ h=>h.1)
  ·have tk3:decide (k<3)=false:=dF_ hk3;rw [if_neg hk3] at HQY;clear hk3;obtain ⟨op,Hop⟩:=nm (kOpF s st x);rw [Hop.out] at HQY;have har:=kOp_arity s st x;rw [Hop.out] at har;obtain ⟨ar,har2⟩:∃ar:Nat,(arityF op).1=(ar:Int):=Int.eq_ofNat_of_zero_le har.1;have har3:ar≤3:=by omega
   have HAR:=h_ har2;have HOPE:Hid (op=if s=2 then 27+(m:Int) % 3 else if st=true∧9<k then 23 else 4+(m:Int) % 19):=by show _=_;rw [←Hop.out];unfold kOpF;rw [HM.out,Hk.out]
   go_upto_region 13 with fail
   obtain ⟨W4,HW4⟩:=nm (w2.alloc (.cells #[.int .i64 0,.int .i64 (4+(m:Int) % 19),.int .i64 0,.int .i64 0,.slice none 0 0] 40));rw [HW4.out];have e4:=HW4.out;have u4:Upd Non w2 W4:=by rw [←e4];exact Upd.refl.alloc _
   have hb4:Blk W4 w2.heap.size 40 #[.int .i64 0,.int .i64 (4+(m:Int) % 19),.int .i64 0,.int .i64 0,.slice none 0 0]:=by rw [←e4];exact Blk.new _ _ _
   have hs4:W4.heap.size=w2.heap.size+1:=by rw [←e4];simp
   have hm19:(m:Int).tmod 19=(m:Int) % 19:=Int.tmod_eq_emod_of_nonneg (by omega);clear har har2
   go_upto_if 62 with fail
   go_cut [] (fun wx=>Blk wx w2.heap.size 40 #[.int .i64 0,.int .i64 op,.int .i64 0,.int .i64 0,.slice none 0 0]∧Upd Non w2 wx)
   case first =>
    by_cases hs2:s=2
    ·subst hs2;obtain ⟨r,hma,hmb,hmc,hmd⟩:∃r:Nat,(m:Int).tmod 3=(r:Int)∧(m:Int) % 3=(r:Int)∧r<3∧(r:Int)<3:=⟨m % 3,by rw [Int.tmod_eq_emod_of_nonneg (by omega)];omega,by omega,by omega,by omega⟩
     have ho:op=27+(r:Int):=by rw [HOPE.out,if_pos rfl,hmb]
     obtain ⟨W5,HW5⟩:=nm (W4.alloc (.cells #[.int .i64 27,.int .i64 28,.int .i64 29] 3));have e5:=HW5.out;have u5:Upd Non W4 W5:=by rw [←e5];exact Upd.refl.alloc _
     have hi5:W5.cell? ⟨W4.heap.size,r,none⟩=some (.int .i64 op):=by
      rw [←e5,(Blk.new W4 3 #[.int .i64 27,.int .i64 28,.int .i64 29]).cell,ho];have : r=0∨r=1∨r=2:=by omega
      rcases this with rfl | rfl | rfl <;> rfl
     rw [hs4] at hi5;have hb5:=hb4.upd u5 (fun f=>f);have c1:=hb5.cell 1;have f1:=hb5.frozen 1;obtain ⟨W6,HW6⟩:=nm (W5.setCell ⟨w2.heap.size,1,none⟩ (.int .i64 op));have e6:=HW6.out;have hb6:Blk W6 w2.heap.size 40 #[.int .i64 0,.int .i64 op,.int .i64 0,.int .i64 0,.slice none 0 0]:=by rw [←e6];exact hb5.set_ 1 (.int .i64 op)
     have u6:Upd (·=w2.heap.size) W5 W6:=by rw [←e6];exact updCell _ _ _ _
     have HB6:=h_ hb6;have HO:=h_ ho;clear ho hb6 hb4;go_wp2_with fail
     go_meet
     case rel=>exact ⟨HB6.out,(u4.then_non u5).trans u6 (fun i hi e=>by omega)⟩
    ·have ts:(s==2)=false:=by simpa using hs2
     have hop2:Hid (op=if st=true∧9<k then 23 else 4+(m:Int) % 19):=by show _=_;rw [HOPE.out,if_neg hs2]
     have HSS:=h_ hs2;clear hs2
     cases st with
     | false =>
      have ho:Hid (op=4+(m:Int) % 19):=by show _=_;rw [hop2.out,if_neg (fun q=>by cases q.1)]
      have hbE:Hid (Blk W4 w2.heap.size 40 #[.int .i64 0,.int .i64 op,.int .i64 0,.int .i64 0,.slice none 0 0]):=by rw [ho.out];exact hb4
      go_wp2_with fail
      go_meet
      case rel=>exact ⟨hbE.out,u4⟩
     | true =>
      by_cases h9:9<k
      ·have t9:decide (9<k)=true:=dT_ h9;have ho:op=23:=by rw [hop2.out,if_pos ⟨rfl,h9⟩]
       have c1:=hb4.cell 1;have f1:=hb4.frozen 1;obtain ⟨W6,HW6⟩:=nm (W4.setCell ⟨w2.heap.size,1,none⟩ (.int .i64 23));have e6:=HW6.out;have hb6:Blk W6 w2.heap.size 40 #[.int .i64 0,.int .i64 op,.int .i64 0,.int .i64 0,.slice none 0 0]:=by rw [←e6,ho];exact hb4.set_ 1 (.int .i64 23)
       have u6:Upd (·=w2.heap.size) W4 W6:=by rw [←e6];exact updCell _ _ _ _
       have HB6:=h_ hb6;have HO:=h_ ho;clear ho hb6 h9;go_wp2_with fail
       go_meet
       case rel=>exact ⟨HB6.out,u4.trans u6 (fun i hi e=>by omega)⟩
      ·have t9:decide (9<k)=false:=dF_ h9;have ho:Hid (op=4+(m:Int) % 19):=by show _=_;rw [hop2.out,if_neg (fun q=>h9 q.2)]
       have hbE:Hid (Blk W4 w2.heap.size 40 #[.int .i64 0,.int .i64 op,.int .i64 0,.int .i64 0,.slice none 0 0]):=by rw [ho.out];exact hb4
       clear h9;go_wp2_with fail
       go_meet
       case rel=>exact ⟨hbE.out,u4⟩
   case rest =>
   obtain ⟨w5,rfl⟩:∃w5:World,w5=wc:=⟨_,rfl⟩;obtain ⟨hb5,u5⟩:=hcut;clear hb4 e4 HW4 u4 hs4 hm19;have c1:=hb5.cell 1;have CA:=h_ (arity_c op w5);rw [HAR.out] at CA;obtain ⟨ab,Hab⟩:=nm (arityF op).2;rw [Hab.out] at CA;go_wp2_with fail
   refine CA.out.mono ?_;rintro e w6 ⟨rfl,rfl⟩;have hss:(sortsOf op).length=ar:=by rw [sortsOf_len,HAR.out];rfl
   have hsj:∀j (h:j<(sortsOf op).length),(sortsOf op)[j]=operandSortF op j:=sortsOf_get op
   have hso:∀j (h:j<(sortsOf op).length),(sortsOf op)[j]=1∨(sortsOf op)[j]=2:=fun j h=>by
    rw [hsj j h];unfold operandSortF;split
    ·exact .inr rfl
    ·exact .inl rfl
   obtain ⟨ss,Hss⟩:=nm (sortsOf op);rw [Hss.out] at HQY hss hsj hso;have HSL:=h_ hss;have HSJ:=h_ hsj;have HSO:=h_ hso;obtain ⟨ys,Hys⟩:=nm xs.tail;rw [Hys.out] at HQY hr2;have hr6:=hr2.upd u5 (fun _ _ _ f=>f) (fun f=>f);have hsu:=u5.size;have hpw:p<w2.heap.size:=hr2.lt;have hF6:∀k,(F k∧k<w.heap.size)→k≠p:=hFF;have hwrapd:IntKind.i64.wrap ((dp:Int)+1)=((dp+1:Nat):Int):=by rw [i64w_of (by unfold I64;omega)];omega
   have HWD:=h_ hwrapd;have HKS:=h_ (patF_size n st f);rw [HG.out] at HKS
   have hks:kSize f≤1000:=by
    have : f=0∨f=1∨f=2:=by have:=HF2.out;omega
    rcases this with rfl | rfl | rfl <;> decide
   have hlt5:w2.heap.size<w5.heap.size:=hb5.lt;have hww:w.heap.size<w2.heap.size:=by have:=HS2.out;have:=HSW.out;omega
   clear hr2 hss hsj hso hwrapd CA c1 hFF;go_wp2_with fail
   go_loopg [17] ar (fun g i wr=>∃(j:Nat) (A:Option Addr) (c:Nat),Hid (g=ar - j)∧j≤ar∧i=.int .i64 j∧Blk wr w2.heap.size 40 #[.int .i64 0,.int .i64 op,.int .i64 0,.int .i64 0,.slice A j c]∧PtO wr (fun k=>w5.heap.size≤k) A j c (kidsG G (ss.take j) ys).1∧Hid (∀k,At A k→w5.heap.size≤k)∧Rd wr (fun k=>F k∧k<w.heap.size) p (kidsG G (ss.take j) ys).2∧Upd (fun k=>k=p∨k=w2.heap.size) w5 wr)
   case atStart=>exact ⟨0,none,0,rfl,by omega,rfl,hb5,PtO.none_,fun k h=>(At.none_ h).elim,hr6,Upd.refl⟩
   case round =>
    obtain ⟨j,A,c,Hg,hj,rfl,hbr,hpo,HA,hrr,hu⟩:=hrel;by_cases hlt:j<ar
    ·have hjs:j<ss.length:=by rw [HSL.out];exact hlt
     have HTK:Hid (ss.take (j+1)=ss.take j++[ss[j]]):=take_snoc_ hjs;have hsjE:=HSJ.out j hjs;have hsoE:=HSO.out j hjs;generalize ss[j]=sj at *
     have HKN:Hid (kidsG G (ss.take (j+1)) ys=((kidsG G (ss.take j) ys).1++[(G sj (kidsG G (ss.take j) ys).2).1],(G sj (kidsG G (ss.take j) ys).2).2)):=by
      show _=_;rw [HTK.out,kidsG_snoc]
     obtain ⟨kids,Hkids⟩:=nm (kidsG G (ss.take j) ys).1;obtain ⟨zs,Hzs⟩:=nm (kidsG G (ss.take j) ys).2;rw [Hkids.out,Hzs.out] at HKN;rw [Hkids.out] at hpo;rw [Hzs.out] at hrr;have CO:=h_ (fun w'=>operandSort_c op j w');rw [←hsjE] at CO;have t1:decide (j<ar)=true:=dT_ hlt;have d1:wr.cell? ⟨w2.heap.size,1,none⟩=some (.int .i64 op):=hbr.cell 1;obtain ⟨wD,HwD⟩:=nm wr.drew;have uD:Upd Non wr wD:=by rw [←HwD.out];exact Upd.refl.drew
     have hbD:=hbr.upd uD (fun f=>f);have hpD:=hpo.upd uD (fun _ _ f=>f) (fun _ _ _ f=>f);have hrD:=hrr.upd uD (fun _ _ _ f=>f) (fun f=>f);have C1:=h_ (HI.out wD _ p zs sj hsoE hF6 hrD);obtain ⟨q,Hq⟩:=nm (G sj zs).1;obtain ⟨zs2,Hzs2⟩:=nm (G sj zs).2;rw [Hq.out,Hzs2.out] at C1 HKN;have hwd:=HWD.out;clear hsjE hsoE HTK hbr hpo hrr;go_wp2_with fail
     refine wp_region_held_drew (S:=fun w'=>w'.cell? ⟨w2.heap.size,1,none⟩=some (.int .i64 op)) (by kernel_rfl) (by rw [HwD.out];exact u_ d1 uD (fun f=>f)) (fun hHeld=>?_)
     rw [HwD.out] at hHeld ⊢;refine wpT 0 ?_;(try simp only [y_,z_]);refine wpT 2 ?_;(try simp only [y_,z_]);refine wpT 3 ?_;(try simp only [y_,z_]);refine wpT 4 ?_;(try simp only [y_,z_]);refine wpT 5 ?_;(try simp only [y_,z_]);refine wpAnyH_takeC (i:=6) (v:=?v1) rfl (by kernel_rfl) (by kernel_rfl) (by kernel_rfl) (fun _ _ _ h=>h) ⟨by rfl,?f1,?a1,?r1,?c1⟩ (by assumption) ?m1
     case r1=>intro w;go_simp;constructor <;> with_reducible rfl
     case c1=>intro W hSw;refine (CO.out W).mono ?_;rintro e w' ⟨rfl,rfl⟩;constructor <;> with_reducible rfl
     (try simp only [y_,z_]);refine wpT 7 ?_;(try simp only [y_,z_]);refine wpT 8 ?_;(try simp only [y_,z_]);refine wpT 9 ?_;(try simp only [y_,z_]);refine wpT 10 ?_;(try simp only [y_,z_]);have hsD:∀k,At A k→k<wD.heap.size:=fun k h=>hpD.lt h
     have hgD:=hbD.lt;refine aR_ (rs:=[1,11]) (by kernel_rfl) (by simp) ?_;refine aC_ rfl (fun K hK=>?_) (aC_ rfl (fun K hK=>?_) aN_)
     ·have d4:=hbD.cell 4;go_simp;refine hK.out _ _ ?_ (fun hHeld=>?_)
      ·exact u_ d1 uD (fun f=>f)
      clear hK K;(try simp only [y_,z_]);refine aR_ (rs:=[11]) (by kernel_rfl) (by simp) ?_;refine aC_ rfl (fun K hK=>?_) aN_;go_simp;refine C1.out.mono ?_;rintro e w7 ⟨KB,kb,rfl,hq,hr7,u7⟩;unfold pv;go_wp2_with fail
      have d7:=u_ (u_ d1 uD (fun f=>f)) u7 (by omega);refine hK.out _ _ ?_ (fun hHeld=>?_)
      ·exact d7
      clear hK K;(try simp only [y_,z_]);have hb7:=hbD.upd u7 (by omega);have hp7:=hpD.upd u7 (fun k h e=>by have:=HA.out k h;omega) (fun k _ h e=>by omega);obtain ⟨hn7,cs,ho7,hc7⟩:=id hp7;have hs7:=u7.size;have hsu:=hu.size;have hsd:=uD.size;have hq7:PtK w7 (fun k=>w5.heap.size≤k∧¬At A k) q KB kb:=PtK.mono (fun k _ h=>⟨by have h:wD.heap.size≤k:=h;omega,fun hA=>by have h:wD.heap.size≤k:=h;have:=hsD _ hA;omega⟩) _ _ _ hq
      have HP7:=h_ hp7;have HC7:=h_ hc7;have HQ7:=h_ hq7;clear hp7 hc7 hq7 hpD hbD hrD hq hn7 hsD;refine aR_ (rs:=[12]) (by kernel_rfl) (by simp) ?_;refine aC_ rfl (fun K hK=>?_) aN_;go_simp;refine hK.out _ _ ?_ (fun hHeld=>?_)
      ·exact (hb7.alloc _).cell 1
      clear hK K;(try simp only [y_,z_]);refine aR_ (rs:=[13]) (by kernel_rfl) (by simp) ?_;refine aC_ rfl (fun K hK=>?_) aN_;refine step_app rfl rfl T_pats rfl (ho7.alloc _) rfl (Sl.new _ _ _) rfl (by simp [Value.oneCell']) (by simp only [maxLen];omega) (by omega) ?_;intro A8 c8 w8 ho8 hu8 hat8;have b8:=(hb7.alloc _).upd hu8 (fun h=>by have:=HA.out _ h;omega);have d8:=b8.cell 4;have f8:=b8.frozen 4;have e8:w8.cell? ⟨w2.heap.size,1,none⟩=some (.int .i64 op):=b8.cell 1;refine hK.out _ _ ?_ (fun hHeld=>?_)
      ·exact e8
      clear hK K;(try simp only [y_,z_]);have b9:=b8.set_ 4 (.slice A8 (j+1) c8);have e9:(w8.setCell ⟨w2.heap.size,4,none⟩ (.slice A8 (j+1) c8)).cell? ⟨w2.heap.size,1,none⟩=some (.int .i64 op):=by rw [b9.cell];rfl
      refine wpT 14 ?_;(try simp only [y_,z_]);refine aR_ (rs:=[15]) (by kernel_rfl) (by simp) ?_;refine aC_ rfl (fun K hK=>?_) aN_;go_simp;refine hK.out _ _ ?_ (fun hHeld=>?_)
      ·exact e9
      clear hK K;(try simp only [y_,z_]);refine aD_ (by kernel_rfl) ?_ _
      have hA8:∀k,At A8 k→w5.heap.size≤k:=fun k h=>by
       rcases hat8 k h with h | h
       ·exact HA.out k h
       ·rw [h];simp;omega
      have hal:Upd Non w7 (w7.alloc (.cells #[.int .i64 q.v,.int .i64 q.op,.int .i64 q.imm,.int .i64 q.iv,.slice KB q.kids.length kb] 40)):=Upd.refl.alloc _;have u9:Upd (·=w2.heap.size) w8 (w8.setCell ⟨w2.heap.size,4,none⟩ (.slice A8 (j+1) c8)):=updCell _ _ _ _;have hpa:=HP7.out.upd hal (fun _ _ f=>f) (fun _ _ _ f=>f);have hp8:=PtO.snoc (G':=fun k=>w5.heap.size≤k) hpa (HC7.out.mono hal (fun _ _ _ f=>f) (fun _ _ h=>h)) (PtK.upd hal (fun _ _ _ f=>f) _ _ _ HQ7.out) ho8 hu8 hat8 (fun _ _ h=>h)
      have hp9:=hp8.upd u9 (fun k h e=>by have:=hA8 k h;omega) (fun k _ h e=>by omega);have hr8:=(hr7.upd hal (fun _ _ _ f=>f) (fun f=>f)).upd hu8 (fun k _ h hA=>by have:=HA.out k hA;have h2:k<w.heap.size:=h.2;omega) (fun hA=>by have:=HA.out _ hA;omega)
      have hr9:=hr8.upd u9 (fun k _ h e=>by have h2:k<w.heap.size:=h.2;omega) (by omega)
      have HU9:Upd (fun k=>k=p∨k=w2.heap.size) w5 (w8.setCell ⟨w2.heap.size,4,none⟩ (.slice A8 (j+1) c8)) :=
       ((((hu.then_non uD).trans u7 (fun i _ h=>.inl h)).then_non hal).trans hu8 (fun i hi h=>by have:=HA.out i h;omega)).trans u9 (fun i _ h=>.inr h)
      have hb9:Blk (w8.setCell ⟨w2.heap.size,4,none⟩ (.slice A8 (j+1) c8)) w2.heap.size 40 #[.int .i64 0,.int .i64 op,.int .i64 0,.int .i64 0,.slice A8 (j+1) c8]:=by simpa using b9
      have HE1:Hid ((kidsG G (ss.take (j+1)) ys).1=kids++[q]∧(kidsG G (ss.take (j+1)) ys).2=zs2):=by
       show _∧_;rw [HKN.out];exact ⟨rfl,rfl⟩
      have HA8:=h_ hA8;have HP9:=h_ hp9;have HR9:=h_ hr9;have HB9:=h_ hb9;clear hA8 hpa hp8 hp9 hr8 hr9 b9 b8 d8 f8 e8 e9 ho8 hu8 hat8 hb7 ho7 hb9;go_wp2_with fail
      go_roundg (ar - (j+1))
      case measure=>rw [Hg.out];omega
      case rel=>exact ⟨j+1,A8,c8,rfl,by omega,by go_num,HB9.out,by rw [HE1.out.1];exact HP9.out,HA8.out,by rw [HE1.out.2];exact HR9.out,HU9⟩
     ·go_simp;refine C1.out.mono ?_;rintro e w7 ⟨KB,kb,rfl,hq,hr7,u7⟩;unfold pv;go_wp2_with fail
      have d7:=u_ (u_ d1 uD (fun f=>f)) u7 (by omega);refine hK.out _ _ ?_ (fun hHeld=>?_)
      ·exact d7
      clear hK K;(try simp only [y_,z_]);have d4:w7.cell? ⟨w2.heap.size,4,none⟩=some (.slice A j c):=(hbD.upd u7 (by omega)).cell 4;refine wpAnyH_takeM (fun w'=>w'.cell? ⟨w2.heap.size,4,none⟩=some (.slice A j c)) (calm_cell _ _) [13,14,15] (i:=1) (v:=?_) rfl (by kernel_rfl) (by kernel_rfl) (by kernel_rfl) (by kernel_rfl) (fun _ _ _ h=>h) (Or.inl ⟨by rfl,?_⟩) (d4) (by assumption) ?_
      rotate_left
      ·intro w hSw;(try dsimp only at hSw);go_simp;try with_reducible rfl
      (try simp only [y_,z_]);clear d4;have hb7:=hbD.upd u7 (by omega);have hp7:=hpD.upd u7 (fun k h e=>by have:=HA.out k h;omega) (fun k _ h e=>by omega);obtain ⟨hn7,cs,ho7,hc7⟩:=id hp7;have hs7:=u7.size;have hsu:=hu.size;have hsd:=uD.size;have hq7:PtK w7 (fun k=>w5.heap.size≤k∧¬At A k) q KB kb:=PtK.mono (fun k _ h=>⟨by have h:wD.heap.size≤k:=h;omega,fun hA=>by have h:wD.heap.size≤k:=h;have:=hsD _ hA;omega⟩) _ _ _ hq
      have HP7:=h_ hp7;have HC7:=h_ hc7;have HQ7:=h_ hq7;clear hp7 hc7 hq7 hpD hbD hrD hq hn7 hsD;refine aR_ (rs:=[12]) (by kernel_rfl) (by simp) ?_;refine aC_ rfl (fun K hK=>?_) aN_;go_simp;refine hK.out _ _ ?_ (fun hHeld=>?_)
      ·exact (hb7.alloc _).cell 1
      clear hK K;(try simp only [y_,z_]);refine aR_ (rs:=[13]) (by kernel_rfl) (by simp) ?_;refine aC_ rfl (fun K hK=>?_) aN_;refine step_app rfl rfl T_pats rfl (ho7.alloc _) rfl (Sl.new _ _ _) rfl (by simp [Value.oneCell']) (by simp only [maxLen];omega) (by omega) ?_;intro A8 c8 w8 ho8 hu8 hat8;have b8:=(hb7.alloc _).upd hu8 (fun h=>by have:=HA.out _ h;omega);have d8:=b8.cell 4;have f8:=b8.frozen 4;have e8:w8.cell? ⟨w2.heap.size,1,none⟩=some (.int .i64 op):=b8.cell 1;refine hK.out _ _ ?_ (fun hHeld=>?_)
      ·exact e8
      clear hK K;(try simp only [y_,z_]);have b9:=b8.set_ 4 (.slice A8 (j+1) c8);have e9:(w8.setCell ⟨w2.heap.size,4,none⟩ (.slice A8 (j+1) c8)).cell? ⟨w2.heap.size,1,none⟩=some (.int .i64 op):=by rw [b9.cell];rfl
      refine wpT 14 ?_;(try simp only [y_,z_]);refine aR_ (rs:=[15]) (by kernel_rfl) (by simp) ?_;refine aC_ rfl (fun K hK=>?_) aN_;go_simp;refine hK.out _ _ ?_ (fun hHeld=>?_)
      ·exact e9
      clear hK K;(try simp only [y_,z_]);refine aD_ (by kernel_rfl) ?_ _
      have hA8:∀k,At A8 k→w5.heap.size≤k:=fun k h=>by
       rcases hat8 k h with h | h
       ·exact HA.out k h
       ·rw [h];simp;omega
      have hal:Upd Non w7 (w7.alloc (.cells #[.int .i64 q.v,.int .i64 q.op,.int .i64 q.imm,.int .i64 q.iv,.slice KB q.kids.length kb] 40)):=Upd.refl.alloc _;have u9:Upd (·=w2.heap.size) w8 (w8.setCell ⟨w2.heap.size,4,none⟩ (.slice A8 (j+1) c8)):=updCell _ _ _ _;have hpa:=HP7.out.upd hal (fun _ _ f=>f) (fun _ _ _ f=>f);have hp8:=PtO.snoc (G':=fun k=>w5.heap.size≤k) hpa (HC7.out.mono hal (fun _ _ _ f=>f) (fun _ _ h=>h)) (PtK.upd hal (fun _ _ _ f=>f) _ _ _ HQ7.out) ho8 hu8 hat8 (fun _ _ h=>h)
      have hp9:=hp8.upd u9 (fun k h e=>by have:=hA8 k h;omega) (fun k _ h e=>by omega);have hr8:=(hr7.upd hal (fun _ _ _ f=>f) (fun f=>f)).upd hu8 (fun k _ h hA=>by have:=HA.out k hA;have h2:k<w.heap.size:=h.2;omega) (fun hA=>by have:=HA.out _ hA;omega)
      have hr9:=hr8.upd u9 (fun k _ h e=>by have h2:k<w.heap.size:=h.2;omega) (by omega)
      have HU9:Upd (fun k=>k=p∨k=w2.heap.size) w5 (w8.setCell ⟨w2.heap.size,4,none⟩ (.slice A8 (j+1) c8)) :=
       ((((hu.then_non uD).trans u7 (fun i _ h=>.inl h)).then_non hal).trans hu8 (fun i hi h=>by have:=HA.out i h;omega)).trans u9 (fun i _ h=>.inr h)
      have hb9:Blk (w8.setCell ⟨w2.heap.size,4,none⟩ (.slice A8 (j+1) c8)) w2.heap.size 40 #[.int .i64 0,.int .i64 op,.int .i64 0,.int .i64 0,.slice A8 (j+1) c8]:=by simpa using b9
      have HE1:Hid ((kidsG G (ss.take (j+1)) ys).1=kids++[q]∧(kidsG G (ss.take (j+1)) ys).2=zs2):=by
       show _∧_;rw [HKN.out];exact ⟨rfl,rfl⟩
      have HA8:=h_ hA8;have HP9:=h_ hp9;have HR9:=h_ hr9;have HB9:=h_ hb9;clear hA8 hpa hp8 hp9 hr8 hr9 b9 b8 d8 f8 e8 e9 ho8 hu8 hat8 hb7 ho7 hb9;go_wp2_with fail
      go_roundg (ar - (j+1))
      case measure=>rw [Hg.out];omega
      case rel=>exact ⟨j+1,A8,c8,rfl,by omega,by go_num,HB9.out,by rw [HE1.out.1];exact HP9.out,HA8.out,by rw [HE1.out.2];exact HR9.out,HU9⟩
    ·obtain rfl:ar=j:=by omega
     have HTK:Hid (ss.take ar=ss):=List.take_of_length_le (by rw [HSL.out];exact Nat.le_refl _);rw [HTK.out] at hpo hrr;obtain ⟨imm,Himm⟩:=nm (kImmF op x).1;obtain ⟨iv,Hiv⟩:=nm (kImmF op x).2;obtain ⟨kids,Hkids⟩:=nm (kidsG G ss ys).1;obtain ⟨zs,Hzs⟩:=nm (kidsG G ss ys).2;rw [Hkids.out,Hzs.out,Himm.out,Hiv.out] at HQY;rw [Hkids.out] at hpo;rw [Hzs.out] at hrr
     have HIE:Hid ((imm,iv)=if hasImmF op then (if (m:Int) % 5=0 then (if op=27 then 1 else 1 - (m:Int) % 2,0) else (0,1+(m:Int) % 2)) else (0,0)):=by
      show _=_;rw [←Himm.out,←Hiv.out,←HM.out];rfl
     have CH:=h_ (r15HasImm_c op wr);obtain ⟨hi,Hhi⟩:=nm (hasImmF op);rw [Hhi.out] at CH HIE;have t1:decide (ar<ar)=false:=by simp
     have d1:wr.cell? ⟨w2.heap.size,1,none⟩=some (.int .i64 op):=hbr.cell 1;go_wp2_with fail
     refine CH.out.mono ?_;rintro e w7 ⟨rfl,rfl⟩
     go_upto_if 103 with fail
     go_cut [] (fun wx=>Blk wx w2.heap.size 40 #[.int .i64 0,.int .i64 op,.int .i64 imm,.int .i64 iv,.slice A ar c]∧Upd (·=w2.heap.size) wr wx)
     case first =>
      cases hi with
      | false =>
       have hie:imm=0∧iv=0:=by have:=HIE.out;rw [if_neg (by decide)] at this;exact ⟨congrArg Prod.fst this,congrArg Prod.snd this⟩
       obtain ⟨rfl,rfl⟩:=hie;go_wp2_with fail
       go_meet
       case rel=>exact ⟨hbr,Upd.refl⟩
      | true =>
       obtain ⟨r2,hma,hmb,hmc,hmd⟩:=m2_facts m;obtain ⟨r5,hna,hnb,hnc,hnd⟩:=m5_facts m;rw [hmb,hnb] at HIE;clear hmb hnb;have c3:=hbr.cell 3;have f3:=hbr.frozen 3;obtain ⟨X1,HX1⟩:=nm (wr.setCell ⟨w2.heap.size,3,none⟩ (.int .i64 (1+(r2:Int))));have x1:=HX1.out;have hx1:Blk X1 w2.heap.size 40 #[.int .i64 0,.int .i64 op,.int .i64 0,.int .i64 (1+(r2:Int)),.slice A ar c]:=by rw [←x1];simpa using hbr.set_ 3 (.int .i64 (1+(r2:Int)))
       have v1:Upd (·=w2.heap.size) wr X1:=by rw [←x1];exact updCell _ _ _ _
       by_cases h5:(r5:Int)=0
       ·have t5:((r5:Int)==0)=true:=by simpa using h5
        obtain ⟨X2,HX2⟩:=nm (X1.setCell ⟨w2.heap.size,3,none⟩ (.int .i64 0));have x2:=HX2.out;have hx2:Blk X2 w2.heap.size 40 #[.int .i64 0,.int .i64 op,.int .i64 0,.int .i64 0,.slice A ar c]:=by rw [←x2];simpa using hx1.set_ 3 (.int .i64 0)
        have v2:Upd (·=w2.heap.size) X1 X2:=by rw [←x2];exact updCell _ _ _ _
        obtain ⟨X3,HX3⟩:=nm (X2.setCell ⟨w2.heap.size,2,none⟩ (.int .i64 (1 - (r2:Int))));have x3:=HX3.out;have hx3:Blk X3 w2.heap.size 40 #[.int .i64 0,.int .i64 op,.int .i64 (1 - (r2:Int)),.int .i64 0,.slice A ar c]:=by rw [←x3];simpa using hx2.set_ 2 (.int .i64 (1 - (r2:Int)))
        have v3:Upd (·=w2.heap.size) X2 X3:=by rw [←x3];exact updCell _ _ _ _
        have V3:=(v1.trans v2 (fun _ _ h=>h)).trans v3 (fun _ _ h=>h);have g1:=hx1.cell 3;have k1:=hx1.frozen 3;have g2:=hx2.cell 2;have k2:=hx2.frozen 2;have g3:=hx3.cell 1;by_cases h27:op=27
        ·have hie:imm=1∧iv=0:=by have:=HIE.out;rw [if_pos rfl,if_pos h5,if_pos h27] at this;exact ⟨congrArg Prod.fst this,congrArg Prod.snd this⟩
         obtain ⟨rfl,rfl⟩:=hie;have t27:(op==27)=true:=by simpa using h27
         obtain ⟨X4,HX4⟩:=nm (X3.setCell ⟨w2.heap.size,2,none⟩ (.int .i64 1));have x4:=HX4.out;have hx4:Blk X4 w2.heap.size 40 #[.int .i64 0,.int .i64 op,.int .i64 1,.int .i64 0,.slice A ar c]:=by rw [←x4];simpa using hx3.set_ 2 (.int .i64 1)
         have v4:Upd (·=w2.heap.size) X3 X4:=by rw [←x4];exact updCell _ _ _ _
         have g4:=hx3.cell 2;have k4:=hx3.frozen 2;have HX4b:=h_ hx4;clear h27 h5 hx4 hx3 hx2 hx1;go_wp2_with fail
         go_meet
         case rel=>exact ⟨HX4b.out,V3.trans v4 (fun _ _ h=>h)⟩
        ·have hie:imm=1 - (r2:Int)∧iv=0:=by have:=HIE.out;rw [if_pos rfl,if_pos h5,if_neg h27] at this;exact ⟨congrArg Prod.fst this,congrArg Prod.snd this⟩
         have t27:(op==27)=false:=by simpa using h27
         have HX3b:Hid (Blk X3 w2.heap.size 40 #[.int .i64 0,.int .i64 op,.int .i64 imm,.int .i64 iv,.slice A ar c]):=by rw [hie.1,hie.2];exact hx3
         clear h27 h5 hx3 hx2 hx1 hie;go_wp2_with fail
         go_meet
         case rel=>exact ⟨HX3b.out,V3⟩
       ·have t5:((r5:Int)==0)=false:=by simpa using h5
        have hie:imm=0∧iv=1+(r2:Int):=by have:=HIE.out;rw [if_pos rfl,if_neg h5] at this;exact ⟨congrArg Prod.fst this,congrArg Prod.snd this⟩
        have HX1b:Hid (Blk X1 w2.heap.size 40 #[.int .i64 0,.int .i64 op,.int .i64 imm,.int .i64 iv,.slice A ar c]):=by rw [hie.1,hie.2];exact hx1
        clear h5 hx1 hie;go_wp2_with fail
        go_meet
        case rel=>exact ⟨HX1b.out,v1⟩
     case rest =>
     obtain ⟨w8,rfl⟩:∃w8:World,w8=wc:=⟨_,rfl⟩;obtain ⟨hb8,u8⟩:=hcut;have g0:=hb8.cell 0;have g1:=hb8.cell 1;have g2:=hb8.cell 2;have g3:=hb8.cell 3;have g4:=hb8.cell 4;have hbR:=((hb2.upd u5 (fun f=>f)).upd hu (by omega)).upd u8 (by omega);have c0:=hbR.cell 0;have c1:=hbR.cell 1;have c2:=hbR.cell 2;have c3:=hbR.cell 3;have c4:=hbR.cell 4;have f0:=hbR.frozen;clear d1 CH;go_wp2_with fail
     rw [set5_eq];refine bodyPost_ret (results_cell_row rfl _ _ w.heap.size 40 _ (0,0) _ rfl (set5_blk hbR _ _ _ _ _) Tryz.underlying40 rfl (by kernel_rfl)) rfl ?_;have uS:=set5_upd w8 w.heap.size (.int .i64 0) (.int .i64 op) (.int .i64 imm) (.int .i64 iv) (.slice A ar c);have hQ:Q=.mk 0 op imm iv kids:=congrArg Prod.fst HQY.out;have hY:Y=zs:=congrArg Prod.snd HQY.out;have hkl:kids.length=ar:=by rw [←Hkids.out,kidsG_len,HSL.out]
     subst hQ hY;have hp8:=(hpo.upd u8 (fun k h e=>by have:=HA.out k h;omega) (fun k _ h e=>by omega)).upd uS (fun k h e=>by have:=HA.out k h;omega) (fun k _ h e=>by omega)
     refine ⟨A,c,by unfold pv;rw [←hkl];rfl,hp8.view (fun k h=>by have:=HA.out k h;show w.heap.size≤k;omega) (fun k _ h=>by show w.heap.size≤k;omega) _ _ _ _,?_,?_⟩
     ·exact ((hrr.upd u8 (fun k _ h e=>by have h2:k<w.heap.size:=h.2;omega) (by omega)).upd uS (fun k _ h e=>by have h2:k<w.heap.size:=h.2;omega) (by omega)).mono (fun k _ h=>h.1)
     ·exact ((((HU2.then_non u5).trans hu (fun i hi h=>by rcases h with h | h;exact h;omega)).trans u8 (fun i hi h=>by omega)).trans uS (fun i hi h=>by omega))
theorem cond_one {w:World} {g:Nat} {x0 x1 x2 x3 x4 x5 x6 x7 x8 x9 x10 x11 x12 x13:Value} (b:Blk w g 43 #[x0,x1,x2,x3,x4,x5,x6,x7,x8,x9,x10,x11,x12,x13]) (c:Cd) :
  Blk ((w.alloc (.cells #[.int .i64 c.kind,.int .i64 c.a,.int .i64 c.b,.int .i64 c.n] 69)).setCell ⟨g,11,none⟩ (.slice (some ⟨w.heap.size,0,none⟩) 1 1)) g 43 #[x0,x1,x2,x3,x4,x5,x6,x7,x8,x9,x10,.slice (some ⟨w.heap.size,0,none⟩) 1 1,x12,x13] ∧
  CondsV ((w.alloc (.cells #[.int .i64 c.kind,.int .i64 c.a,.int .i64 c.b,.int .i64 c.n] 69)).setCell ⟨g,11,none⟩ (.slice (some ⟨w.heap.size,0,none⟩) 1 1)) (fun k=>w.heap.size≤k) (some ⟨w.heap.size,0,none⟩) [c] ∧
  Upd (·=g) w ((w.alloc (.cells #[.int .i64 c.kind,.int .i64 c.a,.int .i64 c.b,.int .i64 c.n] 69)).setCell ⟨g,11,none⟩ (.slice (some ⟨w.heap.size,0,none⟩) 1 1)):=by
 have hg:g<w.heap.size:=b.lt;have ua:Upd Non w (w.alloc (.cells #[.int .i64 c.kind,.int .i64 c.a,.int .i64 c.b,.int .i64 c.n] 69)):=Upd.refl.alloc _;have ba:=Blk.new w 69 #[.int .i64 c.kind,.int .i64 c.a,.int .i64 c.b,.int .i64 c.n];obtain ⟨W,HW⟩:=nm (w.alloc (.cells #[.int .i64 c.kind,.int .i64 c.a,.int .i64 c.b,.int .i64 c.n] 69));rw [HW.out] at ua ba ⊢;have us:Upd (·=g) W (W.setCell ⟨g,11,none⟩ (.slice (some ⟨w.heap.size,0,none⟩) 1 1)):=updCell _ _ _ _;have bs:=ba.upd us (by omega);refine ⟨by simpa using (b.upd ua (fun f=>f)).set_ 11 (.slice (some ⟨w.heap.size,0,none⟩) 1 1),.inr ⟨w.heap.size,0,rfl,Nat.le_refl _,fun i hi=>?_⟩,(ua.mono (fun _ _ f=>f.elim)).trans us (fun _ _ h=>h)⟩
 obtain rfl:i=0:=by simpa using hi
 exact ⟨bs.cell 0,bs.cell 1,bs.cell 2,bs.cell 3⟩
def sideF (op:Int) (p:Pt):Pt:=if 0<p.v then .mk 0 op 0 0 [p] else p
def kCondsF (n:Int) (nv:Nat):List Cd :=
 if n % 9=0 then [⟨1,1,0,0⟩] else if n % 9=1 then [⟨2,1,0,wordF (n.tdiv 9) 3⟩] else if n % 9=2 then [⟨3,nv,0,wordF (n.tdiv 9) 3⟩] else if n % 9=3∧1<nv then [⟨4,1,2,0⟩] else []
def kRuleF (name:ByteArray) (xs:List Int):Rl :=
 let P:=patF (3:Nat) false 3 1 xs.tail
 let R:=numF P.1 [] []
 if R.2.1.length=0 then ⟨name,sideF 21 R.1,.mk 0 1 (wordF (xs.headD 0) 5) 0 [],[],0,0⟩
 else ⟨name,sideF 21 R.1,(patF R.2.1.length false 2 1 P.2).1,kCondsF (xs.headD 0) R.2.1.length,R.2.1.length,0⟩
set_option maxRecDepth 100000 in
set_option maxHeartbeats 1600000 in
theorem kRule_c (w:World) (F:Nat→Prop) (A:Option Addr) (c:Nat) (xs:List Int) (name:ByteArray) (hx:Ints w F A xs) (hc:xs.length≤c) (hI:∀x∈xs,I64 x) (hn:xs.length≤100000000000000) :
  Calls Tryz.prog 15 #[.slice A xs.length c,.string name] w fun e w'=>∃a:RlA,e=.returned (rlv (kRuleF name (xs.take 40)) a)∧RlK w' (fun k=>w.heap.size≤k) (kRuleF name (xs.take 40)) a∧Upd Non w w':=by
 have hx0:=hx.mono (G:=(·<w.heap.size)) (fun k hk _=>hk);obtain ⟨W,HW⟩:=nm (w.alloc (.cells #[.string ⟨#[]⟩,.int .i64 0,.int .i64 0,.int .i64 0,.int .i64 0,.slice none 0 0,.int .i64 0,.int .i64 0,.int .i64 0,.int .i64 0,.slice none 0 0,.slice none 0 0,.int .i64 0,.int .i64 0] 43))
 have hU:Upd Non w W:=by rw [←HW.out];exact Upd.refl.alloc _
 have hb:Blk W w.heap.size 43 #[.string ⟨#[]⟩,.int .i64 0,.int .i64 0,.int .i64 0,.int .i64 0,.slice none 0 0,.int .i64 0,.int .i64 0,.int .i64 0,.int .i64 0,.slice none 0 0,.slice none 0 0,.int .i64 0,.int .i64 0]:=by rw [←HW.out];exact Blk.new _ _ _
 have hsW:W.heap.size=w.heap.size+1:=by rw [←HW.out];simp
 have e0:=HW.out;have hxW:=hx0.upd hU (fun _ _ _ f=>f);obtain ⟨l,Hl⟩:=nm xs.length;rw [Hl.out] at hc;rw [Hl.out];go_enter Tryz.func15,Tryz.ntmps15
 go_upto_region 1 with fail
 go_cut [5] (fun s wx=>∃p,s=.pointer (some ⟨p,0,none⟩)∧w.heap.size<p∧Rd wx (fun k=>w.heap.size<k∧k≠p) p (xs.take 40)∧Upd Non W wx)
 case first =>
  obtain ⟨W2,HW2⟩:=nm (W.alloc (.cells #[] 3));have hU2:Upd Non W W2:=by rw [←HW2.out];exact Upd.refl.alloc _
  have ho2:Own W2 3 1 (some ⟨w.heap.size+1,0,none⟩) 0 0 (icells []):=by rw [←HW2.out];exact own_empty' 3 1 hsW.symm
  have e2:=HW2.out;have hx2:=hxW.upd hU2 (fun _ _ _ f=>f);obtain ⟨m,hm⟩:∃m:Nat,(xs.take 40).length=m:=⟨_,rfl⟩;have hmx:Ints W2 (·<w.heap.size) A (xs.take 40):=hx2.take_ 40;have hml:m≤40:=by rw [←hm];simp;omega
  have H:∀(A3:Option Addr) (c3:Nat) (w3:World),Own w3 3 1 A3 (0+m) c3 (icells []++icells (xs.take 40))→Upd (At (some ⟨w.heap.size+1,0,none⟩)) W2 w3→(∀k,At A3 k→At (some ⟨w.heap.size+1,0,none⟩) k∨k=W2.heap.size) →
    ∃p,Value.pointer (some ⟨w3.heap.size,0,none⟩)=.pointer (some ⟨p,0,none⟩)∧w.heap.size<p∧Rd (w3.alloc (.cells #[.slice A3 m c3,.int .i64 0] 73)) (fun k=>w.heap.size<k∧k≠p) p (xs.take 40)∧Upd Non W (w3.alloc (.cells #[.slice A3 m c3,.int .i64 0] 73)):=by
   intro A3 c3 w3 ho3 hu3 hat3;have hs3:=hu3.size;have hsW2:W2.heap.size=w.heap.size+1+1:=by rw [←HW2.out];simp [hsW]
   obtain ⟨W4,HW4⟩:=nm (w3.alloc (.cells #[.slice A3 m c3,.int .i64 0] 73));have uA:Upd Non w3 W4:=by rw [←HW4.out];exact Upd.refl.alloc _
   rw [HW4.out];refine ⟨w3.heap.size,rfl,by omega,⟨A3,c3,.int .i64 0,?_,?_,?_,fun x hx=>hI x (List.mem_of_mem_take hx)⟩,?_⟩
   ·rw [←HW4.out,hm];exact Blk.new _ _ _
   ·have ho4:=ho3.upd uA (fun _ _ f=>f);refine (Own.ints ho4).mono (fun k hk h=>?_);have hlt:=ho3.lt h;rcases hat3 k h with h | h
    ·rw [At.some_] at h;omega
    ·omega
   ·have:=ho3.le;omega
   ·exact (hU2.trans hu3 (fun i hi h=>by rw [At.some_] at h;omega)).then_non uA
  have hlm:xs.length≤40∧m=xs.length∨40<xs.length∧m=40:=by rw [←hm];simp;omega
  rw [Hl.out] at hlm;rcases hlm with ⟨hl,rfl⟩ | ⟨hl,rfl⟩
  ·go_wp2_with (at_builtin;refine wpList_app rfl rfl T_ints' rfl ho2 rfl hmx (by rw [List.length_map,hm,Nat.mul_one]) (icells_one _) (by simp only [maxLen];omega) (by omega) ?_;intro A3 c3 w3 ho3 hu3 hat3)
   go_meet
   case rel=>exact H A3 c3 w3 ho3 hu3 hat3
  ·have t20:((l:Int)≤40)=False:=by simp;omega
   obtain ⟨b0,o0,rfl,_⟩:=hmx.at_ (k:=0) (by omega)
   go_wp2_with (at_builtin;refine wpList_app rfl rfl T_ints' rfl ho2 rfl hmx (by rw [List.length_map,hm,Nat.mul_one]) (icells_one _) (by simp only [maxLen];omega) (by omega) ?_;intro A3 c3 w3 ho3 hu3 hat3)
   go_meet
   case rel=>exact H A3 c3 w3 ho3 hu3 hat3
 case rest =>
  obtain ⟨w1,rfl⟩:∃w1:World,w1=wc:=⟨_,rfl⟩;obtain ⟨p,rfl,hpw,hR,hU1⟩:=hcut;have hb1:=hb.upd hU1 (fun f=>f);obtain ⟨ys,Hys⟩:=nm (xs.take 40);rw [Hys.out] at hR;have hR1:=hR.mono (G:=fun k=>w.heap.size<k∧k≠p∧k<w1.heap.size) (fun k hk h=>⟨h.1,h.2,hk⟩);have hpl:=hR.lt;have hni:=hR.i64;have C1:=h_ (rdNext_c (fun k h=>h.2.1) hR1);have hUw1:=hU.then_non hU1;clear hx hx0 hxW hI hR hb hU hU1 HW e0 hR1;go_wp2_with fail
  refine C1.out.mono ?_;rintro e w2 ⟨rfl,hR2,hu2⟩;obtain ⟨n,Hn⟩:=nm (ys.headD 0);rw [Hn.out] at hni ⊢;have C2:=h_ (rdPattern_c 3 (by omega) (by omega) false 3 (by omega) w2 _ p ys.tail 1 (.inl rfl) (fun k h=>h.2.1) hR2);have hb2:=hb1.upd hu2 (by omega);clear C1 hR2 hb1;go_wp2_with fail
  refine C2.out.mono ?_;rintro e w3 ⟨K1,k1,rfl,hp3,hR3,hu3⟩;have hPs:=patF_size (3:Nat) false 3 1 ys.tail;obtain ⟨P,HP⟩:=nm (patF (3:Nat) false 3 1 ys.tail);rw [HP.out] at hp3 hR3 hPs ⊢;simp only [kSize] at hPs;have C3:=h_ (Numbered_c P.1 w3 _ K1 k1 hp3 (by omega));have hb3:=hb2.upd hu3 (by omega);have hls:=numF_len P.1 [] [];simp only [List.length_nil,Nat.zero_add] at hls;clear C2 hb2;go_wp2_with fail
  refine C3.out.mono ?_;rintro e w4 ⟨K2,k2,rfl,hp4,hu4⟩;obtain ⟨R,HR⟩:=nm (numF P.1 [] []);rw [HR.out] at hp4 hls ⊢;obtain ⟨q,Hq⟩:=nm R.1;obtain ⟨nv,Hnv⟩:=nm R.2.1.length;obtain ⟨ni,Hni⟩:=nm R.2.2.length;rw [Hq.out] at hp4 ⊢;rw [Hnv.out] at hls ⊢;rw [Hni.out];have hnv:nv≤40:=by omega
  have hb4:=hb3.upd hu4 (fun f=>f);have hR4:=hR3.upd hu4 (fun _ _ _ f=>f) (fun f=>f);have s1:=hUw1.size;have s2:=hu2.size;have s3:=hu3.size;have s4:=hu4.size;have hU4:Upd (·=p) w1 w4:=(hu2.trans hu3 (fun _ _ h=>h)).then_non hu4;clear C3 hls hPs hp3 hR3 hb3;unfold pv
  go_upto_region 4 with fail
  obtain ⟨w5,Hw5⟩:=nm (w4.alloc (.cells #[.int .i64 q.v,.int .i64 q.op,.int .i64 q.imm,.int .i64 q.iv,.slice K2 q.kids.length k2] 40));have u5:Upd Non w4 w5:=by rw [←Hw5.out];exact Upd.refl.alloc _
  have b5:Blk w5 w4.heap.size 40 #[.int .i64 q.v,.int .i64 q.op,.int .i64 q.imm,.int .i64 q.iv,.slice K2 q.kids.length k2]:=by rw [←Hw5.out];exact Blk.new _ _ _
  have s5:w5.heap.size=w4.heap.size+1:=by rw [←Hw5.out];simp
  have hp5:PtK w5 (fun k=>w.heap.size<k∧k≠p∧k<w4.heap.size) q K2 k2:=PtK.upd u5 (fun _ _ _ f=>f) _ _ _ (PtK.mono (fun k hk h=>by omega) _ _ _ hp4)
  have hb5:=hb4.upd u5 (fun f=>f);have hR5:=hR4.upd u5 (fun _ _ _ f=>f) (fun f=>f);have hU5:=hU4.then_non u5;rw [Hw5.out];clear hp4 hb4 hR4 hU4 u5 Hw5;have HR5:=h_ hR5;have HU5:=h_ hU5;have HB5:=h_ hb5;have HP5:=h_ hp5;have Hb5:=h_ b5;have c0:=b5.cell 0;have c1:=b5.cell 1;have c2:=b5.cell 2;have c3:=b5.cell 3;have c4:=b5.cell 4;have f5:=b5.frozen;clear hR5 hU5 hb5 hp5 b5;obtain ⟨v,Hv⟩:=nm q.v;rw [Hv.out] at c0 ⊢
  go_upto_if 31 with fail
  go_cut [] (fun wx=>∃KL kl,Blk wx w4.heap.size 40 #[.int .i64 (sideF 21 q).v,.int .i64 (sideF 21 q).op,.int .i64 (sideF 21 q).imm,.int .i64 (sideF 21 q).iv,.slice KL (sideF 21 q).kids.length kl]∧PtK wx (fun k=>w.heap.size<k∧k≠p∧k≠w4.heap.size) (sideF 21 q) KL kl∧Upd (·=w4.heap.size) w5 wx)
  case first =>
   by_cases hv:0<q.v
   ·have e:sideF 21 q=.mk 0 21 0 0 [q]:=if_pos hv;have hv':0<v:=by rw [←Hv.out];exact hv
    have tv:decide (0<v)=true:=dT_ hv';go_wp2_with fail
    go_meet
    case rel =>
     rw [set5_eq,e];have b:=Hb5.out;rw [Hv.out] at b;have us:=set5_upd w5 w4.heap.size (.int .i64 0) (.int .i64 21) (.int .i64 0) (.int .i64 0) (.slice (some ⟨w4.heap.size+1,0,none⟩) 1 1);have bs:=set5_blk b (.int .i64 0) (.int .i64 21) (.int .i64 0) (.int .i64 0) (.slice (some ⟨w4.heap.size+1,0,none⟩) 1 1);have hs:=us.size;obtain ⟨wA,HwA⟩:=nm (set5 w5 w4.heap.size (.int .i64 0) (.int .i64 21) (.int .i64 0) (.int .i64 0) (.slice (some ⟨w4.heap.size+1,0,none⟩) 1 1));have hsA:wA.heap.size=w4.heap.size+1:=by rw [←HwA.out,←s5];simp [set5]
     rw [HwA.out] at us bs ⊢;have ua:Upd Non wA (wA.alloc (.cells #[.int .i64 v,.int .i64 q.op,.int .i64 q.imm,.int .i64 q.iv,.slice K2 q.kids.length k2] 40)):=Upd.refl.alloc _;have ba:=Blk.new wA 40 #[.int .i64 v,.int .i64 q.op,.int .i64 q.imm,.int .i64 q.iv,.slice K2 q.kids.length k2];rw [hsA,←Hv.out] at ba;rw [←Hv.out] at ua ⊢;refine ⟨some ⟨w4.heap.size+1,0,none⟩,1,bs.upd ua (fun f=>f),?_,us.then_non ua⟩;exact PtK.one _ _ _ _ ba (PtK.upd ua (fun _ _ _ f=>f) _ _ _ (PtK.upd us (fun k hk h=>by omega) _ _ _ (PtK.mono (fun k _ h=>by omega) _ _ _ HP5.out))) (by omega) (by omega)
   ·have e:sideF 21 q=q:=if_neg hv;have hv':¬0<v:=by rw [←Hv.out];exact hv
    have tv:decide (0<v)=false:=dF_ hv';go_wp2_with fail
    go_meet
    case rel=>rw [e];exact ⟨K2,k2,Hb5.out,PtK.mono (fun k _ h=>by omega) _ _ _ HP5.out,Upd.refl⟩
  case rest =>
   obtain ⟨w6,rfl⟩:∃w6:World,w6=wc:=⟨_,rfl⟩;obtain ⟨KL,kl,b6,hp6,u6⟩:=hcut;obtain ⟨L,HL⟩:=nm (sideF 21 q);rw [HL.out] at b6 hp6;have s6:=u6.size;have hb6:=HB5.out.upd u6 (by omega);have hR6:=HR5.out.upd u6 (fun k hk h=>by omega) (by omega);have hU6:Upd (fun k=>k=p∨k=w4.heap.size) w1 w6:=(HU5.out.mono (fun _ _ h=>.inl h)).trans u6 (fun _ _ h=>.inr h);clear HB5 HR5 HU5 HP5 Hb5 c0 c1 c2 c3 c4 f5;have c0:=b6.cell 0;have c1:=b6.cell 1;have c2:=b6.cell 2;have c3:=b6.cell 3;have c4:=b6.cell 4;have f6:=b6.frozen
   go_upto_region 7 with fail
   have HB6:=h_ b6;clear c0 c1 c2 c3 c4 f6 b6;obtain ⟨w7,Hw7⟩:=nm (w6.alloc (.cells #[.string name,.int .i64 L.v,.int .i64 L.op,.int .i64 L.imm,.int .i64 L.iv,.slice KL L.kids.length kl,.int .i64 0,.int .i64 0,.int .i64 0,.int .i64 0,.slice none 0 0,.slice none 0 0,.int .i64 nv,.int .i64 0] 43))
   have u7:Upd Non w6 w7:=by rw [←Hw7.out];exact Upd.refl.alloc _
   have b7:Blk w7 w6.heap.size 43 #[.string name,.int .i64 L.v,.int .i64 L.op,.int .i64 L.imm,.int .i64 L.iv,.slice KL L.kids.length kl,.int .i64 0,.int .i64 0,.int .i64 0,.int .i64 0,.slice none 0 0,.slice none 0 0,.int .i64 nv,.int .i64 0]:=by rw [←Hw7.out];exact Blk.new _ _ _
   have s7:w7.heap.size=w6.heap.size+1:=by rw [←Hw7.out];simp
   rw [Hw7.out];have hb7:=hb6.upd u7 (fun f=>f);have hR7:=hR6.upd u7 (fun _ _ _ f=>f) (fun f=>f);have hU7:=hU6.then_non u7;have hp7:=PtK.upd u7 (fun _ _ _ f=>f) _ _ _ (PtK.mono (G:=fun k=>w.heap.size<k∧k≠p∧k≠w4.heap.size∧k<w6.heap.size) (fun k hk h=>by omega) _ _ _ hp6)
   clear hb6 hR6 hU6 hp6 u7 Hw7 HB6
   have HRe:Hid (nv=0→kRuleF name ys=⟨name,L,.mk 0 1 (wordF n 5) 0 [],[],0,0⟩):=fun h=>by
    unfold kRuleF;simp only [HP.out,HR.out,Hnv.out,Hq.out,HL.out,Hn.out,h,if_true]
   have HRn:Hid (nv≠0→kRuleF name ys=⟨name,L,(patF nv false 2 1 P.2).1,kCondsF n nv,nv,0⟩):=fun h=>by
    unfold kRuleF;simp only [HP.out,HR.out,Hnv.out,Hq.out,HL.out,Hn.out,if_neg h]
   by_cases h0:nv=0
   ·subst h0;have CW:=h_ (word_c w7 n 5 hni);have HRr:=h_ (HRe.out rfl);clear HRe HRn;go_wp2_with fail
    refine CW.out.mono ?_;rintro e w8 ⟨rfl,hu8⟩;obtain ⟨wd,Hwd⟩:=nm (wordF n 5);rw [Hwd.out] at HRr ⊢;have hb8:=hb7.upd hu8 (fun f=>f);have b8:=b7.upd hu8 (fun f=>f);clear b7 hb7 CW;have r6:=b8.cell 6;have r7:=b8.cell 7;have r8:=b8.cell 8;have r9:=b8.cell 9;have r10:=b8.cell 10;have rf:=b8.frozen
    go_upto_region 9 with fail
    rw [setRt_eq];have u9:=setRt_upd w8 w6.heap.size (.int .i64 0) (.int .i64 1) (.int .i64 wd) (.int .i64 0) (.slice none 0 0);have bz:=setRt_blk b8 (.int .i64 0) (.int .i64 1) (.int .i64 wd) (.int .i64 0) (.slice none 0 0);have hz:=hb8.upd u9 (by omega);obtain ⟨wz,Hwz⟩:=nm (setRt w8 w6.heap.size (.int .i64 0) (.int .i64 1) (.int .i64 wd) (.int .i64 0) (.slice none 0 0));rw [Hwz.out] at u9 bz hz ⊢;clear r6 r7 r8 r9 r10 rf b8 hb8;have hpz:=PtK.upd u9 (fun k hk h=>by omega) _ _ _ (PtK.upd hu8 (fun _ _ _ f=>f) _ _ _ hp7);have hUz:Upd (fun k=>k=p∨k=w4.heap.size∨k=w6.heap.size) w1 wz:=((hU7.mono (fun _ _ h=>by omega)).then_non hu8).trans u9 (fun _ _ h=>by omega)
    have r0:=bz.cell 0;have r1:=bz.cell 1;have r2:=bz.cell 2;have r3:=bz.cell 3;have r4:=bz.cell 4;have r5:=bz.cell 5;have r6:=bz.cell 6;have r7:=bz.cell 7;have r8:=bz.cell 8;have r9:=bz.cell 9;have r10:=bz.cell 10;have r11:=bz.cell 11;have r12:=bz.cell 12;have r13:=bz.cell 13;have z0:=hz.cell 0;have z1:=hz.cell 1;have z2:=hz.cell 2;have z3:=hz.cell 3;have z4:=hz.cell 4;have z5:=hz.cell 5;have z6:=hz.cell 6;have z7:=hz.cell 7;have z8:=hz.cell 8;have z9:=hz.cell 9;have z10:=hz.cell 10;have z11:=hz.cell 11;have z12:=hz.cell 12;have z13:=hz.cell 13;have rf:=bz.frozen;have zf:=hz.frozen;have HZ:=h_ hz;clear hz bz;go_wp2_with fail
    rw [set14_eq];refine bodyPost_ret (results_cell_row rfl _ _ w.heap.size 43 _ (0,0) _ rfl (set14_blk HZ.out _ _ _ _ _ _ _ _ _ _ _ _ _ _) Tryz.underlying43 rfl (by kernel_rfl)) rfl ?_
    rw [Hys.out,HRr.out];refine ⟨⟨KL,kl,none,0,none,0⟩,rfl,⟨PtK.mono (fun k hk h=>by omega) _ _ _ (PtK.upd (set14_upd _ _ _ _ _ _ _ _ _ _ _ _ _ _ _ _) (fun k hk h=>by omega) _ _ _ hpz),PtK.leaf,CondsV.nil,by simp⟩,?_⟩
    exact ((hUw1.trans hUz (fun k hk h=>by omega)).trans (set14_upd _ _ _ _ _ _ _ _ _ _ _ _ _ _ _ _) (fun k hk h=>by omega))
   ·have HRr:=h_ (HRn.out h0);have C4:=h_ (rdPattern_c nv (by omega) (by omega) false 2 (by omega) w7 _ p P.2 1 (.inl rfl) (fun k h=>h.2.1) hR7);clear HRe HRn hR7;have th:((nv:Int)=0)=False:=by simp;omega
    have th2:decide ((nv:Int)=0)=false:=by simp;omega
    go_wp2_with fail
    refine C4.out.mono ?_;rintro e w8 ⟨KR,kr,rfl,hp8,-,hu8⟩;obtain ⟨Q,HQ⟩:=nm (patF nv false 2 1 P.2).1;rw [HQ.out] at hp8 HRr ⊢;have hb8:=hb7.upd hu8 (by omega);have b8:=b7.upd hu8 (by omega);have s8:=hu8.size;have hpz:=PtK.upd hu8 (fun k hk h=>by omega) _ _ _ hp7;have hU8:Upd (fun k=>k=p∨k=w4.heap.size) w1 w8:=hU7.trans hu8 (fun k hk h=>.inl h);clear b7 hb7 C4 hp7 hU7;have r6:=b8.cell 6;have r7:=b8.cell 7;have r8:=b8.cell 8;have r9:=b8.cell 9;have r10:=b8.cell 10;have rf:=b8.frozen;unfold pv
    go_upto_region 11 with fail
    rw [setRt_eq];have u9:=setRt_upd w8 w6.heap.size (.int .i64 Q.v) (.int .i64 Q.op) (.int .i64 Q.imm) (.int .i64 Q.iv) (.slice KR Q.kids.length kr);have b9:=setRt_blk b8 (.int .i64 Q.v) (.int .i64 Q.op) (.int .i64 Q.imm) (.int .i64 Q.iv) (.slice KR Q.kids.length kr);have hb9:=hb8.upd u9 (by omega);obtain ⟨w9,Hw9⟩:=nm (setRt w8 w6.heap.size (.int .i64 Q.v) (.int .i64 Q.op) (.int .i64 Q.imm) (.int .i64 Q.iv) (.slice KR Q.kids.length kr));rw [Hw9.out] at u9 b9 hb9 ⊢;have s9:=u9.size;have hpL:=PtK.upd u9 (fun k hk h=>by omega) _ _ _ hpz;have hpR:=PtK.upd u9 (fun k hk h=>by omega) _ _ _ hp8;have hU9:Upd (fun k=>k=p∨k=w4.heap.size∨k=w6.heap.size) w1 w9:=(hU8.mono (fun _ _ h=>by omega)).trans u9 (fun _ _ h=>by omega);clear r6 r7 r8 r9 r10 rf b8 hb8 hpz hp8 hU8 u9 Hw9;have C5:=h_ (pick_c n 9 w9 (by omega) (by omega));go_wp2_with fail
    refine C5.out.mono ?_;rintro e wx ⟨rfl,rfl⟩;obtain ⟨k,Hk⟩:=nm (n % 9);rw [Hk.out];have hk9:0≤k∧k<9:=by rw [←Hk.out];omega
    have HpL:=h_ hpL;have HpR:=h_ hpR;have HU9:=h_ hU9;have Hb9:=h_ hb9;have HB9:=h_ b9;have r11:∀o,(w9.alloc o).cell? ⟨w6.heap.size,11,none⟩=some (.slice none 0 0):=fun o=>(b9.alloc o).cell 11
    have rf:∀o,(w9.alloc o).frozen? ⟨w6.heap.size,11,none⟩=false:=fun o=>(b9.alloc o).frozen 11
    clear hpL hpR hU9 hb9 b9 C5;by_cases k0:k=0
    ·subst k0;have hc:kCondsF n nv=[⟨1,1,0,0⟩]:=by unfold kCondsF;rw [if_pos Hk.out]
     go_upto_region 21 with fail
     obtain ⟨bz,hcz,uz⟩:=cond_one HB9.out ⟨1,1,0,0⟩;simp only at bz hcz uz;have hz:=Hb9.out.upd uz (by omega);obtain ⟨wz,Hwz⟩:=nm ((w9.alloc (.cells #[.int .i64 1,.int .i64 1,.int .i64 0,.int .i64 0] 69)).setCell ⟨w6.heap.size,11,none⟩ (.slice (some ⟨w9.heap.size,0,none⟩) 1 1))
     rw [Hwz.out] at bz hcz uz hz ⊢;obtain ⟨CA,HCA⟩:=nm (some (⟨w9.heap.size,0,none⟩:Addr));rw [HCA.out] at bz hcz;clear r11 rf;have r0:=bz.cell 0;have r1:=bz.cell 1;have r2:=bz.cell 2;have r3:=bz.cell 3;have r4:=bz.cell 4;have r5:=bz.cell 5;have r6:=bz.cell 6;have r7:=bz.cell 7;have r8:=bz.cell 8;have r9:=bz.cell 9;have r10:=bz.cell 10;have r11:=bz.cell 11;have r12:=bz.cell 12;have r13:=bz.cell 13;have z0:=hz.cell 0;have z1:=hz.cell 1;have z2:=hz.cell 2;have z3:=hz.cell 3;have z4:=hz.cell 4;have z5:=hz.cell 5;have z6:=hz.cell 6;have z7:=hz.cell 7;have z8:=hz.cell 8;have z9:=hz.cell 9;have z10:=hz.cell 10;have z11:=hz.cell 11;have z12:=hz.cell 12;have z13:=hz.cell 13;have rf:=bz.frozen;have zf:=hz.frozen;have HZ:=h_ hz;clear hz bz;go_wp2_with fail
     rw [set14_eq];refine bodyPost_ret (results_cell_row rfl _ _ w.heap.size 43 _ (0,0) _ rfl (set14_blk HZ.out _ _ _ _ _ _ _ _ _ _ _ _ _ _) Tryz.underlying43 rfl (by kernel_rfl)) rfl ?_
     rw [Hys.out,HRr.out,hc];have uE:=set14_upd wz w.heap.size (.string name) (.int .i64 L.v) (.int .i64 L.op) (.int .i64 L.imm) (.int .i64 L.iv) (.slice KL L.kids.length kl) (.int .i64 Q.v) (.int .i64 Q.op) (.int .i64 Q.imm) (.int .i64 Q.iv) (.slice KR Q.kids.length kr) (.slice CA 1 1) (.int .i64 nv) (.int .i64 0)
     refine ⟨⟨KL,kl,KR,kr,CA,1⟩,rfl,⟨PtK.mono (fun k hk h=>by omega) _ _ _ (PtK.upd uE (fun k hk h=>by omega) _ _ _ (PtK.upd uz (fun k hk h=>by omega) _ _ _ HpL.out)),PtK.mono (fun k hk h=>by omega) _ _ _ (PtK.upd uE (fun k hk h=>by omega) _ _ _ (PtK.upd uz (fun k hk h=>by omega) _ _ _ HpR.out)),(hcz.upd uE (fun k hk h=>by omega)).mono (fun k hk h=>by omega),by simp⟩,?_⟩
     exact (hUw1.trans (HU9.out.trans uz (fun _ _ h=>by omega)) (fun k hk h=>by omega)).trans uE (fun k hk h=>by omega)
    ·by_cases k1:k=1
     ·subst k1;obtain ⟨d,Hd⟩:=nm (n.tdiv 9);have hdi:I64 d:=by rw [←Hd.out];exact tdiv_i64 hni (by omega)
      have hwr:wrap64 (n.tdiv 9)=d:=by rw [Hd.out];exact wrap64_of hdi
      have CW:=h_ (word_c w9 d 3 hdi);obtain ⟨wd,Hwd⟩:=nm (wordF d 3);rw [Hwd.out] at CW;go_wp2_with fail
      refine CW.out.mono ?_;rintro e wy ⟨rfl,huy⟩;have HpL:=h_ (PtK.upd huy (fun _ _ _ f=>f) _ _ _ HpL.out);have HpR:=h_ (PtK.upd huy (fun _ _ _ f=>f) _ _ _ HpR.out);have HU9:=h_ (HU9.out.then_non huy);have Hb9:=h_ (Hb9.out.upd huy (fun f=>f));have HB9:=h_ (HB9.out.upd huy (fun f=>f));have s9:w8.heap.size≤wy.heap.size:=by have:=huy.size;omega
      have r11:∀o,(wy.alloc o).cell? ⟨w6.heap.size,11,none⟩=some (.slice none 0 0):=fun o=>(HB9.out.alloc o).cell 11
      have rf:∀o,(wy.alloc o).frozen? ⟨w6.heap.size,11,none⟩=false:=fun o=>(HB9.out.alloc o).frozen 11
      have hc:kCondsF n nv=[⟨2,1,0,wd⟩]:=by unfold kCondsF;rw [if_neg (by rw [Hk.out];omega),if_pos Hk.out,Hd.out,Hwd.out]
      go_upto_region 21 with fail
      obtain ⟨bz,hcz,uz⟩:=cond_one HB9.out ⟨2,1,0,wd⟩;simp only at bz hcz uz;have hz:=Hb9.out.upd uz (by omega);obtain ⟨wz,Hwz⟩:=nm ((wy.alloc (.cells #[.int .i64 2,.int .i64 1,.int .i64 0,.int .i64 wd] 69)).setCell ⟨w6.heap.size,11,none⟩ (.slice (some ⟨wy.heap.size,0,none⟩) 1 1))
      rw [Hwz.out] at bz hcz uz hz ⊢;obtain ⟨CA,HCA⟩:=nm (some (⟨wy.heap.size,0,none⟩:Addr));rw [HCA.out] at bz hcz;clear r11 rf;have r0:=bz.cell 0;have r1:=bz.cell 1;have r2:=bz.cell 2;have r3:=bz.cell 3;have r4:=bz.cell 4;have r5:=bz.cell 5;have r6:=bz.cell 6;have r7:=bz.cell 7;have r8:=bz.cell 8;have r9:=bz.cell 9;have r10:=bz.cell 10;have r11:=bz.cell 11;have r12:=bz.cell 12;have r13:=bz.cell 13;have z0:=hz.cell 0;have z1:=hz.cell 1;have z2:=hz.cell 2;have z3:=hz.cell 3;have z4:=hz.cell 4;have z5:=hz.cell 5;have z6:=hz.cell 6;have z7:=hz.cell 7;have z8:=hz.cell 8;have z9:=hz.cell 9;have z10:=hz.cell 10;have z11:=hz.cell 11;have z12:=hz.cell 12;have z13:=hz.cell 13;have rf:=bz.frozen;have zf:=hz.frozen;have HZ:=h_ hz;clear hz bz;go_wp2_with fail
      rw [set14_eq];refine bodyPost_ret (results_cell_row rfl _ _ w.heap.size 43 _ (0,0) _ rfl (set14_blk HZ.out _ _ _ _ _ _ _ _ _ _ _ _ _ _) Tryz.underlying43 rfl (by kernel_rfl)) rfl ?_
      rw [Hys.out,HRr.out,hc];have uE:=set14_upd wz w.heap.size (.string name) (.int .i64 L.v) (.int .i64 L.op) (.int .i64 L.imm) (.int .i64 L.iv) (.slice KL L.kids.length kl) (.int .i64 Q.v) (.int .i64 Q.op) (.int .i64 Q.imm) (.int .i64 Q.iv) (.slice KR Q.kids.length kr) (.slice CA 1 1) (.int .i64 nv) (.int .i64 0)
      refine ⟨⟨KL,kl,KR,kr,CA,1⟩,rfl,⟨PtK.mono (fun k hk h=>by omega) _ _ _ (PtK.upd uE (fun k hk h=>by omega) _ _ _ (PtK.upd uz (fun k hk h=>by omega) _ _ _ HpL.out)),PtK.mono (fun k hk h=>by omega) _ _ _ (PtK.upd uE (fun k hk h=>by omega) _ _ _ (PtK.upd uz (fun k hk h=>by omega) _ _ _ HpR.out)),(hcz.upd uE (fun k hk h=>by omega)).mono (fun k hk h=>by omega),by simp⟩,?_⟩
      exact (hUw1.trans (HU9.out.trans uz (fun _ _ h=>by omega)) (fun k hk h=>by omega)).trans uE (fun k hk h=>by omega)
     ·by_cases k2:k=2
      ·subst k2;obtain ⟨d,Hd⟩:=nm (n.tdiv 9);have hdi:I64 d:=by rw [←Hd.out];exact tdiv_i64 hni (by omega)
       have hwr:wrap64 (n.tdiv 9)=d:=by rw [Hd.out];exact wrap64_of hdi
       have CW:=h_ (word_c w9 d 3 hdi);obtain ⟨wd,Hwd⟩:=nm (wordF d 3);rw [Hwd.out] at CW;go_wp2_with fail
       refine CW.out.mono ?_;rintro e wy ⟨rfl,huy⟩;have HpL:=h_ (PtK.upd huy (fun _ _ _ f=>f) _ _ _ HpL.out);have HpR:=h_ (PtK.upd huy (fun _ _ _ f=>f) _ _ _ HpR.out);have HU9:=h_ (HU9.out.then_non huy);have Hb9:=h_ (Hb9.out.upd huy (fun f=>f));have HB9:=h_ (HB9.out.upd huy (fun f=>f));have s9:w8.heap.size≤wy.heap.size:=by have:=huy.size;omega
       have r11:∀o,(wy.alloc o).cell? ⟨w6.heap.size,11,none⟩=some (.slice none 0 0):=fun o=>(HB9.out.alloc o).cell 11
       have rf:∀o,(wy.alloc o).frozen? ⟨w6.heap.size,11,none⟩=false:=fun o=>(HB9.out.alloc o).frozen 11
       have hc:kCondsF n nv=[⟨3,nv,0,wd⟩]:=by unfold kCondsF;rw [if_neg (by rw [Hk.out];omega),if_neg (by rw [Hk.out];omega),if_pos Hk.out,Hd.out,Hwd.out]
       go_upto_region 21 with fail
       obtain ⟨bz,hcz,uz⟩:=cond_one HB9.out ⟨3,nv,0,wd⟩;simp only at bz hcz uz;have hz:=Hb9.out.upd uz (by omega);obtain ⟨wz,Hwz⟩:=nm ((wy.alloc (.cells #[.int .i64 3,.int .i64 nv,.int .i64 0,.int .i64 wd] 69)).setCell ⟨w6.heap.size,11,none⟩ (.slice (some ⟨wy.heap.size,0,none⟩) 1 1))
       rw [Hwz.out] at bz hcz uz hz ⊢;obtain ⟨CA,HCA⟩:=nm (some (⟨wy.heap.size,0,none⟩:Addr));rw [HCA.out] at bz hcz;clear r11 rf;have r0:=bz.cell 0;have r1:=bz.cell 1;have r2:=bz.cell 2;have r3:=bz.cell 3;have r4:=bz.cell 4;have r5:=bz.cell 5;have r6:=bz.cell 6;have r7:=bz.cell 7;have r8:=bz.cell 8;have r9:=bz.cell 9;have r10:=bz.cell 10;have r11:=bz.cell 11;have r12:=bz.cell 12;have r13:=bz.cell 13;have z0:=hz.cell 0;have z1:=hz.cell 1;have z2:=hz.cell 2;have z3:=hz.cell 3;have z4:=hz.cell 4;have z5:=hz.cell 5;have z6:=hz.cell 6;have z7:=hz.cell 7;have z8:=hz.cell 8;have z9:=hz.cell 9;have z10:=hz.cell 10;have z11:=hz.cell 11;have z12:=hz.cell 12;have z13:=hz.cell 13;have rf:=bz.frozen;have zf:=hz.frozen;have HZ:=h_ hz;clear hz bz;go_wp2_with fail
       rw [set14_eq];refine bodyPost_ret (results_cell_row rfl _ _ w.heap.size 43 _ (0,0) _ rfl (set14_blk HZ.out _ _ _ _ _ _ _ _ _ _ _ _ _ _) Tryz.underlying43 rfl (by kernel_rfl)) rfl ?_
       rw [Hys.out,HRr.out,hc];have uE:=set14_upd wz w.heap.size (.string name) (.int .i64 L.v) (.int .i64 L.op) (.int .i64 L.imm) (.int .i64 L.iv) (.slice KL L.kids.length kl) (.int .i64 Q.v) (.int .i64 Q.op) (.int .i64 Q.imm) (.int .i64 Q.iv) (.slice KR Q.kids.length kr) (.slice CA 1 1) (.int .i64 nv) (.int .i64 0)
       refine ⟨⟨KL,kl,KR,kr,CA,1⟩,rfl,⟨PtK.mono (fun k hk h=>by omega) _ _ _ (PtK.upd uE (fun k hk h=>by omega) _ _ _ (PtK.upd uz (fun k hk h=>by omega) _ _ _ HpL.out)),PtK.mono (fun k hk h=>by omega) _ _ _ (PtK.upd uE (fun k hk h=>by omega) _ _ _ (PtK.upd uz (fun k hk h=>by omega) _ _ _ HpR.out)),(hcz.upd uE (fun k hk h=>by omega)).mono (fun k hk h=>by omega),by simp⟩,?_⟩
       exact (hUw1.trans (HU9.out.trans uz (fun _ _ h=>by omega)) (fun k hk h=>by omega)).trans uE (fun k hk h=>by omega)
      ·by_cases k3:k=3
       ·subst k3;by_cases n1:1<nv
        ·have tn:decide ((1:Int)<(nv:Int))=true:=by simp;omega
         have hc:kCondsF n nv=[⟨4,1,2,0⟩]:=by unfold kCondsF;rw [if_neg (by rw [Hk.out];omega),if_neg (by rw [Hk.out];omega),if_neg (by rw [Hk.out];omega),if_pos ⟨Hk.out,n1⟩]
         go_upto_region 21 with fail
         obtain ⟨bz,hcz,uz⟩:=cond_one HB9.out ⟨4,1,2,0⟩;simp only at bz hcz uz;have hz:=Hb9.out.upd uz (by omega);obtain ⟨wz,Hwz⟩:=nm ((w9.alloc (.cells #[.int .i64 4,.int .i64 1,.int .i64 2,.int .i64 0] 69)).setCell ⟨w6.heap.size,11,none⟩ (.slice (some ⟨w9.heap.size,0,none⟩) 1 1))
         rw [Hwz.out] at bz hcz uz hz ⊢;obtain ⟨CA,HCA⟩:=nm (some (⟨w9.heap.size,0,none⟩:Addr));rw [HCA.out] at bz hcz;clear r11 rf;have r0:=bz.cell 0;have r1:=bz.cell 1;have r2:=bz.cell 2;have r3:=bz.cell 3;have r4:=bz.cell 4;have r5:=bz.cell 5;have r6:=bz.cell 6;have r7:=bz.cell 7;have r8:=bz.cell 8;have r9:=bz.cell 9;have r10:=bz.cell 10;have r11:=bz.cell 11;have r12:=bz.cell 12;have r13:=bz.cell 13;have z0:=hz.cell 0;have z1:=hz.cell 1;have z2:=hz.cell 2;have z3:=hz.cell 3;have z4:=hz.cell 4;have z5:=hz.cell 5;have z6:=hz.cell 6;have z7:=hz.cell 7;have z8:=hz.cell 8;have z9:=hz.cell 9;have z10:=hz.cell 10;have z11:=hz.cell 11;have z12:=hz.cell 12;have z13:=hz.cell 13;have rf:=bz.frozen;have zf:=hz.frozen;have HZ:=h_ hz;clear hz bz;go_wp2_with fail
         rw [set14_eq];refine bodyPost_ret (results_cell_row rfl _ _ w.heap.size 43 _ (0,0) _ rfl (set14_blk HZ.out _ _ _ _ _ _ _ _ _ _ _ _ _ _) Tryz.underlying43 rfl (by kernel_rfl)) rfl ?_
         rw [Hys.out,HRr.out,hc];have uE:=set14_upd wz w.heap.size (.string name) (.int .i64 L.v) (.int .i64 L.op) (.int .i64 L.imm) (.int .i64 L.iv) (.slice KL L.kids.length kl) (.int .i64 Q.v) (.int .i64 Q.op) (.int .i64 Q.imm) (.int .i64 Q.iv) (.slice KR Q.kids.length kr) (.slice CA 1 1) (.int .i64 nv) (.int .i64 0)
         refine ⟨⟨KL,kl,KR,kr,CA,1⟩,rfl,⟨PtK.mono (fun k hk h=>by omega) _ _ _ (PtK.upd uE (fun k hk h=>by omega) _ _ _ (PtK.upd uz (fun k hk h=>by omega) _ _ _ HpL.out)),PtK.mono (fun k hk h=>by omega) _ _ _ (PtK.upd uE (fun k hk h=>by omega) _ _ _ (PtK.upd uz (fun k hk h=>by omega) _ _ _ HpR.out)),(hcz.upd uE (fun k hk h=>by omega)).mono (fun k hk h=>by omega),by simp⟩,?_⟩
         exact (hUw1.trans (HU9.out.trans uz (fun _ _ h=>by omega)) (fun k hk h=>by omega)).trans uE (fun k hk h=>by omega)
        ·have tn:decide ((1:Int)<(nv:Int))=false:=by simp;omega
         have hc:kCondsF n nv=[]:=by unfold kCondsF;rw [if_neg (by rw [Hk.out];omega),if_neg (by rw [Hk.out];omega),if_neg (by rw [Hk.out];omega),if_neg (fun h=>n1 h.2)]
         have uz:Upd (·=w6.heap.size) w9 w9:=Upd.refl;have bz:=HB9.out;have hz:=Hb9.out;have hcz:CondsV w9 (fun k=>w9.heap.size≤k) none []:=CondsV.nil;obtain ⟨wz,Hwz⟩:∃wz:World,Hid (w9=wz):=⟨_,rfl⟩
         go_upto_region 21 with fail
         rw [Hwz.out] at bz hz ⊢;have uz:Upd (·=w6.heap.size) w9 wz:=by rw [←Hwz.out];exact Upd.refl
         have hcz:CondsV wz (fun k=>w9.heap.size≤k) none []:=CondsV.nil;clear r11 rf;have r0:=bz.cell 0;have r1:=bz.cell 1;have r2:=bz.cell 2;have r3:=bz.cell 3;have r4:=bz.cell 4;have r5:=bz.cell 5;have r6:=bz.cell 6;have r7:=bz.cell 7;have r8:=bz.cell 8;have r9:=bz.cell 9;have r10:=bz.cell 10;have r11:=bz.cell 11;have r12:=bz.cell 12;have r13:=bz.cell 13;have z0:=hz.cell 0;have z1:=hz.cell 1;have z2:=hz.cell 2;have z3:=hz.cell 3;have z4:=hz.cell 4;have z5:=hz.cell 5;have z6:=hz.cell 6;have z7:=hz.cell 7;have z8:=hz.cell 8;have z9:=hz.cell 9;have z10:=hz.cell 10;have z11:=hz.cell 11;have z12:=hz.cell 12;have z13:=hz.cell 13;have rf:=bz.frozen;have zf:=hz.frozen;have HZ:=h_ hz;clear hz bz;go_wp2_with fail
         rw [set14_eq];refine bodyPost_ret (results_cell_row rfl _ _ w.heap.size 43 _ (0,0) _ rfl (set14_blk HZ.out _ _ _ _ _ _ _ _ _ _ _ _ _ _) Tryz.underlying43 rfl (by kernel_rfl)) rfl ?_
         rw [Hys.out,HRr.out,hc];have uE:=set14_upd wz w.heap.size (.string name) (.int .i64 L.v) (.int .i64 L.op) (.int .i64 L.imm) (.int .i64 L.iv) (.slice KL L.kids.length kl) (.int .i64 Q.v) (.int .i64 Q.op) (.int .i64 Q.imm) (.int .i64 Q.iv) (.slice KR Q.kids.length kr) (.slice none 0 0) (.int .i64 nv) (.int .i64 0)
         refine ⟨⟨KL,kl,KR,kr,none,0⟩,rfl,⟨PtK.mono (fun k hk h=>by omega) _ _ _ (PtK.upd uE (fun k hk h=>by omega) _ _ _ (PtK.upd uz (fun k hk h=>by omega) _ _ _ HpL.out)),PtK.mono (fun k hk h=>by omega) _ _ _ (PtK.upd uE (fun k hk h=>by omega) _ _ _ (PtK.upd uz (fun k hk h=>by omega) _ _ _ HpR.out)),(hcz.upd uE (fun k hk h=>by omega)).mono (fun k hk h=>by omega),by simp⟩,?_⟩
         exact (hUw1.trans (HU9.out.trans uz (fun _ _ h=>by omega)) (fun k hk h=>by omega)).trans uE (fun k hk h=>by omega)
       ·have hc:kCondsF n nv=[]:=by unfold kCondsF;rw [Hk.out,if_neg k0,if_neg k1,if_neg k2,if_neg (fun h=>k3 h.1)]
        have uz:Upd (·=w6.heap.size) w9 w9:=Upd.refl;have bz:=HB9.out;have hz:=Hb9.out;have hcz:CondsV w9 (fun k=>w9.heap.size≤k) none []:=CondsV.nil;obtain ⟨wz,Hwz⟩:∃wz:World,Hid (w9=wz):=⟨_,rfl⟩
        go_upto_region 21 with fail
        rw [Hwz.out] at bz hz ⊢;have uz:Upd (·=w6.heap.size) w9 wz:=by rw [←Hwz.out];exact Upd.refl
        have hcz:CondsV wz (fun k=>w9.heap.size≤k) none []:=CondsV.nil;clear r11 rf;have r0:=bz.cell 0;have r1:=bz.cell 1;have r2:=bz.cell 2;have r3:=bz.cell 3;have r4:=bz.cell 4;have r5:=bz.cell 5;have r6:=bz.cell 6;have r7:=bz.cell 7;have r8:=bz.cell 8;have r9:=bz.cell 9;have r10:=bz.cell 10;have r11:=bz.cell 11;have r12:=bz.cell 12;have r13:=bz.cell 13;have z0:=hz.cell 0;have z1:=hz.cell 1;have z2:=hz.cell 2;have z3:=hz.cell 3;have z4:=hz.cell 4;have z5:=hz.cell 5;have z6:=hz.cell 6;have z7:=hz.cell 7;have z8:=hz.cell 8;have z9:=hz.cell 9;have z10:=hz.cell 10;have z11:=hz.cell 11;have z12:=hz.cell 12;have z13:=hz.cell 13;have rf:=bz.frozen;have zf:=hz.frozen;have HZ:=h_ hz;clear hz bz;go_wp2_with fail
        rw [set14_eq];refine bodyPost_ret (results_cell_row rfl _ _ w.heap.size 43 _ (0,0) _ rfl (set14_blk HZ.out _ _ _ _ _ _ _ _ _ _ _ _ _ _) Tryz.underlying43 rfl (by kernel_rfl)) rfl ?_
        rw [Hys.out,HRr.out,hc];have uE:=set14_upd wz w.heap.size (.string name) (.int .i64 L.v) (.int .i64 L.op) (.int .i64 L.imm) (.int .i64 L.iv) (.slice KL L.kids.length kl) (.int .i64 Q.v) (.int .i64 Q.op) (.int .i64 Q.imm) (.int .i64 Q.iv) (.slice KR Q.kids.length kr) (.slice none 0 0) (.int .i64 nv) (.int .i64 0)
        refine ⟨⟨KL,kl,KR,kr,none,0⟩,rfl,⟨PtK.mono (fun k hk h=>by omega) _ _ _ (PtK.upd uE (fun k hk h=>by omega) _ _ _ (PtK.upd uz (fun k hk h=>by omega) _ _ _ HpL.out)),PtK.mono (fun k hk h=>by omega) _ _ _ (PtK.upd uE (fun k hk h=>by omega) _ _ _ (PtK.upd uz (fun k hk h=>by omega) _ _ _ HpR.out)),(hcz.upd uE (fun k hk h=>by omega)).mono (fun k hk h=>by omega),by simp⟩,?_⟩
        exact (hUw1.trans (HU9.out.trans uz (fun _ _ h=>by omega)) (fun k hk h=>by omega)).trans uE (fun k hk h=>by omega)
set_option maxRecDepth 100000 in
set_option maxHeartbeats 4000000 in
theorem rItem_c {L:List Tok} {T:List (Bs×Nat)} {fin:Nat} (hL:LOk L T fin) (ax:Bs→Option Rl)
  (HAX:Hid ((∃i,tkF T i=some [97,120,105,111,109])→∀(s:Bs) (w:World),Calls Tryz.prog 18 #[.string (kstr s)] w (AxP ax s w)))
  {w:World} {p:Nat} {A:Option Addr} {c:Nat} {x:St} (h:RdS w p A c L x) (hx:Good T x) :
  Calls Tryz.prog 29 #[.pointer (some ⟨p,0,none⟩)] w (ItemP T w p A c L x (itemF T fin ax (psOf x))):=by
 have hiL:x.i<L.length:=by have:=hL.lt;have:=hx.1;omega
 have hLl:=hL.len;obtain ⟨r,Hr⟩:=nm (itemF T fin ax (psOf x));rw [Hr.out];obtain ⟨W1,HW1⟩:=nm (w.alloc (.cells #[.string ⟨#[]⟩,.int .i64 0,.int .i64 0,.int .i64 0,.int .i64 0,.slice none 0 0,.int .i64 0,.int .i64 0,.int .i64 0,.int .i64 0,.slice none 0 0,.slice none 0 0,.int .i64 0,.int .i64 0] 43))
 have u1:Upd Non w W1:=by rw [←HW1.out];exact Upd.refl.alloc _
 have b1:Blk W1 w.heap.size 43 z14:=by rw [←HW1.out];exact Blk.new _ _ _
 have s1:W1.heap.size=w.heap.size+1:=by rw [←HW1.out];simp
 obtain ⟨W2,HW2⟩:=nm (W1.alloc (.cells #[.string ⟨#[]⟩,.int .i64 0,.bool false] 62));have u2:Upd Non W1 W2:=by rw [←HW2.out];exact Upd.refl.alloc _
 have b2:Blk W2 (w.heap.size+1) 62 z3:=by rw [←HW2.out,←s1];exact Blk.new _ _ _
 have s2:W2.heap.size=w.heap.size+2:=by rw [←HW2.out];simp [s1]
 have b1:=b1.upd u2 (fun f=>f);have U2:=u1.then_non u2;have e1:=HW1.out;have e2:=HW2.out;have HS2:Hid (LocP (P2 w.heap.size) w W2 p A c L x x):=(LocP.start h).turn U2 (fun _ _ f=>f.elim) (fun k q=>.inr (by rcases q with q | q <;> omega));have CI:=h_ (rIs_c HS2.out.rd hiL [97,120,105,111,109]);rw [hL.tk hx.1] at CI;have HX:=h_ hx;have HB1:=h_ b1;have HB2:=h_ b2;have hpw:p<w.heap.size:=h.blk.lt;obtain ⟨z,Hz⟩:=nm (x.why==0&&decide (tkF T x.i=some [97,120,105,111,109]));rw [Hz.out] at CI;clear h b1 b2 u1 u2 U2 HW1 HW2 hx;go_enter Tryz.func29,Tryz.ntmps29;go_wp2_with fail
 refine CI.out.mono ?_;rintro e w3 ⟨rfl,hu3⟩;have HS3:=h_ (HS2.out.non hu3);have HB3:=h_ (HB1.out.upd hu3 (fun f=>f));have HK3:=h_ (HB2.out.upd hu3 (fun f=>f));have s3:=hu3.size;clear CI HS2 HB1 HB2 hu3 e1 e2
 cases z with
 | true =>
  have hz:=Hz.out;simp only [Bool.and_eq_true,beq_iff_eq,decide_eq_true_eq] at hz;have H0:Hid (x.why=0):=hz.1;have HTK:Hid (tkF T x.i=some [97,120,105,111,109]):=hz.2;have hiT:=tkF_lt hz.2;obtain ⟨c0,c1,c2,c3,c4,c5,c6⟩:=HS3.out.rd.cells;have cf:=HS3.out.rd.blk.frozen;have hlt5:x.i<100000:=by omega
  obtain ⟨i,Hi⟩:=nm x.i;rw [Hi.out] at c1 hlt5;obtain ⟨W4,HW4⟩:=nm (w3.setCell ⟨p,1,none⟩ (.int .i64 ((i:Int)+1)));have e4:=HW4.out;have u4:Upd (·=p) w3 W4:=by rw [←e4];exact updCell _ _ _ _
  have h4:RdS W4 p A c L { x with i:=x.i+1 }:=by
   have:=HS3.out.rd.setI (x.i+1);rw [Hi.out] at this ⊢;rw [←e4];exact this
  have HS4:Hid (LocP (P2 w.heap.size) w W4 p A c L x { x with i:=x.i+1 }):=HS3.out.call h4 (fun _ q=>.inl q) (u4.mono (fun _ _ e=>.inl e));have HB4:=h_ (HB3.out.upd u4 (by omega));have HK4:=h_ (HK3.out.upd u4 (by omega));have HG4:Hid (Good T { x with i:=x.i+1 }):=⟨hiT,fun _=>by have:=HX.out.2 hz.1;exact ⟨Nat.le_succ_of_le this.1,Nat.le_succ_of_le this.2⟩⟩;have CW:=h_ (rWordA_c hL HS4.out.rd HG4.out HB4.out hpw);have hs4:=u4.size;clear hz c0 c2 c3 c4 c5 c6 h4 u4;go_wp2_with fail
  refine CW.out.mono ?_;rintro e w5 hw5;have HW5:=h_ hw5;clear hw5 CW c1 cf e4;obtain ⟨_,y,ts,tp,ev,htt,hb5,hy5,hg5,_,ho5,hu5,hr5⟩:=HW5.out;subst ev;have HS5:Hid (LocP (P2 w.heap.size) w w5 p A c L x y):=HS4.out.callP hy5 ho5 (hu5.mono (fun _ _ q=>q.imp_right .inl));have HB5:=h_ hb5
  have HK5:=h_ (HK4.out.upd hu5 (fun q=>by
   rcases q with q | q
   ·exact (HS4.out.pr _ (.inr rfl)).2.2 q
   ·omega))
  have HG5:=h_ hg5;have HR5:=h_ (any_res hr5 (fun q=>(htt q).1));have HTP:Hid (y.why=0→tp=offF T fin (x.i+1)):=fun q=>by rw [(htt q).2];exact hL.pos hiT
  have hs5:=hu5.size;have hyl:y.i<L.length:=by have:=hL.lt;have:=hg5.1;omega
  obtain ⟨W6,HW6⟩:=nm (w5.alloc (.cells #[.string (kstr ts),.int .i64 tp,.bool false] 62));have e6:=HW6.out;have u6:Upd Non w5 W6:=by rw [←e6];exact Upd.refl.alloc _
  have b6:Blk W6 w5.heap.size 62 #[.string (kstr ts),.int .i64 tp,.bool false]:=by rw [←e6];exact Blk.new _ _ _
  have s6:W6.heap.size=w5.heap.size+1:=by rw [←e6];simp
  clear hb5 hy5 hg5 ho5 hu5 hr5 htt HW5 HB4 HK4 HG4 HS4 HB3 HK3;unfold tokVal;clear e6
  go_upto_region 5 with fail
  rw [HW6.out];have HS6:=h_ (HS5.out.non u6);have HB6:=h_ (HB5.out.upd u6 (fun f=>f));have HK6:=h_ (HK5.out.upd u6 (fun f=>f));have CE:=h_ (rExpect_c HS6.out.rd hyl hLl [59]);have HT6:=h_ b6;clear HW6 b6 u6 HS5 HB5 HK5;go_wp2_with fail
  refine CE.out.mono ?_;rintro e w7 ⟨rfl,hy7,hu7⟩;have HS7:Hid (LocP (P2 w.heap.size) w w7 p A c L x (y.exp L [59])):=HS6.out.call hy7 (fun _ hk=>.inl ((exp_own _ _).1 hk)) (hu7.mono (fun _ _ e=>.inl e))
  have HLT:Hid (∀k,St.own (y.exp L [59]) p k→k<w7.heap.size):=fun k q=>hy7.lt q
  have HB7:=h_ (HB6.out.upd hu7 (by omega));have HK7:=h_ (HK6.out.upd hu7 (by omega));have b7:=HT6.out.upd hu7 (by omega);have hs7:=hu7.size;have v0:=b7.cell 0;have HT7:=h_ b7;have CX:=h_ (HAX.out ⟨x.i,HTK.out⟩ ts w7);clear b7 hy7 hu7 CE HS6 HB6 HK6 HT6;go_wp2_with fail
  refine CX.out.mono ?_;rintro e w8 ⟨rl,a,b,rfl,hk8,hu8,ha1,ha2⟩;have HS8:=h_ (HS7.out.non hu8);have HB8:=h_ (HB7.out.upd hu8 (fun f=>f));have HK8:=h_ (HK7.out.upd hu8 (fun f=>f));have HT8:=h_ (HT7.out.upd hu8 (fun f=>f));have HRK:=h_ hk8;have HAB:Hid ((b=true→ax ts=some rl)∧(b=false→ax ts=none)):=⟨ha1,ha2⟩;have hs8:=hu8.size;obtain ⟨W9,HW9⟩:=nm (w8.alloc (.cells (rlCells rl a) 43));have u9:Upd Non w8 W9:=by rw [←HW9.out];exact Upd.refl.alloc _
  have b9:Blk W9 w8.heap.size 43 (rlCells rl a):=by rw [←HW9.out];exact Blk.new _ _ _
  have s9:W9.heap.size=w8.heap.size+1:=by rw [←HW9.out];simp
  clear CX v0 hk8 hu8 ha1 ha2 HS7 HB7 HK7 HT7;unfold rlv rlCells;unfold rlCells at HW9
  go_upto_region 7 with fail
  rw [show w8.alloc _=W9 from HW9.out];obtain ⟨wD,HwD⟩:=nm W9.drew;have uD:Upd Non W9 wD:=by rw [←HwD.out];exact Upd.refl.drew
  have HS:=h_ ((HS8.out.non u9).non uD);have HB:=h_ ((HB8.out.upd u9 (fun f=>f)).upd uD (fun f=>f));have HK:=h_ ((HK8.out.upd u9 (fun f=>f)).upd uD (fun f=>f));have HT:=h_ ((HT8.out.upd u9 (fun f=>f)).upd uD (fun f=>f));have HR:=h_ (b9.upd uD (fun f=>f));have HRK:=h_ ((HRK.out.upd u9 (fun _ _ _ f=>f)).upd uD (fun _ _ _ f=>f))
  refine wp_region_held_drew (S:=fun w'=>w'.cell? ⟨w8.heap.size,0,none⟩=some (.string rl.name)∧w'.cell? ⟨w8.heap.size,1,none⟩=some (.int .i64 rl.l.v)∧w'.cell? ⟨w8.heap.size,2,none⟩=some (.int .i64 rl.l.op)∧w'.cell? ⟨w8.heap.size,3,none⟩=some (.int .i64 rl.l.imm)∧w'.cell? ⟨w8.heap.size,4,none⟩=some (.int .i64 rl.l.iv)∧w'.cell? ⟨w8.heap.size,5,none⟩=some (.slice a.la rl.l.kids.length a.lc)∧w'.cell? ⟨w8.heap.size,6,none⟩=some (.int .i64 rl.r.v)∧w'.cell? ⟨w8.heap.size,7,none⟩=some (.int .i64 rl.r.op)∧w'.cell? ⟨w8.heap.size,8,none⟩=some (.int .i64 rl.r.imm)∧w'.cell? ⟨w8.heap.size,9,none⟩=some (.int .i64 rl.r.iv)∧w'.cell? ⟨w8.heap.size,10,none⟩=some (.slice a.ra rl.r.kids.length a.rc)∧w'.cell? ⟨w8.heap.size,11,none⟩=some (.slice a.ca rl.conds.length a.cc)∧w'.cell? ⟨w8.heap.size,12,none⟩=some (.int .i64 rl.vars)∧w'.cell? ⟨w8.heap.size,13,none⟩=some (.int .i64 rl.imms)∧w'.cell? ⟨w5.heap.size,0,none⟩=some (.string (kstr ts))∧w'.cell? ⟨w5.heap.size,1,none⟩=some (.int .i64 (tp:Nat))∧w'.cell? ⟨w5.heap.size,2,none⟩=some (.bool false)) (by kernel_rfl) (by rw [HwD.out];exact rt_cells HR.out HT.out) (fun hHeld=>?_)
  rw [HwD.out] at hHeld ⊢;clear b9 u9 HS8 HB8 HK8 HT8 HW9;refine wpT 0 ?_;(try simp only [y_,z_]);refine wpT 1 ?_;(try simp only [y_,z_]);refine wpT 2 ?_;(try simp only [y_,z_]);have b0:=HB.out;unfold z14 at b0;have z0:=b0.cell 0;have z1:=b0.cell 1;have z2:=b0.cell 2;have z3:=b0.cell 3;have z4:=b0.cell 4;have z5:=b0.cell 5;have z6:=b0.cell 6;have z7:=b0.cell 7;have z8:=b0.cell 8;have z9:=b0.cell 9;have z10:=b0.cell 10;have z11:=b0.cell 11;have z12:=b0.cell 12;have z13:=b0.cell 13;have zf:=b0.frozen;refine aR_ (rs:=[3]) (by kernel_rfl) (by simp) ?_;refine aC_ rfl (fun K hK=>?_) aN_;go_simp;rw [set14_eq];obtain ⟨W10,HW10⟩:=nm (set14 wD w.heap.size (.string rl.name) (.int .i64 rl.l.v) (.int .i64 rl.l.op) (.int .i64 rl.l.imm) (.int .i64 rl.l.iv) (.slice a.la rl.l.kids.length a.lc) (.int .i64 rl.r.v) (.int .i64 rl.r.op) (.int .i64 rl.r.imm) (.int .i64 rl.r.iv) (.slice a.ra rl.r.kids.length a.rc) (.slice a.ca rl.conds.length a.cc) (.int .i64 rl.vars) (.int .i64 rl.imms))
  rw [HW10.out];have u10:Upd (·=w.heap.size) wD W10:=by rw [←HW10.out];exact set14_upd _ _ _ _ _ _ _ _ _ _ _ _ _ _ _ _
  have hb10:Blk W10 w.heap.size 43 (rlCells rl a):=by rw [←HW10.out];exact set14_blk b0 _ _ _ _ _ _ _ _ _ _ _ _ _ _
  have HS10:=h_ (HS.out.turn (P':=P2 w.heap.size) u10 (fun _ _ e=>.inl e) (fun _ q=>.inl q));have HK10:=h_ (HK.out.upd u10 (by omega));have HT10:=h_ (HT.out.upd u10 (by omega));have HR10:=h_ (HR.out.upd u10 (by omega));have HRK10:=h_ (HRK.out.upd u10 (fun k _ q e=>by omega));have HB10:=h_ hb10;refine hK.out _ _ ?_ (fun hHeld=>?_)
  ·exact rt_cells HR10.out HT10.out
  clear hK K;(try simp only [y_,z_]);clear b0 zf z0 z1 z2 z3 z4 z5 z6 z7 z8 z9 z10 z11 z12 z13 hb10 HW10;have b0:=HK10.out;unfold z3 at b0;have y0:=b0.cell 0;have y1:=b0.cell 1;have y2:=b0.cell 2;have yf:=b0.frozen;refine aR_ (rs:=[4]) (by kernel_rfl) (by simp) ?_;refine aC_ rfl (fun K hK=>?_) aN_;go_simp;rw [set3_eq];obtain ⟨W11,HW11⟩:=nm (set3 W10 (w.heap.size+1) (.string (kstr ts)) (.int .i64 (tp:Nat)) (.bool false));rw [HW11.out];have u11:Upd (·=w.heap.size+1) W10 W11:=by rw [←HW11.out];exact set3_upd _ _ _ _ _
  have hb11:Blk W11 (w.heap.size+1) 62 #[.string (kstr ts),.int .i64 tp,.bool false]:=by rw [←HW11.out];exact set3_blk b0 _ _ _
  have HS11:=h_ (HS10.out.turn (P':=P2 w.heap.size) u11 (fun _ _ e=>.inr e) (fun _ q=>.inl q));have HB11:=h_ (HB10.out.upd u11 (by omega));have HT11:=h_ (HT10.out.upd u11 (by omega));have HR11:=h_ (HR10.out.upd u11 (by omega));have HRK11:=h_ (HRK10.out.upd u11 (fun k _ q e=>by omega));have HK11:=h_ hb11;refine hK.out _ _ ?_ (fun hHeld=>?_)
  ·exact rt_cells HR11.out HT11.out
  clear hK K;(try simp only [y_,z_]);clear b0 yf y0 y1 y2 hb11 HW11;refine aR_ (rs:=[5]) (by kernel_rfl) (by simp) ?_;refine aC_ rfl (fun K hK=>?_) aN_;go_simp;refine hK.out _ _ ?_ (fun hHeld=>?_)
  ·exact rt_cells HR11.out HT11.out
  clear hK K;(try simp only [y_,z_]);refine aD_ (by kernel_rfl) ?_ _;go_wp2_with fail
  refine bodyPost_ret (results_cell_cell_tmp rfl _ _ w.heap.size 43 _ (0,0) _ (w.heap.size+1) 62 _ (0,0) _ rfl HB11.out Tryz.underlying43 rfl (by kernel_rfl) rfl HK11.out Tryz.underlying62 rfl (by kernel_rfl)) rfl ?_
  rw [←Hr.out];exact ⟨rl,a,ts,tp,b,y.exp L [59],rfl,HRK11.out.mono (fun k _ q=>⟨by omega,fun r=>by have:=HLT.out k r;omega⟩),HS11.out.rd,exp_good hL HG5.out,HS11.out.own,HS11.out.upd,item_ax hL H0.out HTK.out HR5.out HG5.out HTP.out HAB.out⟩
 | false =>
  have CE:=h_ (rExpect_c HS3.out.rd hiL hLl [114,117,108,101]);go_wp2_with fail
  refine CE.out.mono ?_;rintro e w4 ⟨rfl,hy4,hu4⟩;have hg0:Good T (x.exp L [114,117,108,101]):=exp_good hL HX.out;have ho0:∀k,(x.exp L [114,117,108,101]).own p k→x.own p k:=fun k hk=>(exp_own _ _).1 hk
  obtain ⟨y0,Hy0⟩:=nm (x.exp L [114,117,108,101]);rw [Hy0.out] at hy4 hg0 ho0;have HS4:Hid (LocP (P2 w.heap.size) w w4 p A c L x y0):=HS3.out.call hy4 (fun k hk=>.inl (ho0 k hk)) (hu4.mono (fun _ _ e=>.inl e));have HB4:=h_ (HB3.out.upd hu4 (by omega));have HK4:=h_ (HK3.out.upd hu4 (by omega));have HG0:=h_ hg0;have hs4:=hu4.size;obtain ⟨c0,c1,c2,c3,c4,c5,c6⟩:=HS4.out.rd.cells;have cf:=HS4.out.rd.blk.frozen;have hcl:=HS4.out.rd.clear;obtain ⟨W5,HW5⟩:=nm ((w4.setCell ⟨p,4,none⟩ (.slice none 0 0)).setCell ⟨p,5,none⟩ (.slice none 0 0));rw [HW5.out] at hcl;have e5:=HW5.out;have HS5:Hid (LocP (P2 w.heap.size) w W5 p A c L x y0.clear):=HS4.out.call hcl.1 (fun k hk=>.inl (.inl ((clear_own _ _ _).1 hk))) (hcl.2.mono (fun _ _ e=>.inl e))
  have HB5:=h_ (HB4.out.upd hcl.2 (by omega));have HK5:=h_ (HK4.out.upd hcl.2 (by omega));have hs5:=hcl.2.size;have HG5:Hid (Good T y0.clear):=⟨hg0.1,fun _=>⟨Nat.zero_le _,Nat.zero_le _⟩⟩;have CW:=h_ (rWordA_c hL HS5.out.rd HG5.out HB5.out hpw);clear CE hy4 hu4 hg0 ho0 c0 c1 c2 c3 c6 hcl HS3 HB3 HK3;go_wp2_with fail
  refine CW.out.mono ?_;rintro e w6 hw6;have HW6:=h_ hw6;clear hw6 CW c4 c5 cf e5 HS4 HB4 HK4;obtain ⟨_,y1,ts,tp,ev,htt,hb6,hy6,hg6,_,ho6,hu6,hr6⟩:=HW6.out;subst ev;have HS6:Hid (LocP (P2 w.heap.size) w w6 p A c L x y1):=HS5.out.callP hy6 ho6 (hu6.mono (fun _ _ q=>q.imp_right .inl));have HB6:=h_ hb6
  have HK6:=h_ (HK5.out.upd hu6 (fun q=>by
   rcases q with q | q
   ·exact (HS5.out.pr _ (.inr rfl)).2.2 q
   ·omega))
  have HG1:=h_ hg6;have hR1:=any_res hr6 (fun q=>(htt q).1);have HR1:Hid (ResS y0 y1 (anyF T fin { psOf y0 with vs:=[],ms:=[] }) (fun v=>v=ts)):=hR1;have HTP:Hid (y1.why=0→tp=offF T fin y0.i):=fun q=>by rw [(htt q).2];exact hL.pos HG5.out.1
  have hs6:=hu6.size;have hyl:y1.i<L.length:=by have:=hL.lt;have:=hg6.1;omega
  obtain ⟨W7,HW7⟩:=nm (w6.alloc (.cells #[.string (kstr ts),.int .i64 tp,.bool false] 62));have u7:Upd Non w6 W7:=by rw [←HW7.out];exact Upd.refl.alloc _
  have b7:Blk W7 w6.heap.size 62 #[.string (kstr ts),.int .i64 tp,.bool false]:=by rw [←HW7.out];exact Blk.new _ _ _
  have s7:W7.heap.size=w6.heap.size+1:=by rw [←HW7.out];simp
  have HS7:Hid (LocP (fun k=>P2 w.heap.size k∨k=w6.heap.size) w W7 p A c L x y1):=HS6.out.turn u7 (fun _ _ f=>f.elim) (fun k q=>q.imp_right (fun q=>by omega))
  have HB7:=h_ (HB6.out.upd u7 (fun f=>f));have HK7:=h_ (HK6.out.upd u7 (fun f=>f));have HT7:=h_ b7;have CE:=h_ (rExpect_c HS7.out.rd hyl hLl [58]);clear hb6 hy6 hg6 ho6 hu6 hr6 hR1 htt b7 u7 HW6 HB5 HK5 HS5 HS6 HB6 HK6;unfold tokVal
  go_upto_region 11 with fail
  rw [HW7.out];go_wp2_with fail
  refine CE.out.mono ?_;rintro e w8 ⟨rfl,hy8,hu8⟩;have HS8:Hid (LocP (fun k=>P2 w.heap.size k∨k=w6.heap.size) w w8 p A c L x (y1.exp L [58])):=HS7.out.call hy8 (fun _ hk=>.inl ((exp_own _ _).1 hk)) (hu8.mono (fun _ _ e=>.inl e))
  have HB8:=h_ (HB7.out.upd hu8 (by omega));have HK8:=h_ (HK7.out.upd hu8 (by omega));have b8:=HT7.out.upd hu8 (by omega);have hs8:=hu8.size;have v0:=b8.cell 0;have HT8:=h_ b8;obtain ⟨W9,HW9⟩:=nm (w8.alloc (.cells #[.string (kstr ts),.int .i64 0,.int .i64 0,.int .i64 0,.int .i64 0,.slice none 0 0,.int .i64 0,.int .i64 0,.int .i64 0,.int .i64 0,.slice none 0 0,.slice none 0 0,.int .i64 0,.int .i64 0] 43))
  have u9:Upd Non w8 W9:=by rw [←HW9.out];exact Upd.refl.alloc _
  have b9:Blk W9 w8.heap.size 43 (rlCells ⟨kstr ts,.mk 0 0 0 0 [],.mk 0 0 0 0 [],[],0,0⟩ ⟨none,0,none,0,none,0⟩):=by rw [←HW9.out];exact Blk.new _ _ _
  have s9:W9.heap.size=w8.heap.size+1:=by rw [←HW9.out];simp
  have HS9:Hid (ItS w W9 p A c L x (y1.exp L [58]) w6.heap.size w8.heap.size ts tp ⟨kstr ts,.mk 0 0 0 0 [],.mk 0 0 0 0 [],[],0,0⟩ ⟨none,0,none,0,none,0⟩):=by
   refine ⟨HS8.out.turn u9 (fun _ _ f=>f.elim) (fun k q=>?_),HB8.out.upd u9 (fun f=>f),HK8.out.upd u9 (fun f=>f),HT8.out.upd u9 (fun f=>f),b9,CdO.none_,by omega,by omega,ItS.leaf,ItS.leaf⟩
   rcases q with q | q | q | q | q
   ·exact .inl (.inl (.inl q))
   ·exact .inl (.inl (.inr q))
   ·exact .inl (.inr q)
   ·exact .inr (by omega)
   ·exact (At.none_ q).elim
  have HG2:Hid (Good T (y1.exp L [58])):=exp_good hL HG1.out;clear CE b8 hy8 hu8 b9 u9 HS7 HB7 HK7 HT7 HS8 HB8 HK8 HT8
  go_upto_region 13 with fail
  rw [HW9.out];obtain ⟨c0,c1,c2,c3,c4,c5,c6⟩:=HS9.out.loc.rd.cells;have cf:=HS9.out.loc.rd.blk.frozen;obtain ⟨W10,HW10⟩:=nm (W9.setCell ⟨p,6,none⟩ (.bool true));have e10:=HW10.out;have HS10:Hid (ItS w W10 p A c L x { (y1.exp L [58]) with left:=true } w6.heap.size w8.heap.size ts tp ⟨kstr ts,.mk 0 0 0 0 [],.mk 0 0 0 0 [],[],0,0⟩ ⟨none,0,none,0,none,0⟩):=by rw [←e10];exact HS9.out.setLeft true
  have HG3:Hid (Good T { (y1.exp L [58]) with left:=true }):=HG2.out;have CT:=h_ (rTerm_any hL true T.length HS10.out.loc.rd HG3.out rfl (fun _=>by omega));clear v0 HW9 c0 c1 c2 c3 c4 c5 HS9 HW7;go_wp2_with fail
  refine CT.out.mono ?_;rintro e w11 ⟨q1,KA1,kc1,y3,rfl,hq,hy,hg,_,ho,hu,hres⟩;have HS11:=h_ (HS10.out.call hy ho hu);have HQ1:=h_ (HS10.out.new hq);have HG4:=h_ hg
  have HR3:Hid (ResS (y1.exp L [58]) y3 (termF T fin true (T.length+1) (psOf (y1.exp L [58]))) (fun v=>v=q1)):=by
   have h2:ResS { (y1.exp L [58]) with left:=true } y3 (termF T fin true (T.length+1) (psOf { (y1.exp L [58]) with left:=true })) (fun v=>v=q1):=ResS.mono hres (fun _ q=>q.1)
   exact h2
  have hs11:=hu.size;have b11:=HS11.out.rl;unfold rlCells at b11;have k1:=b11.cell 1;have k2:=b11.cell 2;have k3:=b11.cell 3;have k4:=b11.cell 4;have k5:=b11.cell 5;have kf:=b11.frozen;clear c6 cf e10 CT hq hy hg ho hu hres HS10;unfold pv
  go_upto_region 15 with fail
  rw [setLf_eq];obtain ⟨W12,HW12⟩:=nm (setLf w11 w8.heap.size (.int .i64 q1.v) (.int .i64 q1.op) (.int .i64 q1.imm) (.int .i64 q1.iv) (.slice KA1 q1.kids.length kc1));rw [HW12.out];have u12:Upd (·=w8.heap.size) w11 W12:=by rw [←HW12.out];exact setLf_upd _ _ _ _ _ _ _
  have b12:Blk W12 w8.heap.size 43 (rlCells ⟨kstr ts,q1,.mk 0 0 0 0 [],[],0,0⟩ ⟨KA1,kc1,none,0,none,0⟩):=by rw [←HW12.out];exact setLf_blk b11 _ _ _ _ _
  have HS12:=h_ (HS11.out.rule u12 b12 rfl rfl rfl HQ1.out HS11.out.kr);clear b11 k1 k2 k3 k4 k5 kf u12 b12 HW12 HS11 HQ1;obtain ⟨c0,c1,c2,c3,c4,c5,c6⟩:=HS12.out.loc.rd.cells;have cf:=HS12.out.loc.rd.blk.frozen;obtain ⟨W13,HW13⟩:=nm (W12.setCell ⟨p,6,none⟩ (.bool false));have e13:=HW13.out;have HS13:Hid (ItS w W13 p A c L x { y3 with left:=false } w6.heap.size w8.heap.size ts tp ⟨kstr ts,q1,.mk 0 0 0 0 [],[],0,0⟩ ⟨KA1,kc1,none,0,none,0⟩):=by rw [←e13];exact HS12.out.setLeft false
  have HG5:Hid (Good T { y3 with left:=false }):=HG4.out;have hyl3:({ y3 with left:=false }:St).i<L.length:=by have:=hL.lt;have:=HG4.out.1;show y3.i<_;omega
  have CE:=h_ (rExpect_c HS13.out.loc.rd hyl3 hLl [61,62]);clear c0 c1 c2 c3 c4 c5 HS12 hyl3;go_wp2_with fail
  refine CE.out.mono ?_;rintro e w14 ⟨rfl,hy14,hu14⟩;have HS14:=h_ (HS13.out.exp hy14 hu14);have hg14:Good T (({ y3 with left:=false }:St).exp L [61,62]):=exp_good hL HG5.out;rw [exp_left_set] at HS14 hg14;have HG6:=h_ hg14;have CT:=h_ (rTerm_any hL false T.length HS14.out.loc.rd HG6.out rfl (fun _=>by omega));clear CE c6 cf e13 hy14 hu14 hg14 HS13;go_wp2_with fail
  refine CT.out.mono ?_;rintro e w15 ⟨q2,KA2,kc2,y5,rfl,hq,hy,hg,hl5,ho,hu,hres⟩;have HS15:=h_ (HS14.out.call hy ho hu);have HQ2:=h_ (HS14.out.new hq);have HG7:=h_ hg;have HL7:Hid (y5.left=false):=hl5
  have HR5:Hid (ResS (y3.exp L [61,62]) y5 (termF T fin false (T.length+1) (psOf (y3.exp L [61,62]))) (fun v=>v=q2)):=by
   have h2:ResS { (y3.exp L [61,62]) with left:=false } y5 (termF T fin false (T.length+1) (psOf { (y3.exp L [61,62]) with left:=false })) (fun v=>v=q2):=ResS.mono hres (fun _ q=>q.1)
   exact h2
  have b15:=HS15.out.rl;unfold rlCells at b15;have k6:=b15.cell 6;have k7:=b15.cell 7;have k8:=b15.cell 8;have k9:=b15.cell 9;have k10:=b15.cell 10;have kf:=b15.frozen;clear CT hq hy hg ho hu hres hl5 HS14;unfold pv
  go_upto_region 18 with fail
  rw [setRt_eq];obtain ⟨W16,HW16⟩:=nm (setRt w15 w8.heap.size (.int .i64 q2.v) (.int .i64 q2.op) (.int .i64 q2.imm) (.int .i64 q2.iv) (.slice KA2 q2.kids.length kc2));rw [HW16.out];have u16:Upd (·=w8.heap.size) w15 W16:=by rw [←HW16.out];exact setRt_upd _ _ _ _ _ _ _
  have b16:Blk W16 w8.heap.size 43 (rlCells ⟨kstr ts,q1,q2,[],0,0⟩ ⟨KA1,kc1,KA2,kc2,none,0⟩):=by rw [←HW16.out];exact setRt_blk b15 _ _ _ _ _
  have HS16:=h_ (HS15.out.rule u16 b16 rfl rfl rfl HS15.out.kl HQ2.out);have hy5l:y5.i<L.length:=by have:=hL.lt;have:=HG7.out.1;omega
  have CI:=h_ (rIs_c HS16.out.loc.rd hy5l [105,102]);rw [hL.tk HG7.out.1] at CI;obtain ⟨z,Hz2⟩:=nm (y5.why==0&&decide (tkF T y5.i=some [105,102]));rw [Hz2.out] at CI;clear b15 k6 k7 k8 k9 k10 kf u16 b16 HW16 HS15 HQ2
  go_upto_if 65 with fail
  refine CI.out.mono ?_;rintro e w17 ⟨rfl,hu17⟩;have HS17:=h_ (HS16.out.non hu17);clear CI hu17 HS16
  go_upto_if 65 with fail
  have hTl:T.length≤100000:=by have:=hL.lt;omega
  go_cut [] (fun wx=>∃(CA:Option Addr) (cc:Nat) (cs:List Cd) (y6:St),Hid (ItS w wx p A c L x y6 w6.heap.size w8.heap.size ts tp ⟨kstr ts,q1,q2,cs,0,0⟩ ⟨KA1,kc1,KA2,kc2,CA,cc⟩)∧Hid (Good T y6)∧Hid (ResS y5 y6 (ifF T fin (T.length+1) (psOf y5)) (fun v=>v=cs)))
  case first =>
   cases z with
   | false =>
    go_wp2_with fail
    go_meet
    case rel=>exact ⟨none,0,[],y5,HS17,HG7,ifF_none Hz2.out⟩
   | true =>
    have hz2:=Hz2.out;simp only [Bool.and_eq_true,beq_iff_eq,decide_eq_true_eq] at hz2;have H05:Hid (y5.why=0):=hz2.1;have HTK:Hid (tkF T y5.i=some [105,102]):=hz2.2;have hiT:=tkF_lt hz2.2;obtain ⟨c0,c1,c2,c3,c4,c5,c6⟩:=HS17.out.loc.rd.cells;have cf:=HS17.out.loc.rd.blk.frozen;have hs18:=HS17.out.setI (y5.i+1);have hg18:Good T { y5 with i:=y5.i+1 }:=⟨hiT,fun _=>by have:=HG7.out.2 hz2.1;exact ⟨Nat.le_succ_of_le this.1,Nat.le_succ_of_le this.2⟩⟩;obtain ⟨i,Hi⟩:=nm y5.i;rw [Hi.out] at c1 hiT hs18;rw [show (.int .i64 ((i+1:Nat):Int):Value)=.int .i64 ((i:Int)+1) from rfl] at hs18;obtain ⟨W18,HW18⟩:=nm (w17.setCell ⟨p,1,none⟩ (.int .i64 ((i:Int)+1)));have e18:=HW18.out;rw [e18,←Hi.out] at hs18;have HS18:=h_ hs18;have HG:=h_ hg18;have HL:Hid (({ y5 with i:=y5.i+1 }:St).left=false):=HL7.out;clear hz2 c0 c2 c3 c4 c5 c6 hs18 hg18
    go_upto_region 20 with fail
    clear c1 cf e18 HW18;obtain ⟨yy,CA,cc,cs,Hyy,Hcs,HS,HG,HL⟩:∃(yy:St) (CA:Option Addr) (cc:Nat) (cs:List Cd),Hid (yy={ y5 with i:=y5.i+1 })∧Hid (cs=[])∧Hid (ItS w W18 p A c L x yy w6.heap.size w8.heap.size ts tp ⟨kstr ts,q1,q2,cs,0,0⟩ ⟨KA1,kc1,KA2,kc2,CA,cc⟩)∧Hid (Good T yy)∧Hid (yy.left=false):=⟨_,none,0,[],rfl,rfl,HS18,HG,HL⟩
    have hcl:cs.length≤100000:=by rw [Hcs.out];exact Nat.zero_le _
    clear HS18 HS17
    go_cut [] (fun wx=>∃(A8:Option Addr) (c8:Nat) (cd:Cd) (y':St),Hid (ItS w wx p A c L x y' w6.heap.size w8.heap.size ts tp ⟨kstr ts,q1,q2,cs++[cd],0,0⟩ ⟨KA1,kc1,KA2,kc2,A8,c8⟩)∧Hid (Good T y')∧Hid (y'.left=false)∧Hid (ResS yy y' (pcondF T fin (psOf yy)) (fun v=>v=cd∧yy.i+1≤y'.i)))
    case first =>
     obtain ⟨wD,HwD⟩:=nm W18.drew;have uD:Upd Non W18 wD:=by rw [←HwD.out];exact Upd.refl.drew
     have HS:=h_ (HS.out.non uD);refine wp_region_held_drew (S:=fun _=>True) (by kernel_rfl) trivial (fun hHeld=>?_);rw [HwD.out];clear uD;refine wpT 0 ?_;(try simp only [y_,z_]);refine wpT 2 ?_;(try simp only [y_,z_]);refine aR_ (rs:=[1,3]) (by kernel_rfl) (by simp) ?_;refine aC_ rfl (fun K hK=>?_) (aC_ rfl (fun K hK=>?_) aN_)
     ·skip;have hbk:=HS.out.rl;unfold rlCells at hbk;have k11:=hbk.cell 11;go_simp;refine hK.out _ _ ?_ (fun hHeld=>?_)
      ·exact trivial
      clear hK K;(try simp only [y_,z_]);clear hbk k11;refine aR_ (rs:=[3]) (by kernel_rfl) (by simp) ?_;refine aC_ rfl (fun K hK=>?_) aN_;go_simp;refine (rCond_c hL HS.out.loc.rd HG.out HL.out).mono ?_;rintro e wc6 ⟨cd,y',rfl,hy',hg',hl',ho',hu',hres⟩;have HS:=h_ (HS.out.call hy' ho' hu');have HG2:=h_ hg';have HL2:Hid (y'.left=false):=hl'.trans HL.out;have HRS:=h_ hres;clear hy' hg' ho' hu' hres hl';go_wp2_with fail
      refine hK.out _ _ ?_ (fun hHeld=>?_)
      ·exact trivial
      clear hK K;(try simp only [y_,z_]);refine aR_ (rs:=[4]) (by kernel_rfl) (by simp) ?_;refine aC_ rfl (fun K hK=>?_) aN_;go_simp;have HS:=h_ (HS.out.non (Upd.refl.alloc (.cells #[.int .i64 cd.kind,.int .i64 cd.a,.int .i64 cd.b,.int .i64 cd.n] 69) (S:=Non)));refine hK.out _ _ ?_ (fun hHeld=>?_)
      ·exact trivial
      clear hK K;(try simp only [y_,z_]);refine aR_ (rs:=[5]) (by kernel_rfl) (by simp) ?_;refine aC_ rfl (fun K hK=>?_) aN_;have hko:=HS.out.cds;unfold CdO at hko;refine step_app rfl rfl T_conds rfl hko rfl (Sl.new _ _ _) rfl (by simp [Value.oneCell']) (by simp only [maxLen];omega) (by omega) ?_;intro A8 c8 w8' ho8 hu8 hat8;have hcd:=CdO.of rfl ho8;have hbk:=HS.out.rl.upd hu8 HS.out.ncd.2.2.2;unfold rlCells at hbk;have k11:=hbk.cell 11;have kf:=hbk.frozen;clear hko ho8;refine hK.out _ _ ?_ (fun hHeld=>?_)
      ·exact trivial
      clear hK K;(try simp only [y_,z_]);refine wpT 6 ?_;(try simp only [y_,z_]);refine aR_ (rs:=[7]) (by kernel_rfl) (by simp) ?_;refine aC_ rfl (fun K hK=>?_) aN_;go_simp;have hb9:=hbk.set_ 11 (.slice A8 (cs++[cd]).length c8);obtain ⟨w9,Hw9⟩:=nm (w8'.setCell ⟨w8.heap.size,11,none⟩ (.slice A8 (cs++[cd]).length c8));have e9:=Hw9.out;rw [e9] at hb9;rw [List.length_append,List.length_singleton] at e9;rw [e9];have u9:Upd (·=w8.heap.size) w8' w9:=by rw [←Hw9.out];exact updCell _ _ _ _
      have HS:=h_ (HS.out.app hu8 hcd hat8 u9 (by simpa [rlCells] using hb9));clear hbk k11 kf hcd hu8 hat8 hb9 u9 Hw9 e9;refine hK.out _ _ ?_ (fun hHeld=>?_)
      ·exact trivial
      clear hK K;(try simp only [y_,z_]);refine aD_ (by kernel_rfl) ?_ _;go_wp2_with fail
      go_meet
      case rel=>exact ⟨A8,c8,cd,y',HS,HG2,HL2,HRS⟩
     ·skip;go_simp;refine (rCond_c hL HS.out.loc.rd HG.out HL.out).mono ?_;rintro e wc6 ⟨cd,y',rfl,hy',hg',hl',ho',hu',hres⟩;have HS:=h_ (HS.out.call hy' ho' hu');have HG2:=h_ hg';have HL2:Hid (y'.left=false):=hl'.trans HL.out;have HRS:=h_ hres;clear hy' hg' ho' hu' hres hl';go_wp2_with fail
      refine hK.out _ _ ?_ (fun hHeld=>?_)
      ·exact trivial
      clear hK K;(try simp only [y_,z_]);have hbk:=HS.out.rl;unfold rlCells at hbk;have k11:=hbk.cell 11;refine wpAnyH_takeM (fun w'=>w'.cell? ⟨w8.heap.size,11,none⟩=some (.slice CA cs.length cc)) (calm_cell _ _) [5,6,7] (i:=1) (v:=?_) rfl (by kernel_rfl) (by kernel_rfl) (by kernel_rfl) (by kernel_rfl) (fun _ _ _ h=>h) (Or.inl ⟨by rfl,?_⟩) (k11) (by assumption) ?_
      rotate_left
      ·intro w hSw;(try dsimp only at hSw);go_simp;try with_reducible rfl
      (try simp only [y_,z_]);clear hbk k11;refine aR_ (rs:=[4]) (by kernel_rfl) (by simp) ?_;refine aC_ rfl (fun K hK=>?_) aN_;go_simp;have HS:=h_ (HS.out.non (Upd.refl.alloc (.cells #[.int .i64 cd.kind,.int .i64 cd.a,.int .i64 cd.b,.int .i64 cd.n] 69) (S:=Non)));refine hK.out _ _ ?_ (fun hHeld=>?_)
      ·exact trivial
      clear hK K;(try simp only [y_,z_]);refine aR_ (rs:=[5]) (by kernel_rfl) (by simp) ?_;refine aC_ rfl (fun K hK=>?_) aN_;have hko:=HS.out.cds;unfold CdO at hko;refine step_app rfl rfl T_conds rfl hko rfl (Sl.new _ _ _) rfl (by simp [Value.oneCell']) (by simp only [maxLen];omega) (by omega) ?_;intro A8 c8 w8' ho8 hu8 hat8;have hcd:=CdO.of rfl ho8;have hbk:=HS.out.rl.upd hu8 HS.out.ncd.2.2.2;unfold rlCells at hbk;have k11:=hbk.cell 11;have kf:=hbk.frozen;clear hko ho8;refine hK.out _ _ ?_ (fun hHeld=>?_)
      ·exact trivial
      clear hK K;(try simp only [y_,z_]);refine wpT 6 ?_;(try simp only [y_,z_]);refine aR_ (rs:=[7]) (by kernel_rfl) (by simp) ?_;refine aC_ rfl (fun K hK=>?_) aN_;go_simp;have hb9:=hbk.set_ 11 (.slice A8 (cs++[cd]).length c8);obtain ⟨w9,Hw9⟩:=nm (w8'.setCell ⟨w8.heap.size,11,none⟩ (.slice A8 (cs++[cd]).length c8));have e9:=Hw9.out;rw [e9] at hb9;rw [List.length_append,List.length_singleton] at e9;rw [e9];have u9:Upd (·=w8.heap.size) w8' w9:=by rw [←Hw9.out];exact updCell _ _ _ _
      have HS:=h_ (HS.out.app hu8 hcd hat8 u9 (by simpa [rlCells] using hb9));clear hbk k11 kf hcd hu8 hat8 hb9 u9 Hw9 e9;refine hK.out _ _ ?_ (fun hHeld=>?_)
      ·exact trivial
      clear hK K;(try simp only [y_,z_]);refine aD_ (by kernel_rfl) ?_ _;go_wp2_with fail
      go_meet
      case rel=>exact ⟨A8,c8,cd,y',HS,HG2,HL2,HRS⟩
    case rest =>
     obtain ⟨CB,cb,cd,y6,HS,HG,HL,HRS⟩:=hcut
     have HC:Hid (CdL T fin y5 y6 (cs++[cd]) (T.length+1)):=by
      show CdL T fin y5 y6 (cs++[cd]) (T.length+1);rw [Hcs.out];have h2:=HRS.out;rw [Hyy.out] at h2;exact CdL.first HTK.out H05.out h2
     have hcb:(cs++[cd]).length+(T.length+1)≤T.length+2:=by rw [Hcs.out];simp;omega
     clear Hyy Hcs HRS hcl HTK H05;go_wp2_with fail
     go_loopg [] (T.length+1) (fun g wr=>∃(fu:Nat) (CB:Option Addr) (cb:Nat) (cs:List Cd) (y:St),Hid (g=fu)∧Hid (ItS w wr p A c L x y w6.heap.size w8.heap.size ts tp ⟨kstr ts,q1,q2,cs,0,0⟩ ⟨KA1,kc1,KA2,kc2,CB,cb⟩)∧Hid (Good T y)∧Hid (y.left=false)∧Hid (CdL T fin y5 y cs fu)∧cs.length+fu≤T.length+2)
     case atStart=>exact ⟨_,CB,cb,cs++[cd],y6,rfl,HS,HG,HL,HC,hcb⟩
     case round =>
      clear HS HG HL HC hcb;obtain ⟨fu,CA,cc,cs,y,Hfu,HS,HG,HL,HC,hcb⟩:=hrel;have hyl:y.i<L.length:=by have:=hL.lt;have:=HG.out.1;omega
      have CI:=h_ (rIs_c HS.out.loc.rd hyl [44]);rw [hL.tk HG.out.1] at CI;obtain ⟨z,Hz3⟩:=nm (y.why==0&&decide (tkF T y.i=some [44]));rw [Hz3.out] at CI;go_wp2_with fail
      refine CI.out.mono ?_;rintro e wi ⟨rfl,hui⟩;have HSi:=h_ (HS.out.non hui);clear HS CI hui
      cases z with
      | false =>
       go_wp2_with fail
       go_meet
       case rel=>exact ⟨CA,cc,cs,y,HSi,HG,CdL.done HC.out Hz3.out⟩
      | true =>
       have hz2:=Hz3.out;simp only [Bool.and_eq_true,beq_iff_eq,decide_eq_true_eq] at hz2;have H05:Hid (y.why=0):=hz2.1;have HTK:Hid (tkF T y.i=some [44]):=hz2.2;have hiT:=tkF_lt hz2.2;obtain ⟨c0,c1,c2,c3,c4,c5,c6⟩:=HSi.out.loc.rd.cells;have cf:=HSi.out.loc.rd.blk.frozen;have hs18:=HSi.out.setI (y.i+1);have hg18:Good T { y with i:=y.i+1 }:=⟨hiT,fun _=>by have:=HG.out.2 hz2.1;exact ⟨Nat.le_succ_of_le this.1,Nat.le_succ_of_le this.2⟩⟩;have HIT:=h_ hiT;obtain ⟨i,Hi⟩:=nm y.i;rw [Hi.out] at c1 hiT hs18;rw [show (.int .i64 ((i+1:Nat):Int):Value)=.int .i64 ((i:Int)+1) from rfl] at hs18;obtain ⟨W18,HW18⟩:=nm (wi.setCell ⟨p,1,none⟩ (.int .i64 ((i:Int)+1)));have e18:=HW18.out;rw [e18,←Hi.out] at hs18;obtain ⟨yy,Hyy,HS,HG,HL⟩:∃(yy:St),Hid (yy={ y with i:=y.i+1 })∧Hid (ItS w W18 p A c L x yy w6.heap.size w8.heap.size ts tp ⟨kstr ts,q1,q2,cs,0,0⟩ ⟨KA1,kc1,KA2,kc2,CA,cc⟩)∧Hid (Good T yy)∧Hid (yy.left=false):=⟨_,rfl,hs18,hg18,HL.out⟩
       have hcl:cs.length≤100002:=by omega
       clear hz2 c0 c2 c3 c4 c5 c6 hs18 hg18 HSi
       go_upto_region 23 with fail
       clear c1 cf e18 HW18;obtain ⟨wD,HwD⟩:=nm W18.drew;have uD:Upd Non W18 wD:=by rw [←HwD.out];exact Upd.refl.drew
       have HS:=h_ (HS.out.non uD);refine wp_region_held_drew (S:=fun _=>True) (by kernel_rfl) trivial (fun hHeld=>?_);rw [HwD.out];clear uD;refine wpT 0 ?_;(try simp only [y_,z_]);refine wpT 2 ?_;(try simp only [y_,z_]);refine aR_ (rs:=[1,3]) (by kernel_rfl) (by simp) ?_;refine aC_ rfl (fun K hK=>?_) (aC_ rfl (fun K hK=>?_) aN_)
       ·skip;have hbk:=HS.out.rl;unfold rlCells at hbk;have k11:=hbk.cell 11;go_simp;refine hK.out _ _ ?_ (fun hHeld=>?_)
        ·exact trivial
        clear hK K;(try simp only [y_,z_]);clear hbk k11;refine aR_ (rs:=[3]) (by kernel_rfl) (by simp) ?_;refine aC_ rfl (fun K hK=>?_) aN_;go_simp;refine (rCond_c hL HS.out.loc.rd HG.out HL.out).mono ?_;rintro e wc6 ⟨cd,y',rfl,hy',hg',hl',ho',hu',hres⟩;have HS:=h_ (HS.out.call hy' ho' hu');have HG2:=h_ hg';have HL2:Hid (y'.left=false):=hl'.trans HL.out;have HRS:=h_ hres;clear hy' hg' ho' hu' hres hl';go_wp2_with fail
        refine hK.out _ _ ?_ (fun hHeld=>?_)
        ·exact trivial
        clear hK K;(try simp only [y_,z_]);refine aR_ (rs:=[4]) (by kernel_rfl) (by simp) ?_;refine aC_ rfl (fun K hK=>?_) aN_;go_simp;have HS:=h_ (HS.out.non (Upd.refl.alloc (.cells #[.int .i64 cd.kind,.int .i64 cd.a,.int .i64 cd.b,.int .i64 cd.n] 69) (S:=Non)));refine hK.out _ _ ?_ (fun hHeld=>?_)
        ·exact trivial
        clear hK K;(try simp only [y_,z_]);refine aR_ (rs:=[5]) (by kernel_rfl) (by simp) ?_;refine aC_ rfl (fun K hK=>?_) aN_;have hko:=HS.out.cds;unfold CdO at hko;refine step_app rfl rfl T_conds rfl hko rfl (Sl.new _ _ _) rfl (by simp [Value.oneCell']) (by simp only [maxLen];omega) (by omega) ?_;intro A8 c8 w8' ho8 hu8 hat8;have hcd:=CdO.of rfl ho8;have hbk:=HS.out.rl.upd hu8 HS.out.ncd.2.2.2;unfold rlCells at hbk;have k11:=hbk.cell 11;have kf:=hbk.frozen;clear hko ho8;refine hK.out _ _ ?_ (fun hHeld=>?_)
        ·exact trivial
        clear hK K;(try simp only [y_,z_]);refine wpT 6 ?_;(try simp only [y_,z_]);refine aR_ (rs:=[7]) (by kernel_rfl) (by simp) ?_;refine aC_ rfl (fun K hK=>?_) aN_;go_simp;have hb9:=hbk.set_ 11 (.slice A8 (cs++[cd]).length c8);obtain ⟨w9,Hw9⟩:=nm (w8'.setCell ⟨w8.heap.size,11,none⟩ (.slice A8 (cs++[cd]).length c8));have e9:=Hw9.out;rw [e9] at hb9;rw [List.length_append,List.length_singleton] at e9;rw [e9];have u9:Upd (·=w8.heap.size) w8' w9:=by rw [←Hw9.out];exact updCell _ _ _ _
        have HS:=h_ (HS.out.app hu8 hcd hat8 u9 (by simpa [rlCells] using hb9));clear hbk k11 kf hcd hu8 hat8 hb9 u9 Hw9 e9;refine hK.out _ _ ?_ (fun hHeld=>?_)
        ·exact trivial
        clear hK K;(try simp only [y_,z_]);refine aD_ (by kernel_rfl) ?_ _
        have HM:Hid (0<fu∧CdL T fin y5 y' (cs++[cd]) (fu - 1)):=by
         have h2:=HRS.out;rw [Hyy.out] at h2;exact CdL.more HC.out HTK.out H05.out HIT.out h2
        have hg0:=HM.out.1;have HC2:Hid (CdL T fin y5 y' (cs++[cd]) (fu - 1)):=HM.out.2;clear HM HRS Hyy HC HTK H05;go_wp2_with fail
        go_roundg (fu - 1)
        case measure=>rw [Hfu.out];omega
        case rel=>exact ⟨fu - 1,A8,c8,cs++[cd],y',rfl,HS,HG2,HL2,HC2,by rw [List.length_append,List.length_singleton];omega⟩
       ·skip;go_simp;refine (rCond_c hL HS.out.loc.rd HG.out HL.out).mono ?_;rintro e wc6 ⟨cd,y',rfl,hy',hg',hl',ho',hu',hres⟩;have HS:=h_ (HS.out.call hy' ho' hu');have HG2:=h_ hg';have HL2:Hid (y'.left=false):=hl'.trans HL.out;have HRS:=h_ hres;clear hy' hg' ho' hu' hres hl';go_wp2_with fail
        refine hK.out _ _ ?_ (fun hHeld=>?_)
        ·exact trivial
        clear hK K;(try simp only [y_,z_]);have hbk:=HS.out.rl;unfold rlCells at hbk;have k11:=hbk.cell 11;refine wpAnyH_takeM (fun w'=>w'.cell? ⟨w8.heap.size,11,none⟩=some (.slice CA cs.length cc)) (calm_cell _ _) [5,6,7] (i:=1) (v:=?_) rfl (by kernel_rfl) (by kernel_rfl) (by kernel_rfl) (by kernel_rfl) (fun _ _ _ h=>h) (Or.inl ⟨by rfl,?_⟩) (k11) (by assumption) ?_
        rotate_left
        ·intro w hSw;(try dsimp only at hSw);go_simp;try with_reducible rfl
        (try simp only [y_,z_]);clear hbk k11;refine aR_ (rs:=[4]) (by kernel_rfl) (by simp) ?_;refine aC_ rfl (fun K hK=>?_) aN_;go_simp;have HS:=h_ (HS.out.non (Upd.refl.alloc (.cells #[.int .i64 cd.kind,.int .i64 cd.a,.int .i64 cd.b,.int .i64 cd.n] 69) (S:=Non)));refine hK.out _ _ ?_ (fun hHeld=>?_)
        ·exact trivial
        clear hK K;(try simp only [y_,z_]);refine aR_ (rs:=[5]) (by kernel_rfl) (by simp) ?_;refine aC_ rfl (fun K hK=>?_) aN_;have hko:=HS.out.cds;unfold CdO at hko;refine step_app rfl rfl T_conds rfl hko rfl (Sl.new _ _ _) rfl (by simp [Value.oneCell']) (by simp only [maxLen];omega) (by omega) ?_;intro A8 c8 w8' ho8 hu8 hat8;have hcd:=CdO.of rfl ho8;have hbk:=HS.out.rl.upd hu8 HS.out.ncd.2.2.2;unfold rlCells at hbk;have k11:=hbk.cell 11;have kf:=hbk.frozen;clear hko ho8;refine hK.out _ _ ?_ (fun hHeld=>?_)
        ·exact trivial
        clear hK K;(try simp only [y_,z_]);refine wpT 6 ?_;(try simp only [y_,z_]);refine aR_ (rs:=[7]) (by kernel_rfl) (by simp) ?_;refine aC_ rfl (fun K hK=>?_) aN_;go_simp;have hb9:=hbk.set_ 11 (.slice A8 (cs++[cd]).length c8);obtain ⟨w9,Hw9⟩:=nm (w8'.setCell ⟨w8.heap.size,11,none⟩ (.slice A8 (cs++[cd]).length c8));have e9:=Hw9.out;rw [e9] at hb9;rw [List.length_append,List.length_singleton] at e9;rw [e9];have u9:Upd (·=w8.heap.size) w8' w9:=by rw [←Hw9.out];exact updCell _ _ _ _
        have HS:=h_ (HS.out.app hu8 hcd hat8 u9 (by simpa [rlCells] using hb9));clear hbk k11 kf hcd hu8 hat8 hb9 u9 Hw9 e9;refine hK.out _ _ ?_ (fun hHeld=>?_)
        ·exact trivial
        clear hK K;(try simp only [y_,z_]);refine aD_ (by kernel_rfl) ?_ _
        have HM:Hid (0<fu∧CdL T fin y5 y' (cs++[cd]) (fu - 1)):=by
         have h2:=HRS.out;rw [Hyy.out] at h2;exact CdL.more HC.out HTK.out H05.out HIT.out h2
        have hg0:=HM.out.1;have HC2:Hid (CdL T fin y5 y' (cs++[cd]) (fu - 1)):=HM.out.2;clear HM HRS Hyy HC HTK H05;go_wp2_with fail
        go_roundg (fu - 1)
        case measure=>rw [Hfu.out];omega
        case rel=>exact ⟨fu - 1,A8,c8,cs++[cd],y',rfl,HS,HG2,HL2,HC2,by rw [List.length_append,List.length_singleton];omega⟩
  case rest =>
   clear HG7 HL7 HS17;obtain ⟨CA,cc,cs,y6,HS,HG,HR6⟩:=hcut;have hyl:y6.i<L.length:=by have:=hL.lt;have:=HG.out.1;omega
   have CE:=h_ (rExpect_c HS.out.loc.rd hyl hLl [59]);go_wp2_with fail
   refine CE.out.mono ?_;rintro e w19 ⟨rfl,hy19,hu19⟩;have HS19:=h_ (HS.out.exp hy19 hu19);have hg19:Good T (y6.exp L [59]):=exp_good hL HG.out;have HGE:=h_ hg19;clear CE hy19 hu19 hg19 HS
   go_upto_region 25 with fail
   obtain ⟨wD,HwD⟩:=nm w19.drew;have uD:Upd Non w19 wD:=by rw [←HwD.out];exact Upd.refl.drew
   have HS:=h_ (HS19.out.non uD);clear HS19 uD;obtain ⟨vn,Hvn⟩:=nm (y6.exp L [59]).vs.length;obtain ⟨mn,Hmn⟩:=nm (y6.exp L [59]).ms.length;have hcs:=HS.out.loc.rd.cells;rw [Hvn.out,Hmn.out] at hcs;refine wp_region_held_drew (S:=fun w'=>w'.cell? ⟨p,4,none⟩=some (.slice (y6.exp L [59]).va vn (y6.exp L [59]).vc)∧w'.cell? ⟨p,5,none⟩=some (.slice (y6.exp L [59]).ma mn (y6.exp L [59]).mc)) (by kernel_rfl) (by rw [HwD.out];exact ⟨hcs.2.2.2.2.1,hcs.2.2.2.2.2.1⟩) (fun hHeld=>?_)
   rw [HwD.out] at hHeld ⊢;clear hcs;refine wpT 0 ?_;(try simp only [y_,z_]);refine wpT 1 ?_;(try simp only [y_,z_]);refine wpT 2 ?_;(try simp only [y_,z_]);refine wpT 3 ?_;(try simp only [y_,z_]);refine wpT 4 ?_;(try simp only [y_,z_]);refine wpT 5 ?_;(try simp only [y_,z_]);refine wpT 6 ?_;(try simp only [y_,z_]);refine wpT 7 ?_;(try simp only [y_,z_]);refine wpT 8 ?_;(try simp only [y_,z_]);refine wpT 9 ?_;(try simp only [y_,z_]);refine wpT 10 ?_;(try simp only [y_,z_]);have hbk:=HS.out.rl;unfold rlCells at hbk;have k12:=hbk.cell 12;have kf:=hbk.frozen;refine aR_ (rs:=[11]) (by kernel_rfl) (by simp) ?_;refine aC_ rfl (fun K hK=>?_) aN_;go_simp;obtain ⟨W20,HW20⟩:=nm (wD.setCell ⟨w8.heap.size,12,none⟩ (.int .i64 (vn:Nat)));rw [HW20.out];have u20:Upd (·=w8.heap.size) wD W20:=by rw [←HW20.out];exact updCell _ _ _ _
   have b20:Blk W20 w8.heap.size 43 (rlCells ⟨kstr ts,q1,q2,cs,vn,0⟩ ⟨KA1,kc1,KA2,kc2,CA,cc⟩):=by
    have:=hbk.set_ 12 (.int .i64 (vn:Nat));rw [HW20.out] at this;simpa [rlCells] using this
   have HS20:=h_ (HS.out.rule u20 b20 rfl rfl rfl HS.out.kl HS.out.kr);have hcs:=HS20.out.loc.rd.cells;rw [Hvn.out,Hmn.out] at hcs;refine hK.out _ _ ?_ (fun hHeld=>?_)
   ·exact ⟨hcs.2.2.2.2.1,hcs.2.2.2.2.2.1⟩
   clear hK K;(try simp only [y_,z_]);clear hcs hbk k12 kf u20 b20 HS HW20;refine wpT 12 ?_;(try simp only [y_,z_]);have hbk:=HS20.out.rl;unfold rlCells at hbk;have k13:=hbk.cell 13;have kf:=hbk.frozen;refine aR_ (rs:=[13]) (by kernel_rfl) (by simp) ?_;refine aC_ rfl (fun K hK=>?_) aN_;go_simp;obtain ⟨W21,HW21⟩:=nm (W20.setCell ⟨w8.heap.size,13,none⟩ (.int .i64 (mn:Nat)));rw [HW21.out];have u21:Upd (·=w8.heap.size) W20 W21:=by rw [←HW21.out];exact updCell _ _ _ _
   have b21:Blk W21 w8.heap.size 43 (rlCells ⟨kstr ts,q1,q2,cs,vn,mn⟩ ⟨KA1,kc1,KA2,kc2,CA,cc⟩):=by
    have:=hbk.set_ 13 (.int .i64 (mn:Nat));rw [HW21.out] at this;simpa [rlCells] using this
   have HS21:=h_ (HS20.out.rule u21 b21 rfl rfl rfl HS20.out.kl HS20.out.kr);have hcs:=HS21.out.loc.rd.cells;rw [Hvn.out,Hmn.out] at hcs;refine hK.out _ _ ?_ (fun hHeld=>?_)
   ·exact ⟨hcs.2.2.2.2.1,hcs.2.2.2.2.2.1⟩
   clear hK K;(try simp only [y_,z_]);clear hcs hbk k13 kf u21 b21 HS20 HW21;refine aD_ (by kernel_rfl) ?_ _
   go_upto_region 26 with fail
   obtain ⟨wE,HwE⟩:=nm W21.drew;have uE:Upd Non W21 wE:=by rw [←HwE.out];exact Upd.refl.drew
   have HS:=h_ (HS21.out.non uE);clear HS21 uE
   refine wp_region_held_drew (S:=fun w'=>w'.cell? ⟨w8.heap.size,0,none⟩=some (.string (kstr ts))∧w'.cell? ⟨w8.heap.size,1,none⟩=some (.int .i64 q1.v)∧w'.cell? ⟨w8.heap.size,2,none⟩=some (.int .i64 q1.op)∧w'.cell? ⟨w8.heap.size,3,none⟩=some (.int .i64 q1.imm)∧w'.cell? ⟨w8.heap.size,4,none⟩=some (.int .i64 q1.iv)∧w'.cell? ⟨w8.heap.size,5,none⟩=some (.slice KA1 q1.kids.length kc1)∧w'.cell? ⟨w8.heap.size,6,none⟩=some (.int .i64 q2.v)∧w'.cell? ⟨w8.heap.size,7,none⟩=some (.int .i64 q2.op)∧w'.cell? ⟨w8.heap.size,8,none⟩=some (.int .i64 q2.imm)∧w'.cell? ⟨w8.heap.size,9,none⟩=some (.int .i64 q2.iv)∧w'.cell? ⟨w8.heap.size,10,none⟩=some (.slice KA2 q2.kids.length kc2)∧w'.cell? ⟨w8.heap.size,11,none⟩=some (.slice CA cs.length cc)∧w'.cell? ⟨w8.heap.size,12,none⟩=some (.int .i64 (vn:Nat))∧w'.cell? ⟨w8.heap.size,13,none⟩=some (.int .i64 (mn:Nat))∧w'.cell? ⟨w6.heap.size,0,none⟩=some (.string (kstr ts))∧w'.cell? ⟨w6.heap.size,1,none⟩=some (.int .i64 (tp:Nat))∧w'.cell? ⟨w6.heap.size,2,none⟩=some (.bool false)) (by kernel_rfl) (by rw [HwE.out];exact rt_cells HS.out.rl HS.out.tk) (fun hHeld=>?_)
   rw [HwE.out] at hHeld ⊢;refine wpT 0 ?_;(try simp only [y_,z_]);refine wpT 1 ?_;(try simp only [y_,z_]);have b0:=HS.out.res;unfold z14 at b0;have z0:=b0.cell 0;have z1:=b0.cell 1;have z2:=b0.cell 2;have z3:=b0.cell 3;have z4:=b0.cell 4;have z5:=b0.cell 5;have z6:=b0.cell 6;have z7:=b0.cell 7;have z8:=b0.cell 8;have z9:=b0.cell 9;have z10:=b0.cell 10;have z11:=b0.cell 11;have z12:=b0.cell 12;have z13:=b0.cell 13;have zf:=b0.frozen;refine aR_ (rs:=[2]) (by kernel_rfl) (by simp) ?_;refine aC_ rfl (fun K hK=>?_) aN_;go_simp;rw [set14_eq];obtain ⟨W22,HW22⟩:=nm (set14 wE w.heap.size (.string (kstr ts)) (.int .i64 q1.v) (.int .i64 q1.op) (.int .i64 q1.imm) (.int .i64 q1.iv) (.slice KA1 q1.kids.length kc1) (.int .i64 q2.v) (.int .i64 q2.op) (.int .i64 q2.imm) (.int .i64 q2.iv) (.slice KA2 q2.kids.length kc2) (.slice CA cs.length cc) (.int .i64 (vn:Nat)) (.int .i64 (mn:Nat)))
   rw [HW22.out];have u22:Upd (·=w.heap.size) wE W22:=by rw [←HW22.out];exact set14_upd _ _ _ _ _ _ _ _ _ _ _ _ _ _ _ _
   have hb22:Blk W22 w.heap.size 43 (rlCells ⟨kstr ts,q1,q2,cs,vn,mn⟩ ⟨KA1,kc1,KA2,kc2,CA,cc⟩):=by rw [←HW22.out];exact set14_blk b0 _ _ _ _ _ _ _ _ _ _ _ _ _ _
   have HK22:=h_ (HS.out.tkr.upd u22 (by omega));have U22:Upd (P2 w.heap.size) wE W22:=u22.mono (fun _ _ e=>.inl e);have HF:=HS.out.fin U22;refine hK.out _ _ ?_ (fun hHeld=>?_)
   ·exact rt_cells HF.2.2.2 HF.2.2.1
   clear hK K;(try simp only [y_,z_]);have HB22:=h_ hb22;clear b0 zf z0 z1 z2 z3 z4 z5 z6 z7 z8 z9 z10 z11 z12 z13 hb22 HW22 HF;have b0:=HK22.out;unfold z3 at b0;have y0_:=b0.cell 0;have y1_:=b0.cell 1;have y2_:=b0.cell 2;have yf:=b0.frozen;refine aR_ (rs:=[3]) (by kernel_rfl) (by simp) ?_;refine aC_ rfl (fun K hK=>?_) aN_;go_simp;rw [set3_eq];obtain ⟨W23,HW23⟩:=nm (set3 W22 (w.heap.size+1) (.string (kstr ts)) (.int .i64 (tp:Nat)) (.bool false));rw [HW23.out];have u23:Upd (·=w.heap.size+1) W22 W23:=by rw [←HW23.out];exact set3_upd _ _ _ _ _
   have hb23:Blk W23 (w.heap.size+1) 62 #[.string (kstr ts),.int .i64 tp,.bool false]:=by rw [←HW23.out];exact set3_blk b0 _ _ _
   have HB23:=h_ (HB22.out.upd u23 (by omega));have HK23:=h_ hb23;have HF:=HS.out.fin (U22.trans (u23.mono (T:=P2 w.heap.size) (fun _ _ e=>.inr e)) (fun _ _ q=>q));refine hK.out _ _ ?_ (fun hHeld=>?_)
   ·exact rt_cells HF.2.2.2 HF.2.2.1
   clear hK K;(try simp only [y_,z_]);have HFF:=h_ HF;clear b0 yf y0_ y1_ y2_ hb23 HW23 HF HB22 HK22;refine aR_ (rs:=[4]) (by kernel_rfl) (by simp) ?_;refine aC_ rfl (fun K hK=>?_) aN_;go_simp;refine hK.out _ _ ?_ (fun hHeld=>?_)
   ·exact rt_cells HFF.out.2.2.2 HFF.out.2.2.1
   clear hK K;(try simp only [y_,z_]);refine aD_ (by kernel_rfl) ?_ _;go_wp2_with fail
   refine bodyPost_ret (results_cell_cell_tmp rfl _ _ w.heap.size 43 _ (0,0) _ (w.heap.size+1) 62 _ (0,0) _ rfl HB23.out Tryz.underlying43 rfl (by kernel_rfl) rfl HK23.out Tryz.underlying62 rfl (by kernel_rfl)) rfl ?_
   rw [←Hr.out];refine ⟨⟨kstr ts,q1,q2,cs,vn,mn⟩,⟨KA1,kc1,KA2,kc2,CA,cc⟩,ts,tp,true,y6.exp L [59],rfl,HFF.out.2.1,HFF.out.1.rd,HGE.out,HFF.out.1.own,HFF.out.1.upd,?_⟩
   have hru:=rule_fin hL (fun e he=>ifF_err he) HR1.out HG1.out HR3.out HG4.out HR5.out HR6.out HG.out;rw [Hvn.out,Hmn.out] at hru;rw [←Hy0.out] at hru;have h1:=HR1.out;rw [←Hy0.out] at h1;exact item_ru hL HX.out Hz.out h1 (by rw [Hy0.out];exact HTP.out) hru
set_option maxRecDepth 100000 in
set_option maxHeartbeats 4000000 in
theorem rParse_c (ax:Bs→Option Rl) (hax:∀s r,ax s=some r→RlSz r) (s:ByteArray)
  (HAX:Hid ((∃i,tkF (goodT (toksF (kx s))) i=some [97,120,105,111,109])→∀(q:Bs) (w:World),Calls Tryz.prog 18 #[.string (kstr q)] w (AxP ax q w))) (w:World) :
  Calls Tryz.prog 10 #[.string s] w (ParseP (parseG ax (kx s)) w):=by
 have HP:Hid (parseG ax (kx s)=if 20000<(kx s).length then .error (6,20000) else loopF (goodT (toksF (kx s))) (finT (toksF (kx s))) ax (kx s).length ((kx s).length+1) ⟨0,[],[]⟩ []):=rfl
 obtain ⟨R,HR⟩:=nm (parseG ax (kx s));rw [HR.out] at HP ⊢;obtain ⟨n,Hn⟩:=nm s.size;have hn:=Hn.out;have hkn:(kx s).length=n:=by rw [kx_len,hn]
 rw [hkn] at HP;have hx0:Upd Non w (w.alloc (.cells #[.int .i64 0,.int .i64 0] 31)):=Upd.refl.alloc _;have hb0:Blk (w.alloc (.cells #[.int .i64 0,.int .i64 0] 31)) w.heap.size 31 #[.int .i64 0,.int .i64 0]:=Blk.new _ _ _;by_cases hbig:20000<n
 ·have t0:decide ((20000:Int)<(n:Int))=true:=dT_ (by omega);have HE:Hid (R=.error (6,20000)):=by show _=_;rw [HP.out,if_pos hbig]
  clear hbig hkn;go_enter Tryz.func10,Tryz.ntmps10;go_wp2_with fail
  refine bodyPost_ret (results_tmp_cell rfl _ _ w.heap.size 31 _ (0,0) _ rfl (Blk.new _ _ _) Tryz.underlying31 rfl (by kernel_rfl)) rfl ?_;exact ⟨Upd.refl.alloc _,.inl ⟨_,HE.out,rfl⟩⟩
 ·have t0:decide ((20000:Int)<(n:Int))=false:=dF_ (by omega);have HE:Hid (R=loopF (goodT (toksF (kx s))) (finT (toksF (kx s))) ax n (n+1) ⟨0,[],[]⟩ []):=by show _=_;rw [HP.out,if_neg hbig]
  have hn2:n≤20000:=by omega
  obtain ⟨W1,HW1⟩:=nm (w.alloc (.cells #[.int .i64 0,.int .i64 0] 31));have CT:=h_ (rTokenize_c s W1 (by omega));have e1:=HW1.out;rw [e1] at hx0 hb0;have s1:W1.heap.size=w.heap.size+1:=by rw [←e1];simp
  have HB1:=h_ hb0;have HU1:=h_ hx0;have hkl:(kx s).length≤20000:=by omega
  obtain ⟨LT,HLT⟩:=nm (toksF (kx s))
  have HLK:Hid (LT.length≤n+1→LOk LT (goodT LT) (finT LT)):=fun q=>by
   have:=lok_toks hkl (by rw [HLT.out,hkn];exact q);rw [HLT.out] at this;exact this
  rw [HLT.out] at CT HE HAX;obtain ⟨T,HT⟩:=nm (goodT LT);obtain ⟨fin,HF⟩:=nm (finT LT);rw [HT.out] at HE HAX HLK;rw [HF.out] at HE HLK;clear hbig hkn hx0 hb0 HP hkl;go_enter Tryz.func10,Tryz.ntmps10;go_wp2_with fail
  refine CT.out.mono ?_;rintro e w2 ⟨A,c,rfl,hto,hat,hlen,hu2⟩;rw [hn] at hlen;have hLK:=HLK.out hlen;obtain ⟨W3,HW3⟩:=nm (w2.alloc (.cells #[.slice A LT.length c,.int .i64 0,.int .i64 0,.int .i64 0,.slice none 0 0,.slice none 0 0,.bool false] 59));have hp2:w2.heap.size=w2.heap.size:=rfl;have u3:Upd Non w2 W3:=by rw [←HW3.out];exact Upd.refl.alloc _
  have b3:Blk W3 w2.heap.size 59 #[.slice A LT.length c,.int .i64 0,.int .i64 0,.int .i64 0,.slice none 0 0,.slice none 0 0,.bool false]:=by rw [←HW3.out];exact Blk.new _ _ _
  have s3:W3.heap.size=w2.heap.size+1:=by rw [←HW3.out];simp
  have hs2:=hu2.size;obtain ⟨W4,HW4⟩:=nm (W3.alloc (.map #[] 0));have u4:Upd Non W3 W4:=by rw [←HW4.out];exact Upd.refl.alloc _
  have HS:Hid (PaS w W4 w2.heap.size (w2.heap.size+1) A c LT ⟨0,0,0,none,0,[],none,0,[],false⟩ none 0 []):=by
   have hr3:RdS W3 w2.heap.size A c LT ⟨0,0,0,none,0,[],none,0,[],false⟩:=⟨b3,(hto.view.upd u3 (fun _ _ _ f=>f)).mono (fun k hk q=>Own.lt hto q),Own.le hto,Own.none_,Own.none_,fun k q=>(At.none_ q).elim,fun k q=>(At.none_ q).elim,fun k q=>(At.none_ q).elim⟩
   refine ⟨hr3.non u4,((HB1.out.upd hu2 (fun f=>f)).upd u3 (fun f=>f)).upd u4 (fun f=>f),RlO.none_,?_,fun k q=>?_,fun k q=>(At.none_ q).elim,by omega,((HU1.out.then_non hu2).then_non u3).then_non u4⟩
   ·rw [nmV_nil,←HW4.out,←s3];exact SMap.new W3
   ·rcases q with q | q | q
    ·omega
    ·exact (At.none_ q).elim
    ·exact (At.none_ q).elim
  have HG:Hid (Good T ⟨0,0,0,none,0,[],none,0,[],false⟩):=⟨Nat.zero_le _,fun _=>⟨Nat.le_refl _,Nat.le_refl _⟩⟩;have HL:Hid (LpR T fin ax n R ⟨0,0,0,none,0,[],none,0,[],false⟩ [] (n+1)):=⟨fun _=>⟨by have:=hLK.lt;show T.length<n+1+0;omega,Nat.zero_le _,HE.out.symm⟩,fun q=>absurd rfl q⟩
  have HLT:Hid (LOk LT T fin):=hLK;have hmm:=@run_makeMap Tryz.prog;clear b3 u3 u4 hs2 hu2 hat hto HW1 HB1 HU1 HE HLK e1 hLK hp2;go_wp2_with fail
  rw [HW3.out,HW4.out];clear hmm
  go_loopg [5,7,8,9,43,47,54,62,71] (n+1) (fun g o _ _ _ _ _ _ _ _ wr=>∃(fu:Nat) (y:St) (OA:Option Addr) (oc:Nat) (Q:List Rl),Hid (g=fu)∧o=.slice OA Q.length oc∧Hid (PaS w wr w2.heap.size (w2.heap.size+1) A c LT y OA oc Q)∧Hid (Good T y)∧Hid (LpR T fin ax n R y Q fu)∧Q.length≤161)
  case atStart=>exact ⟨_,_,none,0,[],rfl,rfl,HS,HG,HL,Nat.zero_le _⟩
  case round =>
   clear HS HG HL;obtain ⟨fu,y,OA,oc,Q,Hfu,rfl,HS,HG,HL,hQl⟩:=hrel;have hyl:y.i<LT.length:=by have:=HLT.out.lt;have:=HG.out.1;omega
   obtain ⟨D,HD⟩:=nm (y.why==0&&decide (offF T fin y.i<n));have HD0:=HD;rw [←HLT.out.pos HG.out.1,posT_eq hyl] at HD
   go_upto_region 6 with fail
   go_cut [36] (fun s wx=>s=.bool D∧Upd Non wr wx)
   case first =>
    obtain ⟨c0,c1,c2,c3,c4,c5,c6⟩:=HS.out.rd.cells;obtain ⟨b,o,rfl,hF,hb,t0_,t1,t2⟩:=HS.out.rd.tok.at_ hyl;have hle:=HS.out.rd.le;have HH:=h_ HS.out.rd;obtain ⟨ln,Hln⟩:=nm LT.length;rw [Hln.out] at c0 hyl hle;obtain ⟨i,Hi⟩:=nm y.i;rw [Hi.out] at c1 hyl;have t1':wr.cell? ⟨b,o+i * 3+1,none⟩=some (.int .i64 LT[y.i].pos):=by rw [←Hi.out];exact t1
    generalize LT[y.i].pos=pz at *;obtain ⟨z,Hz⟩:=nm (y.why==0);rw [Hz.out] at HD
    have CO:Hid (∀w',Upd Non wr w'→Calls Tryz.prog 28 #[.pointer (some ⟨w2.heap.size,0,none⟩)] w' fun e w2=>e=.returned (.bool z)∧w2=w'):=fun w' u=>by
     rw [←Hz.out];exact rOk_c (HH.out.non u)
    obtain ⟨dd,Hdd⟩:=nm (decide (pz<n));rw [Hdd.out] at HD;have hdd:decide ((pz:Int)<(n:Int))=dd:=by rw [←Hdd.out];simp
    clear t0_ t1 t2 c2 c3 c4 c5 c6 HS HG HL CT;obtain ⟨wD,HwD⟩:=nm wr.drew;have uD:Upd Non wr wD:=by rw [←HwD.out];exact Upd.refl.drew
    refine wp_region_held_drew (S:=fun w'=>Upd Non wr w'∧w'.cell? ⟨w2.heap.size,0,none⟩=some (.slice (some ⟨b,o,none⟩) ln c)∧w'.cell? ⟨w2.heap.size,1,none⟩=some (.int .i64 i)∧w'.cell? ⟨b,o+i * 3+1,none⟩=some (.int .i64 pz)) (by kernel_rfl) (by rw [HwD.out];exact ⟨uD,u_ c0 uD (fun f=>f),u_ c1 uD (fun f=>f),u_ t1' uD (fun f=>f)⟩) (fun hHeld=>?_)
    rw [HwD.out] at hHeld ⊢;refine wpT 0 ?_;(try simp only [y_,z_]);refine wpAnyH_takeC (i:=1) (v:=?v1) rfl (by kernel_rfl) (by kernel_rfl) (by kernel_rfl) (fun _ _ _ h=>h) ⟨by rfl,?f1,?a1,?r1,?c1⟩ (by assumption) ?m1
    case r1=>intro w;go_simp;constructor <;> with_reducible rfl
    case c1=>intro W hSw;refine (CO.out _ hSw.1).mono ?_;rintro e w' ⟨rfl,rfl⟩;constructor <;> with_reducible rfl
    (try simp only [y_,z_])
    cases z with
    | false =>
     obtain rfl:D=false:=by rw [←HD.out];rfl
     refine wpT 2 ?_;(try simp only [y_,z_]);refine wpU 3 ?_;(try simp only [y_,z_]);refine wpU 4 ?_;(try simp only [y_,z_]);refine wpU 5 ?_;(try simp only [y_,z_]);refine wpU 6 ?_;(try simp only [y_,z_]);refine wpU 7 ?_;(try simp only [y_,z_]);refine wpU 8 ?_;(try simp only [y_,z_]);refine wpU 9 ?_;(try simp only [y_,z_]);refine wpU 10 ?_;(try simp only [y_,z_]);refine wpU 11 ?_;(try simp only [y_,z_]);refine wpU 12 ?_;(try simp only [y_,z_]);refine wpU 13 ?_;(try simp only [y_,z_]);refine wpU 14 ?_;(try simp only [y_,z_]);refine wpU 15 ?_;(try simp only [y_,z_]);refine wpU 16 ?_;(try simp only [y_,z_]);refine wpT 17 ?_;(try simp only [y_,z_]);refine aD_ (by kernel_rfl) ?_ _;go_wp2_with fail
     go_meet
     case rel=>exact ⟨rfl,uD⟩
    | true =>
     obtain rfl:dd=D:=by rw [←HD.out];rfl
     refine wpT 2 ?_;(try simp only [y_,z_]);refine wpT 3 ?_;(try simp only [y_,z_]);refine wpT 4 ?_;(try simp only [y_,z_]);refine wpT 5 ?_;(try simp only [y_,z_]);refine wpT 6 ?_;(try simp only [y_,z_]);refine wpT 7 ?_;(try simp only [y_,z_]);refine wpT 8 ?_;(try simp only [y_,z_]);refine wpT 9 ?_;(try simp only [y_,z_]);refine wpT 10 ?_;(try simp only [y_,z_]);refine wpT 11 ?_;(try simp only [y_,z_]);refine wpT 12 ?_;(try simp only [y_,z_]);refine wpT 13 ?_;(try simp only [y_,z_]);refine wpT 14 ?_;(try simp only [y_,z_]);refine wpT 15 ?_;(try simp only [y_,z_]);refine wpT 16 ?_;(try simp only [y_,z_]);refine wpT 17 ?_;(try simp only [y_,z_]);refine aD_ (by kernel_rfl) ?_ _;go_wp2_with fail
     go_meet
     case rel=>exact ⟨congrArg Value.bool Hdd.out,uD⟩
   case rest =>
    obtain ⟨rfl,hwc⟩:=hcut;have HS:=h_ (HS.out.non hwc);clear hwc
    cases D with
    | false =>
     obtain ⟨hx1,hx2⟩:=HL.out.exit HG.out.1 HD0.out;have CO:=h_ (rOk_c HS.out.rd);have her:=HS.out.er;have r0:=her.cell 0;have r1:=her.cell 1;have rf:=her.frozen;obtain ⟨z,Hz⟩:=nm (y.why==0);rw [Hz.out] at CO;have HX1:=h_ hx1;have HX2:=h_ hx2;clear hx1 hx2 HL HD HD0
     cases z with
     | true =>
      have H0:Hid (y.why=0):=by have:=Hz.out;exact beq_iff_eq.1 this
      go_wp2_with fail
      refine CO.out.mono ?_;rintro e w5 ⟨rfl,rfl⟩;go_wp2_with fail
      rw [setE2_eq];obtain ⟨f1,f2,f3,f4⟩:=HS.out.res (.int .i64 0) (.int .i64 0);refine bodyPost_ret (results_tmp_cell rfl _ _ w.heap.size 31 _ (0,0) _ rfl f1 Tryz.underlying31 rfl (by kernel_rfl)) rfl ?_;exact ⟨f2,.inr ⟨Q,OA,oc,HX1.out H0.out,rfl,f4,HS.out.out.le⟩⟩
     | false =>
      have H0:Hid (y.why≠0):=by have:=Hz.out;exact fun q=>by rw [q] at this;cases this
      go_wp2_with fail
      refine CO.out.mono ?_;rintro e w5 ⟨rfl,rfl⟩
      go_upto_region 20 with fail
      obtain ⟨wD,HwD⟩:=nm w5.drew;have uD:Upd Non w5 wD:=by rw [←HwD.out];exact Upd.refl.drew
      have HS:=h_ (HS.out.non uD);clear her r0 r1 rf;have hcs:=HS.out.rd.cells;refine wp_region_held_drew (S:=fun w'=>w'.cell? ⟨w2.heap.size,2,none⟩=some (.int .i64 y.why)∧w'.cell? ⟨w2.heap.size,3,none⟩=some (.int .i64 y.ea)) (by kernel_rfl) (by rw [HwD.out];exact ⟨hcs.2.2.1,hcs.2.2.2.1⟩) (fun hHeld=>?_)
      rw [HwD.out] at hHeld ⊢;refine wpT 0 ?_;(try simp only [y_,z_]);refine wpT 1 ?_;(try simp only [y_,z_]);refine wpT 2 ?_;(try simp only [y_,z_]);refine wpT 3 ?_;(try simp only [y_,z_]);refine wpT 4 ?_;(try simp only [y_,z_]);have her:=HS.out.er;have r0:=her.cell 0;have r1:=her.cell 1;have rf:=her.frozen;refine aR_ (rs:=[5]) (by kernel_rfl) (by simp) ?_;refine aC_ rfl (fun K hK=>?_) aN_;go_simp;rw [setE2_eq];have HF:=h_ (HS.out.res (.int .i64 y.why) (.int .i64 y.ea));obtain ⟨W9,HW9⟩:=nm (setE2 wD w.heap.size (.int .i64 y.why) (.int .i64 y.ea));rw [HW9.out] at HF ⊢;refine hK.out _ _ ?_ (fun hHeld=>?_)
      ·exact ⟨HF.out.2.2.1.cell 2,HF.out.2.2.1.cell 3⟩
      clear hK K;(try simp only [y_,z_]);refine aD_ (by kernel_rfl) ?_ _;go_wp2_with fail
      refine bodyPost_ret (results_tmp_cell rfl _ _ w.heap.size 31 _ (0,0) _ rfl HF.out.1 Tryz.underlying31 rfl (by kernel_rfl)) rfl ?_;exact ⟨HF.out.2.1,.inl ⟨_,HX2.out H0.out,rfl⟩⟩
    | true =>
     have hD:=HD0.out;simp only [Bool.and_eq_true,beq_iff_eq,decide_eq_true_eq] at hD;have H0:=h_ hD.1;have HDT:=h_ hD.2;have CIT:=h_ (rItem_c HLT.out ax HAX HS.out.rd HG.out);clear hD HD HD0 CT;go_wp2_with fail
     refine CIT.out.mono ?_;rintro e w5 ⟨rl,a,ts,tp,b,y',rfl,hrk,hrd',hg',ho',hu',hres⟩;have HS5:=h_ (HS.out.call hrd' ho' hu');have hmw:w2.heap.size+1<wc.heap.size:=HS.out.map.lt;have hoa:∀k,At OA k→k<wc.heap.size:=fun k q=>HS.out.out.lt q
     have hs5:=hu'.size;obtain ⟨m,Hm⟩:=nm wc.heap.size;rw [Hm.out] at hrk hmw hoa hs5;have HRK:=h_ hrk;have HOA:=h_ hoa;clear hoa Hm;have HG':=h_ hg';have hQ2:Q.length≤160:=(HL.out.1 H0.out).2.1;have HRD:=h_ (HL.out.item HLT.out hax HG.out.1 H0.out HDT.out hres);clear hrk hrd' hg' ho' hu' hres CIT HS HL HG H0 HDT;unfold rlv tokVal rlCells
     go_upto_block 2 with fail
     obtain ⟨W6,HW6⟩:=nm (w5.alloc (.cells #[.string rl.name,.int .i64 rl.l.v,.int .i64 rl.l.op,.int .i64 rl.l.imm,.int .i64 rl.l.iv,.slice a.la rl.l.kids.length a.lc,.int .i64 rl.r.v,.int .i64 rl.r.op,.int .i64 rl.r.imm,.int .i64 rl.r.iv,.slice a.ra rl.r.kids.length a.rc,.slice a.ca rl.conds.length a.cc,.int .i64 rl.vars,.int .i64 rl.imms] 43))
     have u6:Upd Non w5 W6:=by rw [←HW6.out];exact Upd.refl.alloc _
     have b6:Blk W6 w5.heap.size 43 (rlCells rl a):=by rw [←HW6.out];exact Blk.new _ _ _
     have s6:W6.heap.size=w5.heap.size+1:=by rw [←HW6.out];simp
     rw [HW6.out];obtain ⟨W7,HW7⟩:=nm (W6.alloc (.cells #[.string (kstr ts),.int .i64 tp,.bool false] 62));have u7:Upd Non W6 W7:=by rw [←HW7.out];exact Upd.refl.alloc _
     have b7:Blk W7 (w5.heap.size+1) 62 #[.string (kstr ts),.int .i64 tp,.bool false]:=by rw [←HW7.out,←s6];exact Blk.new _ _ _
     rw [HW7.out];have hu7:Upd Non w5 W7:=u6.then_non u7;have HS:=h_ (HS5.out.non hu7);have HRK:=h_ (HRK.out.upd hu7 (fun _ _ _ f=>f));have HX:=h_ (b6.upd u7 (fun f=>f));have HK:=h_ b7;have hs7:=hu7.size;clear u6 u7 b6 b7 hu7 HW6 HW7 HS5;have CO:=h_ (rOk_c HS.out.rd);obtain ⟨z,Hz⟩:=nm (y'.why==0);rw [Hz.out] at CO
     go_cut [] (fun wx=>∃(y2:St),Hid (PaS w wx w2.heap.size (w2.heap.size+1) A c LT y2 OA oc Q)∧Hid (Good T y2)∧Hid (∀k,y2.own w2.heap.size k→y'.own w2.heap.size k)∧Hid (Upd (·=w2.heap.size) W7 wx)∧Hid (LpR T fin ax n R y2 (Q++[rl]) (fu - 1)))
     case first =>
      cases z with
      | false =>
       have H0:y'.why≠0:=by have:=Hz.out;exact fun q=>by rw [q] at this;cases this
       have HL:Hid (LpR T fin ax n R y' (Q++[rl]) (fu - 1)):=⟨fun q=>absurd q H0,HRD.out.2.1⟩;clear H0;go_wp2_with fail
       refine CO.out.mono ?_;rintro e w8 ⟨rfl,rfl⟩;clear CO;go_wp2_with fail
       go_meet
       case rel=>exact ⟨y',HS,HG',fun _ q=>q,Upd.refl,HL⟩
      | true =>
       have H0:Hid (y'.why=0):=by have:=Hz.out;exact beq_iff_eq.1 this
       have HR2:=h_ (HRD.out.2.2 H0.out);have v1:=HK.out.cell 1
       cases b with
       | false =>
        have HRR:=h_ (HR2.out.2.1 rfl);have CF:=h_ (rFail_c HS.out.rd 3 tp);go_wp2_with fail
        refine CO.out.mono ?_;rintro e w8 ⟨rfl,rfl⟩;clear CO;have HU:Hid (Upd (·=w2.heap.size) w8 w8):=Upd.refl;go_wp2_with fail
        refine CF.out.mono ?_;rintro e w9 ⟨rfl,hr9,hu9⟩;have HS9:=h_ (HS.out.call hr9 (fun k q=>.inl ((fail_own _ _ _ _ _).1 q)) (hu9.mono (fun _ _ e=>.inl e)));have HU9:=h_ (HU.out.trans hu9 (fun _ _ q=>q));clear hr9 hu9 CF;go_wp2_with fail
        go_meet
        case rel=>exact ⟨_,HS9,Good.fail HG'.out.1 (by decide),fun k q=>(fail_own _ _ _ _ _).1 q,HU9,RndR.err H0.out (by decide) HRR.out⟩
       | true =>
        have HRT:=h_ (HR2.out.2.2 rfl);have CV:=h_ (rlValid_c rl a _ W7 HRK.out HRT.out.1);unfold rlv rlCells at CV;have hbx:=HX.out;unfold rlCells at hbx;have k0:=hbx.cell 0;have k1:=hbx.cell 1;have k2:=hbx.cell 2;have k3:=hbx.cell 3;have k4:=hbx.cell 4;have k5:=hbx.cell 5;have k6:=hbx.cell 6;have k7:=hbx.cell 7;have k8:=hbx.cell 8;have k9:=hbx.cell 9;have k10:=hbx.cell 10;have k11:=hbx.cell 11;have k12:=hbx.cell 12;have k13:=hbx.cell 13;obtain ⟨v,Hv⟩:=nm (implF rl);rw [Hv.out] at CV;clear hbx;go_wp2_with fail
        refine CO.out.mono ?_;rintro e w8 ⟨rfl,rfl⟩;clear CO;go_wp2_with fail
        refine CV.out.mono ?_;rintro e w9 ⟨rfl,hu9⟩;have HS:=h_ (HS.out.non hu9);have HU:Hid (Upd (·=w2.heap.size) w8 w9):=hu9.mono (fun _ _ f=>f.elim);have v1:=u_ v1 hu9 (fun f=>f);have k0:=u_ k0 hu9 (fun f=>f);clear CV hu9 k1 k2 k3 k4 k5 k6 k7 k8 k9 k10 k11 k12 k13
        cases v with
        | false =>
         have HRR:=h_ (HRT.out.2.1 Hv.out);have CF:=h_ (rFail_c HS.out.rd 1 tp);clear k0;go_wp2_with fail
         refine CF.out.mono ?_;rintro e w9 ⟨rfl,hr9,hu9⟩;have HS9:=h_ (HS.out.call hr9 (fun k q=>.inl ((fail_own _ _ _ _ _).1 q)) (hu9.mono (fun _ _ e=>.inl e)));have HU9:=h_ (HU.out.trans hu9 (fun _ _ q=>q));clear hr9 hu9 CF;go_wp2_with fail
         go_meet
         case rel=>exact ⟨_,HS9,Good.fail HG'.out.1 (by decide),fun k q=>(fail_own _ _ _ _ _).1 q,HU9,RndR.err H0.out (by decide) HRR.out⟩
        | true =>
         have HRV:=h_ (HRT.out.2.2 Hv.out);have hlook:=HS.out.map.look1 Tryz.underlying60 Tryz.underlying9 (zeroBoolP _) rl.name;rw [nmV_get] at hlook;obtain ⟨d,Hd⟩:=nm (Q.any (fun q=>decide (q.name=rl.name)));rw [Hd.out] at hlook
         cases d with
         | true =>
          have HRR:=h_ (HRV.out.1 Hd.out);have CF:=h_ (rFail_c HS.out.rd 4 tp);go_wp2_with fail
          refine CF.out.mono ?_;rintro e w9 ⟨rfl,hr9,hu9⟩;have HS9:=h_ (HS.out.call hr9 (fun k q=>.inl ((fail_own _ _ _ _ _).1 q)) (hu9.mono (fun _ _ e=>.inl e)));have HU9:=h_ (HU.out.trans hu9 (fun _ _ q=>q));clear hr9 hu9 CF;go_wp2_with fail
          go_meet
          case rel=>exact ⟨_,HS9,Good.fail HG'.out.1 (by decide),fun k q=>(fail_own _ _ _ _ _).1 q,HU9,RndR.err H0.out (by decide) HRR.out⟩
         | false =>
          have HRW:=h_ (HRV.out.2 Hd.out);by_cases hq:Q.length=160
          ·have HRR:=h_ (HRW.out.1 hq);have tq:((Q.length:Int)==160)=true:=by rw [hq];rfl
           have CF:=h_ (rFail_c HS.out.rd 6 tp);clear hq;go_wp2_with fail
           refine CF.out.mono ?_;rintro e w9 ⟨rfl,hr9,hu9⟩;have HS9:=h_ (HS.out.call hr9 (fun k q=>.inl ((fail_own _ _ _ _ _).1 q)) (hu9.mono (fun _ _ e=>.inl e)));have HU9:=h_ (HU.out.trans hu9 (fun _ _ q=>q));clear hr9 hu9 CF;go_wp2_with fail
           go_meet
           case rel=>exact ⟨_,HS9,Good.fail HG'.out.1 (by decide),fun k q=>(fail_own _ _ _ _ _).1 q,HU9,RndR.err H0.out (by decide) HRR.out⟩
          ·have HLP:=h_ (HRW.out.2 hq);have tq:((Q.length:Int)==160)=false:=by simpa using fun q=>hq (by omega)
           clear hq;go_wp2_with fail
           go_meet
           case rel=>exact ⟨y',HS,HG',fun _ q=>q,HU,HLP⟩
     case rest =>
      clear HS HG' CO Hz;obtain ⟨y2,HS,HG,HO,HU,HL⟩:=hcut;have hbx:=HX.out.upd HU.out (by omega);have HXX:=h_ hbx;have HRK:Hid (RlK wc (fun k=>m≤k∧¬y2.own w2.heap.size k) rl a):=(HRK.out.upd HU.out (fun k _ q e=>by have:=q.1;omega)).mono (fun k _ q=>⟨q.1,fun r=>q.2 (HO.out k r)⟩)
      have hlw:=HU.out.size;obtain ⟨w10,hst,hsm,hus⟩:=HS.out.map.store Tryz.underlying60 Tryz.underlying9 rl.name (.bool true);rw [nmV_snoc] at hsm;unfold rlCells at hbx;have k0:=hbx.cell 0;obtain ⟨_,cs,hown,hcells⟩:=id HS.out.out;have HCS:=h_ hcells;have hown2:=hown.upd hus (fun k q e=>by have:=HS.out.oat k q;omega);have hb2:=hbx.upd hus (by omega);have z0:=hb2.cell 0;have z1:=hb2.cell 1;have z2:=hb2.cell 2;have z3:=hb2.cell 3;have z4:=hb2.cell 4;have z5:=hb2.cell 5;have z6:=hb2.cell 6;have z7:=hb2.cell 7;have z8:=hb2.cell 8;have z9:=hb2.cell 9;have z10:=hb2.cell 10;have z11:=hb2.cell 11;have z12:=hb2.cell 12;have z13:=hb2.cell 13;have HM2:=h_ hsm;have HU2:=h_ hus;clear hcells hbx hsm hus hb2 hown
      go_wp2_with (at_builtin;refine wpList_app rfl rfl T_rules rfl (hown2.alloc _) rfl (Sl.new _ _ _) rfl (by simp [Value.oneCell']) (by simp only [maxLen];omega) (by omega) ?_;intro A4 c4 w4 ho4 hu4 hat4)
      have HN:Hid (PaS w w4 w2.heap.size (w2.heap.size+1) A c LT y2 A4 c4 (Q++[rl])):=HS.out.app HRK.out hmw HOA.out HCS.out HM2.out HU2.out (Upd.refl.alloc _) ho4 hu4 hat4
      have hfu:=HRD.out.1;clear z0 z1 z2 z3 z4 z5 z6 z7 z8 z9 z10 z11 z12 z13 ho4 hu4 hat4 hst k0 HCS hown2
      go_roundg (fu - 1)
      case measure=>rw [Hfu.out];omega
      case rel=>exact ⟨fu - 1,y2,A4,c4,Q++[rl],rfl,by rw [List.length_append];rfl,HN,HG,HL,by rw [List.length_append,List.length_singleton];omega⟩
end Go.Proofs.YtblkgjdhaibhgaaGreat
