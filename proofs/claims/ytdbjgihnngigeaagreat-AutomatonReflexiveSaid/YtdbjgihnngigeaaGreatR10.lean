/-
  Lemmas and walks that the claim rests on, part 10 (packed by a program).
-/
import Derived.Test.YtdbjgihnngigeaaGreatR5
import Derived.Test.YtdbjgihnngigeaaGreatR6
import Derived.Test.YtdbjgihnngigeaaGreatR9
import Derived.Test.YtdbjgihnngigeaaGreatR1
import Derived.Test.YtdbjgihnngigeaaGreatRows
import Derived.ProofKit
import Derived.OpenShut
import Derived.SizedLaws
import Derived.Deep.Slices
import Derived.Test.YtdbjgihnngigeaaGreatR2
namespace Go.Proofs.YtdbjgihnngigeaaGreat
open Go.RowKit
theorem as_at {w:World} {G:Nat→Prop} {A:Option Addr} {L:List AS} {j:Nat} (h:ElV ElAS 2 w G A L) (hj:j<L.length):∃b off RA rc,A=some ⟨b,off,none⟩∧w.cell? ⟨b,off+j * 2,none⟩=some (.int .i64 L[j].at_)∧w.cell? ⟨b,off+j * 2+1,none⟩=some (.slice RA L[j].bits.length rc)∧L[j].bits.length≤rc∧Sl w G RA (u8s L[j].bits):=by
 obtain ⟨b,off,el,rfl,_,_,hce,RA,rc,e1,e2,e3⟩:=h.at_ (by decide) hj;have k0:=hce 0 (by decide);have k1:=hce 1 (by decide);rw [e1] at k0 k1;exact ⟨b,off,RA,rc,rfl,k0,k1,e2,e3⟩
theorem as_eq {x y:AS}:x=y↔x.at_=y.at_∧x.bits=y.bits:=by
 obtain ⟨a,b⟩:=x;obtain ⟨c,d⟩:=y;simp
theorem kstr_ne {x y:Bs}:((kstr x).toList==(kstr y).toList)=decide (x=y):=by
 rw [kstr_toList,kstr_toList,Bool.eq_iff_iff,beq_iff_eq,decide_eq_true_eq]
set_option maxRecDepth 100000 in
set_option maxHeartbeats 16000000 in
theorem sameStates_c {w:World} {G1 G2:Nat→Prop} {A B:Option Addr} {n m ac bc:Nat} {La Lb:List AS} (ha:ElV ElAS 2 w G1 A La) (hb:ElV ElAS 2 w G2 B Lb) (hn:n=La.length) (hm:m=Lb.length) (hn4:n≤1000000000000) :
  Calls Tryz.prog 17 #[.slice A n ac,.slice B m bc] w fun e w'=>e=.returned (.bool (decide (La=Lb)))∧Upd Non w w':=by
 have HA:=h_ ha;have HB:=h_ hb;have HN:=h_ hn;have HM:=h_ hm;have HNE:Hid (n≠m→decide (La=Lb)=false):=fun h=>dF_ (fun q=>h (by rw [hn,hm,q]))
 clear ha hb hn hm;by_cases hne:n=m
 ·subst hne;have tne:((n:Int) != (n:Int))=false:=by simp
  go_enter Tryz.func17,Tryz.ntmps17;go_wp2_with fail
  go_loopg [5] n (fun gg s5 wr=>∃i:Nat,Hid (gg=n - i)∧i≤n∧s5=.int .i64 i∧Hid (La.take i=Lb.take i)∧Hid (Upd Non w wr))
  case atStart=>exact ⟨0,rfl,by omega,rfl,rfl,Upd.refl⟩
  case round =>
   obtain ⟨i,Hg,hi,rfl,HE,HU⟩:=hrel;obtain ⟨wr,rfl⟩:∃z:World,z=wr:=⟨_,rfl⟩;by_cases hlt:i<n
   ·have hla:i<La.length:=by rw [←HN.out];exact hlt
    have hlb:i<Lb.length:=by rw [←HM.out];exact hlt
    obtain ⟨W1,HW1⟩:=nm wr.drew;have u1:Upd Non w W1:=by rw [←HW1.out];exact HU.out.then_non Upd.refl.drew
    have HU1:=h_ u1;obtain ⟨ab,ao,RA,ra,rfl,y0,y1,_,hsa⟩:=as_at (HA.out.upd elAS u1 (fun _ _ _ f=>f)) hla;obtain ⟨bb,bo,RB,rb,rfl,z0,z1,_,hsb⟩:=as_at (HB.out.upd elAS u1 (fun _ _ _ f=>f)) hlb;have r1:=run_rowstr (c:=ra) hsa rfl;have r2:=run_rowstr (c:=rb) hsb rfl;have HEQ:=h_ (kstr_ne (x:=La[i].bits) (y:=Lb[i].bits));have HAS:=h_ (as_eq (x:=La[i]) (y:=Lb[i]));have HNO:Hid (La[i]≠Lb[i]→decide (La=Lb)=false):=fun h=>dF_ (fun q=>h (by subst q;rfl))
    have HYES:Hid (La[i]=Lb[i]→La.take (i+1)=Lb.take (i+1)):=fun h=>by rw [List.take_succ_eq_append_getElem hla,List.take_succ_eq_append_getElem hlb,HE.out,h]
    have ti0:(0:Int)≤(i:Int):=by omega
    have tin:(i:Int)<(n:Int):=by omega
    obtain ⟨ta,Hta⟩:=nm La[i].at_;obtain ⟨tb,Htb⟩:=nm Lb[i].at_;obtain ⟨la,Hla⟩:=nm La[i].bits.length;obtain ⟨lb,Hlb⟩:=nm Lb[i].bits.length;rw [Hta.out] at y0;rw [Htb.out] at z0;rw [Hla.out] at y1 r1;rw [Hlb.out] at z1 r2;rw [Hta.out,Htb.out] at HAS;obtain ⟨qa,Hqa⟩:=nm La[i].bits;obtain ⟨qb,Hqb⟩:=nm Lb[i].bits;rw [Hqa.out] at r1;rw [Hqb.out] at r2;rw [Hqa.out,Hqb.out] at HEQ HAS;obtain ⟨sa,Hsa⟩:=nm (kstr qa);obtain ⟨sb,Hsb⟩:=nm (kstr qb);rw [Hsa.out] at r1;rw [Hsb.out] at r2;rw [Hsa.out,Hsb.out] at HEQ;clear hsa hsb u1;by_cases hab:ta=tb
    ·have q1:(ta != tb)=false:=by simpa using hab
     have q1n:(ta==tb)=true:=by simpa using hab
     have HAB:=h_ hab;clear hab;by_cases hq:qa=qb
     ·have q2:=HEQ.out;rw [dT_ hq] at q2;have HY2:=h_ (HYES.out (HAS.out.2 ⟨HAB.out,hq⟩));clear hq
      go_upto_region 6 with fail
      refine wp_region_held_drew (S:=fun w'=>w'.cell? ⟨ab,ao+i * 2,none⟩=some (.int .i64 ta)∧w'.cell? ⟨ab,ao+i * 2+1,none⟩=some (.slice RA la ra)∧w'.cell? ⟨bb,bo+i * 2,none⟩=some (.int .i64 tb)∧w'.cell? ⟨bb,bo+i * 2+1,none⟩=some (.slice RB lb rb)∧(convert 85 9 (.slice RA la ra)).run Tryz.prog w'=.ok (.string sa) w'∧(convert 85 9 (.slice RB lb rb)).run Tryz.prog w'=.ok (.string sb) w') (by kernel_rfl) (by rw [HW1.out];exact ⟨y0,y1,z0,z1,r1,r2⟩) (fun hHeld=>?_)
      rw [HW1.out] at hHeld ⊢;refine wpT 0 ?_;(try simp only [y_,z_]);refine wpT 1 ?_;(try simp only [y_,z_]);refine wpT 2 ?_;(try simp only [y_,z_]);refine wpT 3 ?_;(try simp only [y_,z_]);refine wpT 4 ?_;(try simp only [y_,z_]);refine wpT 5 ?_;(try simp only [y_,z_]);refine wpT 6 ?_;(try simp only [y_,z_]);refine wpT 7 ?_;(try simp only [y_,z_]);refine wpT 8 ?_;(try simp only [y_,z_]);refine wpT 9 ?_;(try simp only [y_,z_]);refine wpT 10 ?_;(try simp only [y_,z_]);refine wpT 11 ?_;(try simp only [y_,z_]);refine wpT 12 ?_;(try simp only [y_,z_]);refine wpT 13 ?_;(try simp only [y_,z_]);refine wpT 14 ?_;(try simp only [y_,z_]);refine wpT 15 ?_;(try simp only [y_,z_]);refine wpT 16 ?_;(try simp only [y_,z_]);refine wpT 17 ?_;(try simp only [y_,z_]);refine wpT 18 ?_;(try simp only [y_,z_]);refine wpT 19 ?_;(try simp only [y_,z_]);refine wpT 20 ?_;(try simp only [y_,z_]);refine wpT 21 ?_;(try simp only [y_,z_]);refine wpT 22 ?_;(try simp only [y_,z_]);refine wpT 23 ?_;(try simp only [y_,z_]);refine wpT 24 ?_
      (try simp only [y_,z_]);refine wpT 25 ?_;(try simp only [y_,z_]);refine aD_ (by kernel_rfl) ?_ _;clear hHeld y0 y1 z0 z1 r1 r2;go_wp2_with fail
      go_roundg (n - (i+1))
      case measure=>rw [Hg.out];omega
      case rel=>exact ⟨i+1,rfl,by omega,by go_num,HY2.out,HU1.out⟩
     ·have q2:=HEQ.out;rw [dF_ hq] at q2;have HF:=h_ (HNO.out (fun q=>hq (HAS.out.1 q).2));clear hq
      go_upto_region 6 with fail
      refine wp_region_held_drew (S:=fun w'=>w'.cell? ⟨ab,ao+i * 2,none⟩=some (.int .i64 ta)∧w'.cell? ⟨ab,ao+i * 2+1,none⟩=some (.slice RA la ra)∧w'.cell? ⟨bb,bo+i * 2,none⟩=some (.int .i64 tb)∧w'.cell? ⟨bb,bo+i * 2+1,none⟩=some (.slice RB lb rb)∧(convert 85 9 (.slice RA la ra)).run Tryz.prog w'=.ok (.string sa) w'∧(convert 85 9 (.slice RB lb rb)).run Tryz.prog w'=.ok (.string sb) w') (by kernel_rfl) (by rw [HW1.out];exact ⟨y0,y1,z0,z1,r1,r2⟩) (fun hHeld=>?_)
      rw [HW1.out] at hHeld ⊢;refine wpT 0 ?_;(try simp only [y_,z_]);refine wpT 1 ?_;(try simp only [y_,z_]);refine wpT 2 ?_;(try simp only [y_,z_]);refine wpT 3 ?_;(try simp only [y_,z_]);refine wpT 4 ?_;(try simp only [y_,z_]);refine wpT 5 ?_;(try simp only [y_,z_]);refine wpT 6 ?_;(try simp only [y_,z_]);refine wpT 7 ?_;(try simp only [y_,z_]);refine wpT 8 ?_;(try simp only [y_,z_]);refine wpT 9 ?_;(try simp only [y_,z_]);refine wpT 10 ?_;(try simp only [y_,z_]);refine wpT 11 ?_;(try simp only [y_,z_]);refine wpT 12 ?_;(try simp only [y_,z_]);refine wpT 13 ?_;(try simp only [y_,z_]);refine wpT 14 ?_;(try simp only [y_,z_]);refine wpT 15 ?_;(try simp only [y_,z_]);refine wpT 16 ?_;(try simp only [y_,z_]);refine wpT 17 ?_;(try simp only [y_,z_]);refine wpT 18 ?_;(try simp only [y_,z_]);refine wpT 19 ?_;(try simp only [y_,z_]);refine wpT 20 ?_;(try simp only [y_,z_]);refine wpT 21 ?_;(try simp only [y_,z_]);refine wpT 22 ?_;(try simp only [y_,z_]);refine wpT 23 ?_;(try simp only [y_,z_]);refine wpT 24 ?_
      (try simp only [y_,z_]);refine wpT 25 ?_;(try simp only [y_,z_]);refine aD_ (by kernel_rfl) ?_ _;clear hHeld y0 y1 z0 z1 r1 r2;go_wp2_with fail
      go_ret;exact ⟨by rw [HF.out];rfl,HU1.out⟩
    ·have q1:(ta != tb)=true:=by simpa using hab
     have q1n:(ta==tb)=false:=by simpa using hab
     have HF:=h_ (HNO.out (fun q=>hab (HAS.out.1 q).1))
     go_upto_region 6 with fail
     refine wp_region_held_drew (S:=fun w'=>w'.cell? ⟨ab,ao+i * 2,none⟩=some (.int .i64 ta)∧w'.cell? ⟨ab,ao+i * 2+1,none⟩=some (.slice RA la ra)∧w'.cell? ⟨bb,bo+i * 2,none⟩=some (.int .i64 tb)∧w'.cell? ⟨bb,bo+i * 2+1,none⟩=some (.slice RB lb rb)∧(convert 85 9 (.slice RA la ra)).run Tryz.prog w'=.ok (.string sa) w'∧(convert 85 9 (.slice RB lb rb)).run Tryz.prog w'=.ok (.string sb) w') (by kernel_rfl) (by rw [HW1.out];exact ⟨y0,y1,z0,z1,r1,r2⟩) (fun hHeld=>?_)
     rw [HW1.out] at hHeld ⊢;refine wpT 0 ?_;(try simp only [y_,z_]);refine wpT 1 ?_;(try simp only [y_,z_]);refine wpT 2 ?_;(try simp only [y_,z_]);refine wpT 3 ?_;(try simp only [y_,z_]);refine wpT 4 ?_;(try simp only [y_,z_]);refine wpT 5 ?_;(try simp only [y_,z_]);refine wpT 6 ?_;(try simp only [y_,z_]);refine wpT 7 ?_;(try simp only [y_,z_]);refine wpT 8 ?_;(try simp only [y_,z_]);refine wpT 9 ?_;(try simp only [y_,z_]);refine wpT 10 ?_;(try simp only [y_,z_]);refine wpT 11 ?_;(try simp only [y_,z_]);refine wpU 12 ?_;(try simp only [y_,z_]);refine wpU 13 ?_;(try simp only [y_,z_]);refine wpU 14 ?_;(try simp only [y_,z_]);refine wpU 15 ?_;(try simp only [y_,z_]);refine wpU 16 ?_;(try simp only [y_,z_]);refine wpU 17 ?_;(try simp only [y_,z_]);refine wpU 18 ?_;(try simp only [y_,z_]);refine wpU 19 ?_;(try simp only [y_,z_]);refine wpU 20 ?_;(try simp only [y_,z_]);refine wpU 21 ?_;(try simp only [y_,z_]);refine wpU 22 ?_;(try simp only [y_,z_]);refine wpU 23 ?_;(try simp only [y_,z_]);refine wpU 24 ?_
     (try simp only [y_,z_]);refine wpT 25 ?_;(try simp only [y_,z_]);refine aD_ (by kernel_rfl) ?_ _;clear hHeld y0 y1 z0 z1 r1 r2;go_wp2_with fail
     go_ret;exact ⟨by rw [HF.out];rfl,HU1.out⟩
   ·obtain rfl:n=i:=by omega
    have HF:Hid (decide (La=Lb)=true):=by
     refine dT_ ?_;have h:=HE.out
     rwa [List.take_of_length_le (by rw [←HN.out];exact Nat.le_refl _),List.take_of_length_le (by rw [←HM.out];exact Nat.le_refl _)] at h
    go_wp2_with fail
    go_ret;exact ⟨by rw [HF.out];rfl,HU.out⟩
 ·have HF:=h_ (HNE.out hne);have tne:((n:Int) != (m:Int))=true:=by simp;omega
  go_enter Tryz.func17,Tryz.ntmps17;go_wp2_with fail
  go_ret;exact ⟨by rw [HF.out];rfl,Upd.refl⟩
set_option maxRecDepth 100000 in
set_option maxHeartbeats 16000000 in
theorem auReference_c (w:World) (F G:Nat→Prop) (A:Option Addr) (c:Nat) (xs:List Int) (R0:Rl) (a0:RlA) (hx:Ints w F A xs) (hc:xs.length≤c) (hI:∀x∈xs,I64 x) (hn:xs.length≤100000000000000) (hk0:RlK w G R0 a0) (hz0:RlSz R0) :
  Calls Tryz.prog 4 #[.slice A xs.length c,rlv R0 a0] w fun e w'=>e=.returned (.bool true)∧Upd Non w w':=by
 obtain ⟨W0,HW0⟩:=nm (w.alloc (.cells (rlCells R0 a0) 27));have hU0:Upd Non w W0:=by rw [←HW0.out];exact Upd.refl.alloc _
 obtain ⟨b0,hb0⟩:∃b,w.heap.size=b:=⟨_,rfl⟩;have hbk0:Blk W0 b0 27 (rlCells R0 a0):=by rw [←HW0.out,←hb0];exact Blk.new _ _ _
 have e0:=HW0.out;have CR:=h_ (aRule_c W0 F A c xs (hx.upd hU0 (fun _ _ _ f=>f)) hc hI hn);have HK0:=h_ (fun (w':World) (u:Upd Non W0 w')=>((hk0.mono (G:=fun i=>i<w.heap.size) (fun i hi _=>hi)).upd (hU0.then_non u) (fun _ _ _ f=>f)))
 have HR0:=h_ (fun (w':World) (u:Upd Non W0 w')=>rl_cells (hbk0.upd u (fun f=>f)));have HZ0:=h_ hz0;have HU0:=h_ hU0;have hz:=aRuleF_sz (xs.take 16);have hri:=aRuleF_i (xs:=xs.take 16) (fun x h=>hI x (List.mem_of_mem_take h));obtain ⟨R,HR⟩:=nm (aRuleF (xs.take 16));rw [HR.out] at hz CR hri;have HZ:=h_ hz;have HRI:=h_ hri;obtain ⟨l,Hl⟩:=nm xs.length;rw [Hl.out] at CR ⊢;clear hx hc hI hn hz hri hk0 hz0 hU0 hbk0;unfold rlv;unfold rlCells at e0 ⊢;go_enter Tryz.func4,Tryz.ntmps4;go_wp2_with fail
 refine CR.out.mono ?_;rintro e w1 ⟨a,rfl,hk,u1⟩;obtain ⟨W1,HW1⟩:=nm (w1.alloc (.cells (rlCells R a) 27));have uW:Upd Non w1 W1:=by rw [←HW1.out];exact Upd.refl.alloc _
 obtain ⟨rb,hrb⟩:∃b,w1.heap.size=b:=⟨_,rfl⟩;have hb:Blk W1 rb 27 (rlCells R a):=by rw [←HW1.out,←hrb];exact Blk.new _ _ _
 have hk1:=(hk.mono (G:=fun k=>k<w1.heap.size) (fun _ h _=>h)).upd uW (fun _ _ _ f=>f);have HU:=h_ (u1.then_non uW);have HK:=h_ hk1;have HB:=h_ hb;have CP:=h_ (aProve_c R a _ W1 hk1 HZ.out);have e1:=HW1.out;unfold rlCells at e1;unfold rlv rlCells at CP ⊢;obtain ⟨c0,c1,c2,c3,c4,c5,c6,c7,c8,c9,c10,c11,c12,c13⟩:=rl_cells hb;clear hk hk1 u1 uW hb CR
 go_upto_region 2 with fail
 clear e1 hrb e0;go_wp2_with fail
 refine CP.out.mono ?_;rintro e w2 hP;obtain ⟨u2,hP⟩:=hP;clear CP c0 c1 c2 c3 c4 c5 c6 c7 c8 c9 c10 c11 c12 c13;have HU2:=h_ (HU.out.then_non u2);have HK2:=h_ (HK.out.upd u2 (fun _ _ _ f=>f));have CQ:=h_ (rAutomaton_c R a _ w2 HK2.out HZ.out HRI.out);obtain ⟨c0,c1,c2,c3,c4,c5,c6,c7,c8,c9,c10,c11,c12,c13⟩:=rl_cells (HB.out.upd u2 (fun f=>f));unfold rlv rlCells at CQ;clear u2;rcases hP with ⟨L,OA,on,oc,hL,rfl,hO,_⟩ | ⟨hno,rfl⟩
 ·have HO:=h_ hO;have HL:=h_ hL;clear hO hL;go_wp2_with fail
  refine CQ.out.mono ?_;rintro e w3 hP;obtain ⟨u3,hP⟩:=hP;clear CQ c0 c1 c2 c3 c4 c5 c6 c7 c8 c9 c10 c11 c12 c13;have HU3:=h_ (HU2.out.then_non u3);rcases hP with ⟨M,QA,qn,qc,hM,rfl,hQ,_⟩ | ⟨hM,rfl⟩
  rotate_left
  ·rw [HL.out] at hM;cases hM
  ·rw [HL.out] at hM;injection hM with hM
   subst hM;have hln:on=(L.map asE).length:=HO.out.1;have hqn:qn=(L.map asE).length:=hQ.1;have hl4:(L.map asE).length≤4096:=by rw [List.length_map];have h:=(autF_some.1 HL.out);rw [h.2.2.2];exact h.2.1
   have CS:=h_ (sameStates_c (ac:=oc) (bc:=qc) ((HO.out.u8 elAS u3 (fun _ _ f=>f) (fun _ _ _ f=>f)).view (F:=fun _=>True) elAS (fun _ _=>trivial) (fun _ _ _=>trivial)) (hQ.view (F:=fun _=>True) elAS (fun _ _=>trivial) (fun _ _ _=>trivial)) hln hqn (by omega))
   rw [dT_ rfl] at CS;clear u3 hQ hln hqn hl4;go_wp2_with fail
   refine (CS.out).mono ?_;rintro e w4 ⟨rfl,u4⟩;have HU4:=h_ (HU3.out.then_non u4);have CA:=h_ (rApplicable_c R0 a0 _ w4 (HK0.out w4 HU4.out) HZ0.out);obtain ⟨c0,c1,c2,c3,c4,c5,c6,c7,c8,c9,c10,c11,c12,c13⟩:=HR0.out w4 HU4.out;unfold rlv rlCells at CA;clear u4 CS;go_wp2_with fail
   refine CA.out.mono ?_;rintro e w5 ⟨rfl,u5⟩;have HU5:=h_ (HU4.out.then_non u5);clear u5 CA c0 c1 c2 c3 c4 c5 c6 c7 c8 c9 c10 c11 c12 c13;obtain ⟨ap,Hap⟩:=nm (applF R0);rw [Hap.out]
   cases ap with
   | true =>
    go_wp2_with fail
    refine (auExamples_c _).mono ?_;rintro e w9 ⟨rfl,u9⟩;go_wp2_with fail
    go_ret;exact ⟨rfl,HU0.out.then_non (HU5.out.then_non u9)⟩
   | false =>
    have CP:=h_ (aProve_c R0 a0 _ w5 (HK0.out w5 HU5.out) HZ0.out);obtain ⟨c0,c1,c2,c3,c4,c5,c6,c7,c8,c9,c10,c11,c12,c13⟩:=HR0.out w5 HU5.out;unfold rlv rlCells at CP;go_wp2_with fail
    refine CP.out.mono ?_;rintro e w6 hP;obtain ⟨u6,hP⟩:=hP;rcases hP with ⟨L,OA,on,oc,hL,rfl,hO,_⟩ | ⟨_,rfl⟩
    ·rw [autF_not Hap.out] at hL;cases hL
    ·have HU6:=h_ (HU5.out.then_non u6);clear u6 CP c0 c1 c2 c3 c4 c5 c6 c7 c8 c9 c10 c11 c12 c13;go_wp2_with fail
     refine (auExamples_c _).mono ?_;rintro e w9 ⟨rfl,u9⟩;go_wp2_with fail
     go_ret;exact ⟨rfl,HU0.out.then_non (HU6.out.then_non u9)⟩
 ·go_wp2_with fail
  refine CQ.out.mono ?_;rintro e w3 hP;obtain ⟨u3,hP⟩:=hP;clear CQ c0 c1 c2 c3 c4 c5 c6 c7 c8 c9 c10 c11 c12 c13;have HU3:=h_ (HU2.out.then_non u3);rcases hP with ⟨M,QA,qn,qc,hM,rfl,hQ,_⟩ | ⟨hM,rfl⟩
  ·rw [hno] at hM;cases hM
  ·have CS:=h_ (sameStates_c (w:=w3) (G1:=fun _=>True) (G2:=fun _=>True) (A:=none) (B:=none) (ac:=0) (bc:=0) (n:=0) (m:=0) (La:=[]) (Lb:=[]) ElV.nil ElV.nil rfl rfl (by omega))
   rw [dT_ rfl] at CS;clear u3 hno hM;go_wp2_with fail
   refine (CS.out).mono ?_;rintro e w4 ⟨rfl,u4⟩;have HU4:=h_ (HU3.out.then_non u4);have CA:=h_ (rApplicable_c R0 a0 _ w4 (HK0.out w4 HU4.out) HZ0.out);obtain ⟨c0,c1,c2,c3,c4,c5,c6,c7,c8,c9,c10,c11,c12,c13⟩:=HR0.out w4 HU4.out;unfold rlv rlCells at CA;clear u4 CS;go_wp2_with fail
   refine CA.out.mono ?_;rintro e w5 ⟨rfl,u5⟩;have HU5:=h_ (HU4.out.then_non u5);clear u5 CA c0 c1 c2 c3 c4 c5 c6 c7 c8 c9 c10 c11 c12 c13;obtain ⟨ap,Hap⟩:=nm (applF R0);rw [Hap.out]
   cases ap with
   | true =>
    go_wp2_with fail
    refine (auExamples_c _).mono ?_;rintro e w9 ⟨rfl,u9⟩;go_wp2_with fail
    go_ret;exact ⟨rfl,HU0.out.then_non (HU5.out.then_non u9)⟩
   | false =>
    have CP:=h_ (aProve_c R0 a0 _ w5 (HK0.out w5 HU5.out) HZ0.out);obtain ⟨c0,c1,c2,c3,c4,c5,c6,c7,c8,c9,c10,c11,c12,c13⟩:=HR0.out w5 HU5.out;unfold rlv rlCells at CP;go_wp2_with fail
    refine CP.out.mono ?_;rintro e w6 hP;obtain ⟨u6,hP⟩:=hP;rcases hP with ⟨L,OA,on,oc,hL,rfl,hO,_⟩ | ⟨_,rfl⟩
    ·rw [autF_not Hap.out] at hL;cases hL
    ·have HU6:=h_ (HU5.out.then_non u6);clear u6 CP c0 c1 c2 c3 c4 c5 c6 c7 c8 c9 c10 c11 c12 c13;go_wp2_with fail
     refine (auExamples_c _).mono ?_;rintro e w9 ⟨rfl,u9⟩;go_wp2_with fail
     go_ret;exact ⟨rfl,HU0.out.then_non (HU6.out.then_non u9)⟩
end Go.Proofs.YtdbjgihnngigeaaGreat
namespace Go.Proofs.YtdbjgihnngigeaaGreat
open Go.RowKit Go.WideShapes Go.ChangeShapes
section
variable {H:Type} {enc:TypeId×Value→H} {P:Program}
theorem post_of_below {f:Func} {s:ChangeSpec} {apart fresh handsOn again:Bool} {W W':World} {args:Array Value} {v:Value} {ds gs:List (DataW H)} {before pa pv:List MemPlace}
  (hW:DataW.Whole enc P f.params.toList s.vars apart W args.toList ds gs before)
  (hres:∀(b:Nat) (sp:Nat→Bool) (hd:Bool),DataW.TrodAll enc P W' b sp hd f.resultTypes.toList (v.resultList f.resultTypes.size) (s.fn H (ds++gs)).results [])
  (hargs:∀sp:Nat→Bool,(∀p∈before,sp p.block=true)→DataW.TrodAll enc P W' 0 sp true f.params.toList args.toList (s.fn H (ds++gs)).args pa)
  (hvars:∀sp:Nat→Bool,(∀p∈before,sp p.block=true)→DataW.TrodVars enc P W' sp s.vars (s.fn H (ds++gs)).vars pv)
  (hps:before=pa++pv) (hb:Below W.heap.size W W')
  (hok:∀(j:Nat) (t:TypeId) (r:Value),f.resultTypes[j]?=some t→(v.resultList f.resultTypes.size)[j]?=some r→Value.okWide P W' .any 0 t r) :
  s.post enc P f apart fresh handsOn again W args v W':=by
 have hlt:∀p∈before,p.block<W.heap.size:=fun p hp=>hW.lt p hp
 have hold:∀p∈before,(fun b=>decide (b<W.heap.size)) p.block=true:=fun p hp=>by simpa using hlt p hp
 refine ⟨ds,gs,before,[],pa,pv,hW,hres _ _ _,hargs _ hold,hvars _ hold,World.keptBut_mono (fun p hp=>⟨hp,?_⟩) (hb.frame (·∈before)),fun _=>?_⟩
 ·rw [hps,List.mem_append] at hp;exact Or.inr hp
 ·obtain ⟨_,_,_,_,_,hz,hn⟩:=hW;refine ⟨hok,_,_,([]++pa)++pv,⟨[]++pa,pv,trodAll_append (hargs _ (fun _ _=>rfl)) (hres _ _ _),hvars _ (fun _ _=>rfl),rfl,?_,?_⟩,?_⟩
  ·intro b off hp;have hin:MemPlace.cell b off∈before:=by rw [hps];simpa using hp
   rw [hb.frozen (hlt _ hin)];exact hz b off hin
  ·intro ha;have:=hn ha;rw [hps] at this;simpa using this
  ·intro p hp _;rw [hps];simpa using hp
theorem trodAll_stays (hl:laidOutB P=true) {W W':World} {sp:Nat→Bool}:∀{ts:List TypeId} {vs:List Value} {ds:List (DataW H)} {ps:List MemPlace},
  (ts.all fun t=>P.readableRec t&&decide (t<P.types.size))=true→DataW.TrodAll enc P W 0 (fun _=>true) true ts vs ds ps→(∀p∈ps,W.sameAt W' p)→(∀p∈ps,sp p.block=true)→DataW.TrodAll enc P W' 0 sp true ts vs ds ps
 | [],vs,ds,ps,_,h,_,_=>by
  obtain ⟨rfl,rfl,rfl⟩:=trodAll_nil h;exact trodAll_mk0
 | t::ts,vs,ds,ps,ht,h,h1,h2=>by
  obtain ⟨v,vs',d,ds',p,q,rfl,rfl,rfl,hp,hq⟩:=trodAll_cons h;simp only [List.all_cons,Bool.and_eq_true,decide_eq_true_eq] at ht
  exact trodAll_cons_mk (WideElems.Trod_stays hl ht.1.1 ht.1.2 hp (fun x hx=>h1 x (by simp [hx])) (fun x hx=>h2 x (by simp [hx])))
   (trodAll_stays hl ht.2 hq (fun x hx=>h1 x (by simp [hx])) (fun x hx=>h2 x (by simp [hx])))
theorem law_post {f:Func} {s:ChangeSpec} {apart fresh handsOn again:Bool} {W W':World} {args:Array Value} {ds gs:List (DataW H)} {before:List MemPlace} {tb:TypeId}
  (hW:DataW.Whole enc P f.params.toList s.vars apart W args.toList ds gs before) (hl:laidOutB P=true) (hts:(f.params.toList.all fun t=>P.readableRec t&&decide (t<P.types.size))=true) (hv:s.vars=[])
  (hrt:f.resultTypes=#[tb]) (hbool:P.underlying tb=some .bool) (hs:s.fn H (ds++gs)={ results:=[.lit (.bool true)],args:=ds }) (hb:Below W.heap.size W W') :
  s.post enc P f apart fresh handsOn again W args (.bool true) W':=by
 have hW2:=hW;obtain ⟨p,q,hA,hV,rfl,hz,hn⟩:=hW;rw [hv] at hV;obtain ⟨rfl,rfl⟩:=trodVars_none hV;have hlt:∀x∈p,x.block<W.heap.size:=fun x hx=>hW2.lt x (by simpa using hx)
 refine post_of_below (pa:=p) (pv:=[]) hW2 (fun b sp hd=>?_) (fun sp hsp=>?_) (fun sp hsp=>?_) rfl hb ?_
 ·rw [hs,hrt];exact trodAll_mk1 (shut_bool hbool true)
 ·rw [hs];exact trodAll_stays hl hts hA (fun x hx=>hb.same (hlt x hx)) (fun x hx=>hsp x (by simpa using hx))
 ·rw [hs,hv];rfl
 ·intro j t r h1 h2;rw [hrt] at h1 h2
  match j,h1 with
  | 0,h1 =>
   simp at h1;subst h1;simp [Value.resultList] at h2;subst h2;exact okWide_bool_mk hbool true
end
theorem own_:ownKnob Tryz.prog.godebug=none:=by kernel_rfl
theorem laidOut_:laidOutB Tryz.prog=true:=by kernel_rfl
end Go.Proofs.YtdbjgihnngigeaaGreat
namespace Go.Proofs.YtdbjgihnngigeaaGreat
open Go.RowKit Go.WideShapes Go.ChangeShapes Go.ChangeAt
section
variable {H:Type} {enc:TypeId×Value→H} {P:Program} {w:World}
theorem i64_of_wf {n:Int} (h:(Lit.int .i64 n).wf=true):I64 n:=by
 have h1:IntKind.i64.min = -9223372036854775808:=rfl;have h2:IntKind.i64.max=9223372036854775807:=rfl;simp only [Lit.wf,Bool.and_eq_true,decide_eq_true_eq] at h;unfold I64;omega
theorem open_intsV {r:Reach} {b0 base:Nat} {sp:Nat→Bool} {held:Bool} {t e:TypeId} {v:Value} {d:DataW H} {ps:List MemPlace} (ht:P.underlying t=some (.slice e)) (he:P.underlying e=some (.int .i64)) (hc:P.cellsOf e=1) (hby:P.bytesOf e=8)
  (hval:Value.okWide P w r b0 t v) (hd:DataW.Trod enc P w base sp held t v d ps)
  {ts:List TypeId} {ds:List (DataW H)} (hsz:(DataW.weightsEach P ts ds).all (·≤reachBytes)=true) {j:Nat} (htj:ts[j]?=some t) (hdj:ds[j]?=some d) :
  ∃A c xs,v=.slice A xs.length c∧xs.length≤c∧Ints w (fun _=>True) A xs∧(∀x∈xs,I64 x)∧xs.length≤20000000000000:=by
 obtain ⟨a0,len,cap,rfl⟩:=okWide_slice ht hval;obtain ⟨fuel,hf⟩:=hd;rcases open_ints ht he hc hf with ⟨hcs,hx⟩ | ⟨a,len',cap',zs,hcs,_,hl,hm,hz,hx,hcell,hwz⟩
 ·simp [Value.cells] at hcs;obtain ⟨rfl,rfl,rfl⟩:=hcs;exact ⟨none,0,[],rfl,by simp,.inl rfl,by simp,by simp⟩
 ·simp [Value.cells] at hcs;obtain ⟨rfl,rfl,rfl⟩:=hcs;simp only [Prod.mk.injEq] at hx;obtain ⟨rfl,rfl⟩:=hx;have hzl:len≤zs.length:=by rw [hz];split <;> omega
  have hlen:(zs.take len).length=len:=by simp;omega
  refine ⟨some a,cap,zs.take len,by rw [hlen],by omega,?_,fun x hx=>i64_of_wf (hwz x (List.mem_of_mem_take hx)),?_⟩
  ·by_cases h0:len=0
   ·subst h0;exact .inl (by simp)
   ·obtain ⟨b,off,spot⟩:=a;have hspot:spot=none:=by simpa [Addr.add] using World.cell?_spot (hcell 0 (by omega))
    subst hspot;refine .inr ⟨b,off,rfl,trivial,fun k hk=>?_⟩;have hk':k<zs.length:=by simp at hk;omega
    have:=hcell k hk';rw [Addr.add_lit] at this;rw [this];simp [List.getD,hk']
  ·have:=sized_slice hsz htj hdj ht;rw [hby] at this;simp only [lits,List.length_map,List.length_take,List.length_drop,reachBytes] at this;rw [hlen];omega
end
theorem cells_int:Tryz.prog.cellsOf 3=1:=by kernel_rfl
theorem bytes_int:Tryz.prog.bytesOf 3=8:=by kernel_rfl
end Go.Proofs.YtdbjgihnngigeaaGreat
namespace Go.Proofs.YtdbjgihnngigeaaGreat
open Go.RowKit Go.WideShapes Go.ChangeShapes Go.ChangeAt
section
variable {H:Type} {enc:TypeId×Value→H} {P:Program} {w:World}
theorem open_intT {base:Nat} {sp:Nat→Bool} {held:Bool} {t:TypeId} {fuel:Nat} {cs:List Value} {x:DataW H×List MemPlace} (ht:P.underlying t=some (.int .i64)) (h:DataW.trod enc P w base sp held fuel t cs=some x):∃n,cs=[.int .i64 n]∧I64 n:=by
 obtain ⟨n,h1,_,h2⟩:=DataW.trod_int ht h;exact ⟨n,h1,i64_of_wf h2⟩
theorem spot_none {b off:Nat} {spot:Option Nat} {v:Value} (h:w.cell? ((⟨b,off,spot⟩:Addr).add 0)=some v):spot=none:=by simpa [Addr.add] using World.cell?_spot h
end
theorem list_of {α:Type} {p:Nat→α→Prop}:∀(n:Nat),(∀i,i<n→∃a,p i a)→∃l:List α,l.length=n∧∀i (h:i<l.length),p i l[i]
 | 0,_=>⟨[],rfl,by simp⟩
 | n+1,h=>by
  obtain ⟨l,hl,hp⟩:=list_of n (fun i hi=>h i (by omega));obtain ⟨a,ha⟩:=h n (by omega);refine ⟨l++[a],by simp [hl],fun i hi=>?_⟩;by_cases e:i<l.length
  ·rw [List.getElem_append_left e];exact hp i e
  ·have : i=l.length:=by simp at hi;omega
   subst this;simp;rw [hl];exact ha
theorem cells_int64:Tryz.prog.cellsOf 2=1:=by kernel_rfl
end Go.Proofs.YtdbjgihnngigeaaGreat
namespace Go.Proofs.YtdbjgihnngigeaaGreat
open Go.RowKit Go.WideShapes Go.ChangeShapes Go.ChangeAt
section
variable {H:Type}
theorem bulk_slice (elems spare:List (DataW H)):Rows.uptoBulkAll elems+1≤Rows.uptoBulk (.slice elems spare):=by
 simp only [Rows.uptoBulk];omega
theorem bulk_agg (l:List (DataW H)):Rows.uptoBulk (.agg l)=Rows.uptoBulkAll l+1:=by simp only [Rows.uptoBulk]
theorem bulk_string (bytes:List UInt8):Rows.uptoBulk (DataW.lit (H:=H) (.string bytes))=bytes.length+1:=by simp [Rows.uptoBulk]
theorem sizeL_bulk:∀(L:List Pt) (D:List (DataW H)),L.length=D.length→(∀i (h:i<L.length) (g:i<D.length),L[i].size≤Rows.uptoBulk D[i])→Pt.sizeL L≤Rows.uptoBulkAll D
 | [],[],_,_=>by simp [Pt.sizeL,Rows.uptoBulkAll]
 | p::L,d::D,hl,h=>by
  have h0:=h 0 (by simp) (by simp)
  have h1:=sizeL_bulk L D (by simpa using hl) (fun i hi gi=>by
   have:=h (i+1) (by simpa using hi) (by simpa using gi)
   simpa using this)
  simp only [Pt.sizeL,Rows.uptoBulkAll];simp at h0;omega
 | [],_::_,hl,_=>by simp at hl
 | _::_,[],hl,_=>by simp at hl
theorem len_bulk {α:Type} (L:List α) (D:List (DataW H)) (hl:L.length=D.length):L.length≤Rows.uptoBulkAll D:=by
 rw [hl];clear hl
 induction D with
 | nil=>simp
 | cons d D ih =>
  have : 1≤Rows.uptoBulk d:=by
   cases d with
   | lit l=>cases l <;> simp [Rows.uptoBulk]
   | nil=>simp [Rows.uptoBulk]
   | ptr d=>simp [Rows.uptoBulk]
   | slice elems spare=>simp [Rows.uptoBulk]
   | agg parts=>simp [Rows.uptoBulk]
   | iface t d=>simp [Rows.uptoBulk]
   | map entries=>simp [Rows.uptoBulk]
   | held h=>simp [Rows.uptoBulk]
  simp only [List.length_cons,Rows.uptoBulkAll];omega
end
section
variable {H:Type} {enc:TypeId×Value→H} {P:Program} {w:World} {base fuel:Nat} {sp:Nat→Bool} {held:Bool} {t e:TypeId} {cs:List Value} {x:DataW H×List MemPlace}
theorem open_slice_lt (ht:P.underlying t=some (.slice e)) (h:DataW.trod enc P w base sp held fuel t cs=some x) :
  (cs=[.slice none 0 0]∧x=(.nil,[])) ∨
  ∃(a:Addr) (len cap n:Nat) (D Sp:List (DataW H)) (ps:List MemPlace),fuel=n+1∧cs=[.slice (some a) len cap]∧len≤cap∧x=(.slice D Sp,ps)∧D.length=len ∧
   ∀i (hi:i<D.length),∃cs' Pl,w.cells? base (a.add (i * P.cellsOf e)) (P.cellsOf e)=some cs'∧DataW.trod enc P w base sp held n e cs'=some (D[i],Pl):=by
 rcases DataW.trod_slice ht h with h0 | ⟨a,len,cap,elems,rest,n,hn,rfl,rfl,hb,hl,hm,hlen,hel,_,_⟩
 ·exact .inl h0
 ·refine .inr ⟨a,len,cap,n,elems.map (·.1),rest.map (·.1),_,hn,rfl,hl,rfl,by simp [hlen],fun i hi=>?_⟩;have hi':i<elems.length:=by simpa using hi
  have:=hel i (by omega);rw [List.getElem?_eq_getElem hi',Option.bind_eq_some_iff] at this;obtain ⟨cs',h1,h2⟩:=this;exact ⟨cs',elems[i].2,h1,by rw [h2];simp⟩
end
theorem cells_Pattern:Tryz.prog.cellsOf 24=5:=by kernel_rfl
theorem cells_Patterns:Tryz.prog.cellsOf 22=1:=by kernel_rfl
theorem und_Pattern:∃f0 f1 f2 f3 f4:Field,Tryz.prog.underlying 24=some (.struct #[f0,f1,f2,f3,f4])∧f0.type=3∧f0.offset=0∧f1.type=3∧f1.offset=1∧f2.type=2∧f2.offset=2∧f3.type=3∧f3.offset=3∧f4.type=22∧f4.offset=4:=⟨_,_,_,_,_,Tryz.underlying24,rfl,rfl,rfl,rfl,rfl,rfl,rfl,rfl,rfl,rfl⟩
section
variable {H:Type} {enc:TypeId×Value→H} {w:World} {base:Nat} {sp:Nat→Bool} {held:Bool}
set_option maxRecDepth 100000 in
theorem open_ptT:∀(fuel:Nat) {cs:List Value} {x:DataW H×List MemPlace},DataW.trod enc Tryz.prog w base sp held fuel 24 cs=some x →
  ∃(p:Pt) (KA:Option Addr) (kc:Nat),cs=[.int .i64 p.v,.int .i64 p.op,.int .i64 p.imm,.int .i64 p.iv,.slice KA p.kids.length kc]∧PtK w (fun _=>True) p KA kc∧p.size≤Rows.uptoBulk x.1:=by
 intro fuel
 induction fuel using Nat.strongRecOn with
 | ind fuel ih =>
  intro cs x h;obtain ⟨f0,f1,f2,f3,f4,hu,t0,o0,t1,o1,t2,o2,t3,o3,t4,o4⟩:=und_Pattern;obtain ⟨xs,n,hn,rfl,hl,hlen,hf⟩:=DataW.trod_struct hu h;rw [cells_Pattern] at hl
  match cs,hl with
  | [v0,v1,v2,v3,v4],_ =>
   match xs,hlen with
   | [y0,y1,y2,y3,y4],_ =>
    have g0:=hf 0 f0 rfl;have g1:=hf 1 f1 rfl;have g2:=hf 2 f2 rfl;have g3:=hf 3 f3 rfl;have g4:=hf 4 f4 rfl;rw [t0,o0,cells_int] at g0;rw [t1,o1,cells_int] at g1;rw [t2,o2,cells_int64] at g2;rw [t3,o3,cells_int] at g3;rw [t4,o4,cells_Patterns] at g4;simp at g0 g1 g2 g3 g4;obtain ⟨a,e0,i0⟩:=open_intT Tryz.underlying3 g0;obtain ⟨b,e1,i1⟩:=open_intT Tryz.underlying3 g1;obtain ⟨c,e2,i2⟩:=open_intT Tryz.underlying2 g2;obtain ⟨d,e3,i3⟩:=open_intT Tryz.underlying3 g3;simp at e0 e1 e2 e3;subst e0;subst e1;subst e2;subst e3;rcases open_slice_lt Tryz.underlying22 g4 with ⟨hcs,hx⟩ | ⟨A,len,cap,n',D,Sp,ps,hn',hcs,hl,hx,hD,hcell⟩
    ·simp at hcs;subst hcs;refine ⟨.mk a b c d [],none,0,rfl,?_,?_⟩
     ·rw [PtK.iff];exact ⟨Nat.le_refl _,.inl rfl⟩
     ·rw [Pt.size_eq,bulk_agg];simp [Pt.kids,Pt.sizeL]
    ·simp at hcs;subst hcs
     have each:∀i,i<len→∃p:Pt,(∃KA kc,(∀j,j<5→w.cell? ((A.add (i * 5)).add j)=[Value.int .i64 p.v,.int .i64 p.op,.int .i64 p.imm,.int .i64 p.iv,.slice KA p.kids.length kc][j]?)∧PtK w (fun _=>True) p KA kc)∧∀g:i<D.length,p.size≤Rows.uptoBulk D[i]:=fun i hi=>by
      obtain ⟨cs',Pl,h1,h2⟩:=hcell i (by omega);rw [cells_Pattern] at h1;obtain ⟨_,_,h3⟩:=World.cells?_some h1;obtain ⟨p,KA,kc,rfl,h4,h5⟩:=ih n' (by omega) h2;exact ⟨p,⟨KA,kc,h3,h4⟩,fun _=>h5⟩
     obtain ⟨L,hL,hp⟩:=list_of len each;subst hL;refine ⟨.mk a b c d L,some A,cap,rfl,?_,?_⟩
     ·rw [PtK.iff];refine ⟨hl,?_⟩;by_cases h0:L.length=0
      ·exact .inl (List.eq_nil_of_length_eq_zero h0)
      ·obtain ⟨blk,off,spot⟩:=A;obtain ⟨⟨KA,kc,hh,_⟩,_⟩:=hp 0 (by omega);have h1:=hh 0 (by omega);have hspot:spot=none:=spot_none (by simpa [Addr.add] using h1);subst hspot;refine .inr ⟨blk,off,rfl,trivial,PtL.of fun i hi=>?_⟩;obtain ⟨⟨KA,kc,hh,h4⟩,_⟩:=hp i hi;have c0:=hh 0 (by omega);have c1:=hh 1 (by omega);have c2:=hh 2 (by omega);have c3:=hh 3 (by omega);have c4:=hh 4 (by omega);simp only [Addr.add_lit] at c0 c1 c2 c3 c4;exact ⟨KA,kc,c0,c1,c2,c3,c4,h4⟩
     ·rw [Pt.size_eq,bulk_agg];rw [hx];have h1:=bulk_slice D Sp;have h2:=sizeL_bulk L D hD.symm (fun i hi gi=>(hp i hi).2 gi);simp only [List.map_cons,List.map_nil,Rows.uptoBulkAll];show 1+Pt.sizeL L≤_;omega
end
end Go.Proofs.YtdbjgihnngigeaaGreat
namespace Go.Proofs.YtdbjgihnngigeaaGreat
open Go.RowKit Go.WideShapes Go.ChangeShapes Go.ChangeAt
theorem cells_Cond:Tryz.prog.cellsOf 63=4:=by kernel_rfl
theorem cells_Conds:Tryz.prog.cellsOf 25=1:=by kernel_rfl
theorem cells_string:Tryz.prog.cellsOf 9=1:=by kernel_rfl
theorem cells_Rule:Tryz.prog.cellsOf 27=14:=by kernel_rfl
theorem und_Cond:∃f0 f1 f2 f3:Field,Tryz.prog.underlying 63=some (.struct #[f0,f1,f2,f3])∧f0.type=3∧f0.offset=0∧f1.type=3∧f1.offset=1∧f2.type=3∧f2.offset=2∧f3.type=2∧f3.offset=3:=⟨_,_,_,_,Tryz.underlying63,rfl,rfl,rfl,rfl,rfl,rfl,rfl,rfl⟩
theorem und_Rule:∃f0 f1 f2 f3 f4 f5:Field,Tryz.prog.underlying 27=some (.struct #[f0,f1,f2,f3,f4,f5])∧f0.type=9∧f0.offset=0∧f1.type=24∧f1.offset=1∧f2.type=24∧f2.offset=6∧f3.type=25∧f3.offset=11∧f4.type=3∧f4.offset=12∧f5.type=3∧f5.offset=13:=⟨_,_,_,_,_,_,Tryz.underlying27,rfl,rfl,rfl,rfl,rfl,rfl,rfl,rfl,rfl,rfl,rfl,rfl⟩
section
variable {H:Type} {enc:TypeId×Value→H} {w:World} {base:Nat} {sp:Nat→Bool} {held:Bool}
set_option maxRecDepth 100000 in
theorem open_condT {fuel:Nat} {cs:List Value} {x:DataW H×List MemPlace} (h:DataW.trod enc Tryz.prog w base sp held fuel 63 cs=some x) :
  ∃c:Cd,cs=[.int .i64 c.kind,.int .i64 c.a,.int .i64 c.b,.int .i64 c.n]:=by
 obtain ⟨f0,f1,f2,f3,hu,t0,o0,t1,o1,t2,o2,t3,o3⟩:=und_Cond;obtain ⟨xs,n,hn,rfl,hl,hlen,hf⟩:=DataW.trod_struct hu h;rw [cells_Cond] at hl
 match cs,hl with
 | [v0,v1,v2,v3],_ =>
  match xs,hlen with
  | [y0,y1,y2,y3],_ =>
   have g0:=hf 0 f0 rfl;have g1:=hf 1 f1 rfl;have g2:=hf 2 f2 rfl;have g3:=hf 3 f3 rfl;rw [t0,o0,cells_int] at g0;rw [t1,o1,cells_int] at g1;rw [t2,o2,cells_int] at g2;rw [t3,o3,cells_int64] at g3;simp at g0 g1 g2 g3;obtain ⟨a,e0,_⟩:=open_intT Tryz.underlying3 g0;obtain ⟨b,e1,_⟩:=open_intT Tryz.underlying3 g1;obtain ⟨c,e2,_⟩:=open_intT Tryz.underlying3 g2;obtain ⟨d,e3,_⟩:=open_intT Tryz.underlying2 g3;simp at e0 e1 e2 e3;subst e0;subst e1;subst e2;subst e3;exact ⟨⟨a,b,c,d⟩,rfl⟩
set_option maxRecDepth 100000 in
theorem open_condsT {fuel:Nat} {cs:List Value} {x:DataW H×List MemPlace} (h:DataW.trod enc Tryz.prog w base sp held fuel 25 cs=some x) :
  ∃(A:Option Addr) (c:Nat) (L:List Cd),cs=[.slice A L.length c]∧L.length≤c∧CondsV w (fun _=>True) A L∧L.length≤Rows.uptoBulk x.1:=by
 rcases open_slice_lt Tryz.underlying25 h with ⟨hcs,hx⟩ | ⟨A,len,cap,n',D,Sp,ps,hn',hcs,hl,hx,hD,hcell⟩
 ·exact ⟨none,0,[],hcs,by simp,.inl rfl,by simp⟩
 ·have each:∀i,i<len→∃c:Cd,∀j,j<4→w.cell? ((A.add (i * 4)).add j)=[Value.int .i64 c.kind,.int .i64 c.a,.int .i64 c.b,.int .i64 c.n][j]?:=fun i hi=>by
   obtain ⟨cs',Pl,h1,h2⟩:=hcell i (by omega);rw [cells_Cond] at h1;obtain ⟨_,_,h3⟩:=World.cells?_some h1;obtain ⟨c,rfl⟩:=open_condT h2;exact ⟨c,h3⟩
  obtain ⟨L,hL,hp⟩:=list_of len each;subst hL;refine ⟨some A,cap,L,hcs,hl,?_,?_⟩
  ·by_cases h0:L.length=0
   ·exact .inl (List.eq_nil_of_length_eq_zero h0)
   ·obtain ⟨blk,off,spot⟩:=A;have h1:=hp 0 (by omega) 0 (by omega);have hspot:spot=none:=spot_none (by simpa [Addr.add] using h1);subst hspot;refine .inr ⟨blk,off,rfl,trivial,fun i hi=>?_⟩;have c0:=hp i hi 0 (by omega);have c1:=hp i hi 1 (by omega);have c2:=hp i hi 2 (by omega);have c3:=hp i hi 3 (by omega);simp only [Addr.add_lit] at c0 c1 c2 c3;exact ⟨c0,c1,c2,c3⟩
  ·rw [hx];have h1:=bulk_slice D Sp;have h2:=len_bulk L D hD.symm;show L.length≤Rows.uptoBulk (.slice D Sp);omega
theorem open_strT {fuel:Nat} {cs:List Value} {x:DataW H×List MemPlace} (h:DataW.trod enc Tryz.prog w base sp held fuel 9 cs=some x):∃s:ByteArray,cs=[.string s]∧s.size≤Rows.uptoBulk x.1:=by
 obtain ⟨s,h1,h2,_⟩:=DataW.trod_string Tryz.underlying9 h;refine ⟨s,h1,?_⟩;rw [h2];show s.size≤Rows.uptoBulk (DataW.lit (H:=H) (.string s.data.toList));rw [bulk_string,Array.length_toList];exact Nat.le_succ _
set_option maxRecDepth 100000 in
theorem open_rlT {fuel:Nat} {cs:List Value} {x:DataW H×List MemPlace} (h:DataW.trod enc Tryz.prog w base sp held fuel 27 cs=some x) :
  ∃(r:Rl) (a:RlA),cs=(rlCells r a).toList∧RlK w (fun _=>True) r a∧r.l.size+r.r.size+r.conds.length+r.name.size≤Rows.uptoBulk x.1:=by
 obtain ⟨f0,f1,f2,f3,f4,f5,hu,t0,o0,t1,o1,t2,o2,t3,o3,t4,o4,t5,o5⟩:=und_Rule;obtain ⟨xs,n,hn,rfl,hl,hlen,hf⟩:=DataW.trod_struct hu h;rw [cells_Rule] at hl
 match cs,hl with
 | [v0,v1,v2,v3,v4,v5,v6,v7,v8,v9,v10,v11,v12,v13],_ =>
  match xs,hlen with
  | [y0,y1,y2,y3,y4,y5],_ =>
   have g0:=hf 0 f0 rfl;have g1:=hf 1 f1 rfl;have g2:=hf 2 f2 rfl;have g3:=hf 3 f3 rfl;have g4:=hf 4 f4 rfl;have g5:=hf 5 f5 rfl;rw [t0,o0,cells_string] at g0;rw [t1,o1,cells_Pattern] at g1;rw [t2,o2,cells_Pattern] at g2;rw [t3,o3,cells_Conds] at g3;rw [t4,o4,cells_int] at g4;rw [t5,o5,cells_int] at g5;simp at g0 g1 g2 g3 g4 g5;obtain ⟨s,e0,b0⟩:=open_strT g0;obtain ⟨p,KA,kc,e1,k1,b1⟩:=open_ptT _ g1;obtain ⟨q,KB,kd,e2,k2,b2⟩:=open_ptT _ g2;obtain ⟨A,c,L,e3,l3,k3,b3⟩:=open_condsT g3;obtain ⟨a,e4,_⟩:=open_intT Tryz.underlying3 g4;obtain ⟨b,e5,_⟩:=open_intT Tryz.underlying3 g5;simp at e0 e1 e2 e3 e4 e5;obtain ⟨rfl,rfl,rfl,rfl,rfl⟩:=e1;obtain ⟨rfl,rfl,rfl,rfl,rfl⟩:=e2;subst e0;subst e3;subst e4;subst e5;refine ⟨⟨s,p,q,L,a,b⟩,⟨KA,kc,KB,kd,A,c⟩,rfl,⟨k1,k2,k3,l3⟩,?_⟩;rw [bulk_agg];simp only [List.map_cons,List.map_nil,Rows.uptoBulkAll];show p.size+q.size+L.length+s.size≤_;omega
set_option maxRecDepth 100000 in
theorem open_rlV {r:Reach} {b0:Nat} {v:Value} {d:DataW H} {ps:List MemPlace} (hval:Value.okWide Tryz.prog w r b0 27 v) (hd:DataW.Trod enc Tryz.prog w base sp held 27 v d ps) :
  ∃(x:Rl) (a:RlA),v=rlv x a∧RlK w (fun _=>True) x a∧x.l.size+x.r.size+x.conds.length+x.name.size≤Rows.uptoBulk d:=by
 obtain ⟨cs,rfl,_⟩:=okWide_struct Tryz.underlying27 hval;obtain ⟨fuel,hf⟩:=hd;obtain ⟨x,a,e,k,b⟩:=open_rlT hf;have ec:cs=rlCells x a:=Array.ext' (by simpa [Value.cells] using e);subst ec;exact ⟨x,a,rfl,k,b⟩
end
def rfxF (R:Rl):Rl:=⟨R.name,R.l,R.l,[],R.vars,R.imms⟩
def rfxA (a:RlA):RlA:=⟨a.la,a.lc,a.la,a.lc,none,0⟩
theorem rfx_k {w:World} {F:Nat→Prop} {R:Rl} {a:RlA} (h:RlK w F R a):RlK w F (rfxF R) (rfxA a):=⟨h.l,h.l,.inl rfl,Nat.le_refl _⟩
theorem rfx_sz {R:Rl} (h:RlSz R):RlSz (rfxF R):=⟨h.l,h.l,Nat.zero_le _,h.n⟩
theorem rfx_i {R:Rl} (h:RlI R):RlI (rfxF R):=⟨h.l,h.l,fun _ h=>by cases h⟩
def setRx (w:World) (g:Nat) (a b c d e:Value):World:=(((((w.setCell ⟨g,6,none⟩ a).setCell ⟨g,7,none⟩ b).setCell ⟨g,8,none⟩ c).setCell ⟨g,9,none⟩ d).setCell ⟨g,10,none⟩ e).setCell ⟨g,11,none⟩ (.slice none 0 0)
theorem setRx_blk {w:World} {g:Nat} {t:TypeId} {x0 x1 x2 x3 x4 x5 x6 x7 x8 x9 x10 x11 x12 x13:Value} (h:Blk w g t #[x0,x1,x2,x3,x4,x5,x6,x7,x8,x9,x10,x11,x12,x13]) (a b c d e:Value):Blk (setRx w g a b c d e) g t #[x0,x1,x2,x3,x4,x5,a,b,c,d,e,.slice none 0 0,x12,x13]:=by
 have:=(((((h.set_ 6 a).set_ 7 b).set_ 8 c).set_ 9 d).set_ 10 e).set_ 11 (.slice none 0 0);simpa [setRx] using this
theorem setRx_upd (w:World) (g:Nat) (a b c d e:Value):Upd (·=g) w (setRx w g a b c d e):=by
 unfold setRx;exact (((((updCell _ _ _ _).trans (updCell _ _ _ _) (fun _ _ h=>h)).trans (updCell _ _ _ _) (fun _ _ h=>h)).trans (updCell _ _ _ _) (fun _ _ h=>h)).trans (updCell _ _ _ _) (fun _ _ h=>h)).trans (updCell _ _ _ _) (fun _ _ h=>h)
theorem setRx_eq (w:World) (g:Nat) (a b c d e:Value):(((((w.setCell ⟨g,6,none⟩ a).setCell ⟨g,7,none⟩ b).setCell ⟨g,8,none⟩ c).setCell ⟨g,9,none⟩ d).setCell ⟨g,10,none⟩ e).setCell ⟨g,11,none⟩ (.slice none 0 0)=setRx w g a b c d e:=rfl
set_option maxRecDepth 100000 in
set_option maxHeartbeats 16000000 in
theorem auReflexive_c (w:World) (F:Nat→Prop) (A:Option Addr) (c:Nat) (xs:List Int) (hx:Ints w F A xs) (hc:xs.length≤c) (hI:∀x∈xs,I64 x) (hn:xs.length≤100000000000000) :
  Calls Tryz.prog 7 #[.slice A xs.length c] w fun e w'=>e=.returned (.bool true)∧Upd Non w w':=by
 have CR:=h_ (aRule_c w F A c xs hx hc hI hn);have hz:=aRuleF_sz (xs.take 16);have hri:=aRuleF_i (xs:=xs.take 16) (fun x h=>hI x (List.mem_of_mem_take h));obtain ⟨R,HR⟩:=nm (aRuleF (xs.take 16));rw [HR.out] at hz CR hri;have HZ:=h_ (rfx_sz hz);have HRI:=h_ (rfx_i hri);obtain ⟨l,Hl⟩:=nm xs.length;rw [Hl.out] at CR ⊢;clear hx hc hI hn hz hri;go_enter Tryz.func7,Tryz.ntmps7;go_wp2_with fail
 refine CR.out.mono ?_;rintro e w1 ⟨a,rfl,hk,u1⟩;obtain ⟨W1,HW1⟩:=nm (w1.alloc (.cells (rlCells R a) 27));have uW:Upd Non w1 W1:=by rw [←HW1.out];exact Upd.refl.alloc _
 obtain ⟨rb,hrb⟩:∃b,w1.heap.size=b:=⟨_,rfl⟩;have hb:Blk W1 rb 27 (rlCells R a):=by rw [←HW1.out,←hrb];exact Blk.new _ _ _
 have hk1:=(hk.mono (G:=fun k=>k<w1.heap.size) (fun _ h _=>h)).upd uW (fun _ _ _ f=>f);have HU:=h_ (u1.then_non uW);have HSZ:Hid (w.heap.size≤rb):=by show _≤_;rw [←hrb];exact u1.size
 have HK:=h_ hk1;have HB:=h_ hb;have HRB:=h_ hrb;have e1:=HW1.out;unfold rlCells at e1;unfold rlv rlCells;obtain ⟨c0,c1,c2,c3,c4,c5,c6,c7,c8,c9,c10,c11,c12,c13⟩:=rl_cells hb;have xf:=hb.frozen;have hlt:=hb.lt;clear hk hk1 u1 uW hb CR
 go_upto_region 2 with fail
 clear e1 hrb
 go_upto_region 3 with fail
 clear c0 c1 c2 c3 c4 c5 c6 c7 c8 c9 c10 c11 c12 c13 xf;rw [setRx_eq];have b3:=setRx_blk HB.out (.int .i64 R.l.v) (.int .i64 R.l.op) (.int .i64 R.l.imm) (.int .i64 R.l.iv) (.slice a.la R.l.kids.length a.lc);have v3:=setRx_upd W1 rb (.int .i64 R.l.v) (.int .i64 R.l.op) (.int .i64 R.l.imm) (.int .i64 R.l.iv) (.slice a.la R.l.kids.length a.lc);obtain ⟨W3,HW3⟩:=nm (setRx W1 rb (.int .i64 R.l.v) (.int .i64 R.l.op) (.int .i64 R.l.imm) (.int .i64 R.l.iv) (.slice a.la R.l.kids.length a.lc));rw [HW3.out] at b3 v3 ⊢;have HB3:Hid (Blk W3 rb 27 (rlCells (rfxF R) (rfxA a))):=b3;have HK3:Hid (RlK W3 (fun k=>k<w1.heap.size) (rfxF R) (rfxA a)):=rfx_k (HK.out.upd v3 (fun k _ h q=>by have:=HRB.out;omega));have HU3:Hid (Upd Non w W3):=HU.out.trans v3 (fun i hi q=>by have:=HSZ.out;omega);clear b3 v3 hlt;obtain ⟨Q,HQ⟩:=nm (rfxF R);obtain ⟨aq,HAQ⟩:=nm (rfxA a);rw [HQ.out] at HZ HRI;rw [HQ.out,HAQ.out] at HB3 HK3;have CP:=h_ (aProve_c Q aq _ W3 HK3.out HZ.out);obtain ⟨c0,c1,c2,c3,c4,c5,c6,c7,c8,c9,c10,c11,c12,c13⟩:=rl_cells HB3.out;unfold rlv rlCells at CP;go_wp2_with fail
 refine CP.out.mono ?_;rintro e w2 hP;obtain ⟨u2,hP⟩:=hP;clear CP c0 c1 c2 c3 c4 c5 c6 c7 c8 c9 c10 c11 c12 c13;have HU2:=h_ (HU3.out.then_non u2);have HK2:=h_ (HK3.out.upd u2 (fun _ _ _ f=>f));have HB2:=h_ (HB3.out.upd u2 (fun f=>f));have CQ:=h_ (rAutomaton_c Q aq _ w2 HK2.out HZ.out HRI.out);obtain ⟨c0,c1,c2,c3,c4,c5,c6,c7,c8,c9,c10,c11,c12,c13⟩:=rl_cells HB2.out;unfold rlv rlCells at CQ;clear u2;rcases hP with ⟨L,OA,on,oc,hL,rfl,hO,_⟩ | ⟨hno,rfl⟩
 ·have HO:=h_ hO;have HL:=h_ hL;clear hO hL;go_wp2_with fail
  refine CQ.out.mono ?_;rintro e w3 hP;obtain ⟨u3,hP⟩:=hP;clear CQ c0 c1 c2 c3 c4 c5 c6 c7 c8 c9 c10 c11 c12 c13;have HU4:=h_ (HU2.out.then_non u3);rcases hP with ⟨M,QA,qn,qc,hM,rfl,hQ,_⟩ | ⟨hM,rfl⟩
  rotate_left
  ·rw [HL.out] at hM;cases hM
  ·rw [HL.out] at hM;injection hM with hM
   subst hM;have hln:on=L.length:=by have:=HO.out.1;rw [List.length_map] at this;exact this
   have hqn:qn=L.length:=by have:=hQ.1;rw [List.length_map] at this;exact this
   obtain rfl:qn=on:=by rw [hln,hqn]
   have hl4:L.length≤4096:=by have h:=(autF_some.1 HL.out);rw [h.2.2.2];exact h.2.1
   have CC:=h_ (aCheck_c (lc:=oc) Q aq _ w3 (HK2.out.upd u3 (fun _ _ _ f=>f)) HZ.out ((HO.out.u8 elAS u3 (fun _ _ f=>f) (fun _ _ _ f=>f)).view (F:=fun _=>True) elAS (fun _ _=>trivial) (fun _ _ _=>trivial)) (by rw [List.length_map];omega))
   rw [List.length_map,←hln,ch_aut HL.out (M:=L) (fun _=>Iff.rfl) hl4] at CC;obtain ⟨c0,c1,c2,c3,c4,c5,c6,c7,c8,c9,c10,c11,c12,c13⟩:=rl_cells (HB2.out.upd u3 (fun f=>f));unfold rlv rlCells at CC;clear u3 hQ hln hqn hl4;go_wp2_with fail
   refine CC.out.mono ?_;rintro e w5 ⟨rfl,u5⟩;clear c0 c1 c2 c3 c4 c5 c6 c7 c8 c9 c10 c11 c12 c13 CC;have HU5:=h_ (HU4.out.then_non u5);clear u5;go_wp2_with fail
   refine (auExamples_c _).mono ?_;rintro e w9 ⟨rfl,u9⟩;go_wp2_with fail
   go_ret;exact ⟨rfl,HU5.out.then_non u9⟩
 ·go_wp2_with fail
  refine CQ.out.mono ?_;rintro e w3 hP;obtain ⟨u3,hP⟩:=hP;clear CQ c0 c1 c2 c3 c4 c5 c6 c7 c8 c9 c10 c11 c12 c13;have HU4:=h_ (HU2.out.then_non u3);rcases hP with ⟨M,QA,qn,qc,hM,rfl,hQ,_⟩ | ⟨hM,rfl⟩
  ·rw [hno] at hM;cases hM
  ·clear u3 hno hM;go_wp2_with fail
   refine (auExamples_c _).mono ?_;rintro e w9 ⟨rfl,u9⟩;go_wp2_with fail
   go_ret;exact ⟨rfl,HU4.out.then_non u9⟩
end Go.Proofs.YtdbjgihnngigeaaGreat
