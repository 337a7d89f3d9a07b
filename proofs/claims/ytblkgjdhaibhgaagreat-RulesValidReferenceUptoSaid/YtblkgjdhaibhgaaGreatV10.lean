/-
  Lemmas and walks that the claim rests on, part 10 (packed by a program).
-/
import Derived.Test.YtblkgjdhaibhgaaGreatV9
import Derived.Test.YtblkgjdhaibhgaaGreatV8
import Derived.Test.YtblkgjdhaibhgaaGreatV3
import Derived.Test.YtblkgjdhaibhgaaGreatV2
import Derived.Test.YtblkgjdhaibhgaaGreatV5
import Derived.Test.YtblkgjdhaibhgaaGreatV1
import Derived.Test.YtblkgjdhaibhgaaGreatV6
import Derived.Deep.CutBlock
import Derived.Test.YtblkgjdhaibhgaaGreatRows
import Derived.ProofKit
import Derived.OpenShut
import Derived.SizedLaws
namespace Go.Proofs.YtblkgjdhaibhgaaGreat
open Go.RowKit
theorem ResX.weak {α:Type} {x y:Xs} {r:Except Er (α×PS)} {P Q:α→Prop} (h:ResX x y r P) (k:∀v,P v→Q v):ResX x y r Q:=by
 refine ⟨fun h0=>?_,h.2⟩;have h1:=h.1 h0
 cases r with
 | error e=>exact h1
 | ok v=>exact ⟨h1.1,h1.2.1,k _ h1.2.2⟩
theorem exY_left_set {T:List (Bs×Nat)} {fin:Nat} {s:Bs} {y:Xs} {b:Bool}:exY T fin s { y with left:=b }={ (exY T fin s y) with left:=b }:=by
 unfold exY Xs.fail;dsimp only
 split
 ·rfl
 ·split <;> rfl
set_option maxRecDepth 100000 in
set_option maxHeartbeats 4000000 in
theorem xRule_c {T:List (Bs×Nat)} {fin:Nat} (hT:XOk T) {w:World} {p:Nat} {A:Option Addr} {c:Nat} {x:Xs} (h:XdS w p A c T fin x) (hx:GoodX T x) :
  Calls Tryz.prog 42 #[.pointer (some ⟨p,0,none⟩)] w (XRuleP w p A c T fin x (ruleN T fin x.ps)):=by
 have hTl:=hT.len;have hxi:=hx.1;obtain ⟨r,Hr⟩:=nm (ruleN T fin x.ps);rw [Hr.out];obtain ⟨W1,HW1⟩:=nm (w.alloc (.cells #[.string ⟨#[]⟩,.int .i64 0,.int .i64 0,.int .i64 0,.int .i64 0,.slice none 0 0,.int .i64 0,.int .i64 0,.int .i64 0,.int .i64 0,.slice none 0 0,.slice none 0 0,.int .i64 0,.int .i64 0] 43))
 have u1:Upd Non w W1:=by rw [←HW1.out];exact Upd.refl.alloc _
 have b1:Blk W1 w.heap.size 43 z14:=by rw [←HW1.out];exact Blk.new _ _ _
 have s1:w.heap.size<W1.heap.size:=by rw [←HW1.out];simp
 obtain ⟨W2,HW2⟩:=nm (W1.alloc (.cells #[.string ⟨#[]⟩,.int .i64 0,.int .i64 0,.int .i64 0,.int .i64 0,.slice none 0 0,.int .i64 0,.int .i64 0,.int .i64 0,.int .i64 0,.slice none 0 0,.slice none 0 0,.int .i64 0,.int .i64 0] 43))
 have u2:Upd Non W1 W2:=by rw [←HW2.out];exact Upd.refl.alloc _
 have b2:Blk W2 W1.heap.size 43 (rlCells ⟨⟨#[]⟩,.mk 0 0 0 0 [],.mk 0 0 0 0 [],[],0,0⟩ ⟨none,0,none,0,none,0⟩):=by rw [←HW2.out];exact Blk.new _ _ _
 have hpw:p<w.heap.size:=h.blk.lt
 have HS2:Hid (XRs w W2 p A c T fin x W1.heap.size ⟨⟨#[]⟩,.mk 0 0 0 0 [],.mk 0 0 0 0 [],[],0,0⟩ ⟨none,0,none,0,none,0⟩) :=
  ⟨(h.non u1).non u2,b1.upd u2 (fun f=>f),b2,CdO.none_,fun k q=>(At.none_ q).elim,PtK.leaf,PtK.leaf,s1,hpw,upd_eq (u1.then_non u2)⟩
 have HXT:=h_ hT;have HX:=h_ hx;clear h hx u1 u2 b1 b2;go_enter Tryz.func42,Tryz.ntmps42
 go_upto_region 1 with fail
 rw [HW1.out]
 go_upto_region 2 with fail
 rw [HW2.out];clear HW1 HW2;obtain ⟨c0,c1,c2,c3,c4,c5,c6,c7⟩:=HS2.out.xd.cells;have cf:=HS2.out.xd.blk.frozen;have hcl:=HS2.out.xd.clear;obtain ⟨x0,Hx0⟩:=nm ({ x with vs:=[],ms:=[] }:Xs);rw [Hx0.out] at hcl;obtain ⟨W3,HW3⟩:=nm ((W2.setCell ⟨p,5,none⟩ (.string ⟨#[]⟩)).setCell ⟨p,6,none⟩ (.string ⟨#[]⟩));rw [HW3.out] at hcl;have e3:=HW3.out;have u3:Upd (·=p) W2 W3:=by rw [←e3];exact (updCell _ p 5 _).trans (updCell _ p 6 _) (fun _ _ q=>q)
 have HS3:=h_ (HS2.out.call hcl u3);have hx0i:x0.i=x.i:=by rw [←Hx0.out]
 have HG0:Hid (GoodX T x0):=by rw [←Hx0.out];exact ⟨HX.out.1,Nat.zero_le _,Nat.zero_le _⟩
 have HNM:Hid (nxS T x0=nxS T x):=by rw [←Hx0.out];rfl
 have CN:=h_ (xNext_c HS3.out.xd (by omega))
 have hsl:(nxS T x0).length≤20000:=by
  by_cases q:x0.why=0∧x0.i<T.length
  ·obtain ⟨s,hs⟩:=tk_some q.2;rw [(nx_some (fin:=fin) q.1 hs).1];exact (hT.tk hs).2
  ·rw [(nx_none (fin:=fin) q).1];simp
 have HG1:=h_ (nxY_good (fin:=fin) HG0.out);obtain ⟨s,Hs⟩:=nm (nxS T x0);obtain ⟨y1,Hy1⟩:=nm (nxY T fin x0);rw [Hs.out] at CN hsl HNM;rw [Hy1.out] at CN HG1;clear hcl u3 HW3 c0 c1 c2 c3 c4 c7 HS2;go_wp2_with fail
 refine CN.out.mono ?_;rintro e w4 ⟨rfl,h4,u4⟩;have HS4:=h_ (HS3.out.call h4 u4);have b4:=HS4.out.rl;unfold rlCells at b4;have k0:=b4.cell 0;have kf:=b4.frozen;obtain ⟨W5,HW5⟩:=nm (w4.setCell ⟨W1.heap.size,0,none⟩ (.string (kstr s)));have u5:Upd (·=W1.heap.size) w4 W5:=by rw [←HW5.out];exact updCell _ _ _ _
 have b5:Blk W5 W1.heap.size 43 (rlCells ⟨kstr s,.mk 0 0 0 0 [],.mk 0 0 0 0 [],[],0,0⟩ ⟨none,0,none,0,none,0⟩):=by
  have:=b4.set_ 0 (.string (kstr s));rw [HW5.out] at this;simpa [rlCells] using this
 have HS5:=h_ (HS4.out.rule u5 b5 rfl rfl rfl HS4.out.kl HS4.out.kr);have CE:=h_ (xExpect_c HS5.out.xd [58] (by have:=HG1.out.1.1;omega));clear b4 c5 c6 cf e3 CN h4 u4 u5 b5 HS3
 go_upto_region 5 with fail
 rw [HW5.out];clear k0 kf HS4 HW5;go_wp2_with fail
 refine CE.out.mono ?_;rintro e w6 ⟨rfl,h6,u6⟩;have HS6:=h_ (HS5.out.call h6 u6);have HG2:Hid (GoodX T (exY T fin [58] y1)):=exY_good HG1.out.1;have HI2:Hid (y1.i≤(exY T fin [58] y1).i):=exY_i;clear CE h6 u6 HS5;obtain ⟨c0,c1,c2,c3,c4,c5,c6,c7⟩:=HS6.out.xd.cells;have cf:=HS6.out.xd.blk.frozen;obtain ⟨W7,HW7⟩:=nm (w6.setCell ⟨p,7,none⟩ (.bool true));have e7:=HW7.out
 have HS7:Hid (XRs w W7 p A c T fin { (exY T fin [58] y1) with left:=true } W1.heap.size ⟨kstr s,.mk 0 0 0 0 [],.mk 0 0 0 0 [],[],0,0⟩ ⟨none,0,none,0,none,0⟩):=by
  rw [←e7];exact HS6.out.call (HS6.out.xd.setLeft true) (updCell _ _ _ _)
 have CT:=h_ (xTerm_any hT true T.length HS7.out.xd HG2.out rfl (fun _=>by omega));clear c0 c1 c2 c3 c4 c5 c6 HS6;go_wp2_with fail
 refine CT.out.mono ?_;rintro e w8 ⟨q1,KA1,kc1,y3,rfl,hq,h8,hg8,_,hi8,hz8,u8,hr8⟩;have HS8:=h_ (HS7.out.call h8 u8);have HQ1:=h_ (HS7.out.new hq);have HG4:=h_ hg8;have HI4:Hid ((exY T fin [58] y1).i≤y3.i):=hi8;have HZ1:Hid (q1.size≤20001):=by have:=hg8.1;show _≤_;omega
 have HR3:Hid (ResX (exY T fin [58] y1) y3 (termF T fin true (T.length+1) (exY T fin [58] y1).ps) (fun v=>v=q1)):=ResX.weak hr8 (fun _ q=>q.1);have b8:=HS8.out.rl;unfold rlCells at b8;have k1:=b8.cell 1;have k2:=b8.cell 2;have k3:=b8.cell 3;have k4:=b8.cell 4;have k5:=b8.cell 5;have kf:=b8.frozen;clear c7 cf e7 HW7 CT hq h8 hg8 hi8 hz8 u8 hr8 HS7;unfold pv
 go_upto_region 8 with fail
 rw [setLf_eq];obtain ⟨W9,HW9⟩:=nm (setLf w8 W1.heap.size (.int .i64 q1.v) (.int .i64 q1.op) (.int .i64 q1.imm) (.int .i64 q1.iv) (.slice KA1 q1.kids.length kc1));rw [HW9.out];have u9:Upd (·=W1.heap.size) w8 W9:=by rw [←HW9.out];exact setLf_upd _ _ _ _ _ _ _
 have b9:Blk W9 W1.heap.size 43 (rlCells ⟨kstr s,q1,.mk 0 0 0 0 [],[],0,0⟩ ⟨KA1,kc1,none,0,none,0⟩):=by rw [←HW9.out];exact setLf_blk b8 _ _ _ _ _
 have HS9:=h_ (HS8.out.rule u9 b9 rfl rfl rfl HQ1.out HS8.out.kr);clear b8 k1 k2 k3 k4 k5 kf u9 b9 HW9 HS8 HQ1;obtain ⟨c0,c1,c2,c3,c4,c5,c6,c7⟩:=HS9.out.xd.cells;have cf:=HS9.out.xd.blk.frozen;obtain ⟨W10,HW10⟩:=nm (W9.setCell ⟨p,7,none⟩ (.bool false));have e10:=HW10.out
 have HS10:Hid (XRs w W10 p A c T fin { y3 with left:=false } W1.heap.size ⟨kstr s,q1,.mk 0 0 0 0 [],[],0,0⟩ ⟨KA1,kc1,none,0,none,0⟩):=by
  rw [←e10];exact HS9.out.call (HS9.out.xd.setLeft false) (updCell _ _ _ _)
 have CE:=h_ (xExpect_c HS10.out.xd [61,62] (by have:=HG4.out.1;show y3.i≤_;omega));clear c0 c1 c2 c3 c4 c5 c6 HS9;go_wp2_with fail
 refine CE.out.mono ?_;rintro e w11 ⟨rfl,h11,u11⟩;rw [exY_left_set] at h11;have HS11:=h_ (HS10.out.call h11 u11);have HG5:Hid (GoodX T (exY T fin [61,62] y3)):=exY_good HG4.out;have HI5:Hid (y3.i≤(exY T fin [61,62] y3).i):=exY_i;have CT:=h_ (xTerm_any hT false T.length HS11.out.xd HG5.out rfl (fun _=>by omega));clear CE c7 cf e10 HW10 h11 u11 HS10;go_wp2_with fail
 refine CT.out.mono ?_;rintro e w12 ⟨q2,KA2,kc2,y5,rfl,hq,h12,hg12,hl12,hi12,hz12,u12,hr12⟩;have HS12:=h_ (HS11.out.call h12 u12);have HQ2:=h_ (HS11.out.new hq);have HG7:=h_ hg12;have HL7:Hid (y5.left=false):=hl12;have HI7:Hid ((exY T fin [61,62] y3).i≤y5.i):=hi12;have HZ2:Hid (q2.size≤20001):=by have:=hg12.1;show _≤_;omega
 have HR5:Hid (ResX (exY T fin [61,62] y3) y5 (termF T fin false (T.length+1) (exY T fin [61,62] y3).ps) (fun v=>v=q2)):=ResX.weak hr12 (fun _ q=>q.1)
 have b12:=HS12.out.rl;unfold rlCells at b12;have k6:=b12.cell 6;have k7:=b12.cell 7;have k8:=b12.cell 8;have k9:=b12.cell 9;have k10:=b12.cell 10;have kf:=b12.frozen;clear CT hq h12 hg12 hl12 hi12 hz12 u12 hr12 HS11;unfold pv
 go_upto_region 11 with fail
 rw [setRt_eq];obtain ⟨W13,HW13⟩:=nm (setRt w12 W1.heap.size (.int .i64 q2.v) (.int .i64 q2.op) (.int .i64 q2.imm) (.int .i64 q2.iv) (.slice KA2 q2.kids.length kc2));rw [HW13.out];have u13:Upd (·=W1.heap.size) w12 W13:=by rw [←HW13.out];exact setRt_upd _ _ _ _ _ _ _
 have b13:Blk W13 W1.heap.size 43 (rlCells ⟨kstr s,q1,q2,[],0,0⟩ ⟨KA1,kc1,KA2,kc2,none,0⟩):=by rw [←HW13.out];exact setRt_blk b12 _ _ _ _ _
 have HS13:=h_ (HS12.out.rule u13 b13 rfl rfl rfl HS12.out.kl HQ2.out);have CI:=h_ (xAt_c HS13.out.xd [105,102]);obtain ⟨z,Hz⟩:=nm (y5.why==0&&decide (tkF T y5.i=some [105,102]));rw [Hz.out] at CI;clear b12 k6 k7 k8 k9 k10 kf u13 b13 HW13 HS12 HQ2
 go_upto_if 30 with fail
 refine CI.out.mono ?_;rintro e w14 ⟨rfl,u14⟩;have HS14:=h_ (HS13.out.non u14);clear CI u14 HS13;have HT:=HXT
 go_upto_if 30 with fail
 go_cut [] (fun wx=>∃(CA:Option Addr) (cc:Nat) (cs:List Cd) (y6:Xs),Hid (XRs w wx p A c T fin y6 W1.heap.size ⟨kstr s,q1,q2,cs,0,0⟩ ⟨KA1,kc1,KA2,kc2,CA,cc⟩)∧Hid (GoodX T y6)∧Hid (y5.i≤y6.i)∧Hid (ResX y5 y6 (ifF T fin (T.length+1) y5.ps) (fun v=>v=cs))∧cs.length≤T.length+2)
 case first =>
  cases z with
  | false =>
   go_wp2_with fail
   go_meet
   case rel=>exact ⟨none,0,[],y5,HS14,HG7,Nat.le_refl _,ifX_none Hz.out,Nat.zero_le _⟩
  | true =>
   have hz2:=Hz.out;simp only [Bool.and_eq_true,beq_iff_eq,decide_eq_true_eq] at hz2;have H05:Hid (y5.why=0):=hz2.1;have HTK:Hid (tkF T y5.i=some [105,102]):=hz2.2;have hiT:=xtk_lt hz2.2;obtain ⟨c0,c1,c2,c3,c4,c5,c6,c7⟩:=HS14.out.xd.cells;have cf:=HS14.out.xd.blk.frozen;have hs18:=HS14.out.call (HS14.out.xd.setI (y5.i+1)) (updCell _ _ _ _);have hg18:GoodX T { y5 with i:=y5.i+1 }:=⟨hiT,Nat.le_succ_of_le HG7.out.2.1,Nat.le_succ_of_le HG7.out.2.2⟩;obtain ⟨i,Hi⟩:=nm y5.i;rw [Hi.out] at c1 hiT hs18;rw [show (.int .i64 ((i+1:Nat):Int):Value)=.int .i64 ((i:Int)+1) from rfl] at hs18;obtain ⟨W18,HW18⟩:=nm (w14.setCell ⟨p,1,none⟩ (.int .i64 ((i:Int)+1)));have e18:=HW18.out;rw [e18,←Hi.out] at hs18;have HS18:=h_ hs18;have HG:=h_ hg18;have HL:Hid (({ y5 with i:=y5.i+1 }:Xs).left=false):=HL7.out;clear hz2 c0 c2 c3 c4 c5 c6 c7 hs18 hg18
   go_upto_region 13 with fail
   clear c1 cf e18 HW18;obtain ⟨yy,CA,cc,cs,Hyy,Hcs,HS,HG,HL⟩:∃(yy:Xs) (CA:Option Addr) (cc:Nat) (cs:List Cd),Hid (yy={ y5 with i:=y5.i+1 })∧Hid (cs=[])∧Hid (XRs w W18 p A c T fin yy W1.heap.size ⟨kstr s,q1,q2,cs,0,0⟩ ⟨KA1,kc1,KA2,kc2,CA,cc⟩)∧Hid (GoodX T yy)∧Hid (yy.left=false):=⟨_,none,0,[],rfl,rfl,HS18,HG,HL⟩
   have hcl:cs.length≤100000:=by rw [Hcs.out];exact Nat.zero_le _
   clear HS18 HS14
   go_cut [] (fun wx=>∃(A8:Option Addr) (c8:Nat) (cd:Cd) (y':Xs),Hid (XRs w wx p A c T fin y' W1.heap.size ⟨kstr s,q1,q2,cs++[cd],0,0⟩ ⟨KA1,kc1,KA2,kc2,A8,c8⟩)∧Hid (GoodX T y')∧Hid (y'.left=false)∧Hid (yy.i≤y'.i)∧Hid (ResX yy y' (pcondF T fin yy.ps) (fun v=>v=cd)))
   case first =>
    obtain ⟨wD,HwD⟩:=nm W18.drew;have uD:Upd Non W18 wD:=by rw [←HwD.out];exact Upd.refl.drew
    have HS:=h_ (HS.out.non uD);refine wp_region_held_drew (S:=fun _=>True) (by kernel_rfl) trivial (fun hHeld=>?_);rw [HwD.out];clear uD;refine wpT 0 ?_;(try simp only [y_,z_]);refine wpT 2 ?_;(try simp only [y_,z_]);refine aR_ (rs:=[1,3]) (by kernel_rfl) (by simp) ?_;refine aC_ rfl (fun K hK=>?_) (aC_ rfl (fun K hK=>?_) aN_)
    ·skip;have hbk:=HS.out.rl;unfold rlCells at hbk;have k11:=hbk.cell 11;go_simp;refine hK.out _ _ ?_ (fun hHeld=>?_)
     ·exact trivial
     clear hK K;(try simp only [y_,z_]);clear hbk k11;refine aR_ (rs:=[3]) (by kernel_rfl) (by simp) ?_;refine aC_ rfl (fun K hK=>?_) aN_;go_simp;refine (xCond_c HT.out HS.out.xd HG.out HL.out).mono ?_;rintro e wc6 ⟨cd,y',rfl,hy',hg',hl',hi',hu',hres⟩;have HS:=h_ (HS.out.call hy' hu');have HG2:=h_ hg';have HL2:Hid (y'.left=false):=hl'.trans HL.out;have HI2:Hid (yy.i≤y'.i):=hi';have HRS:=h_ hres;clear hy' hg' hu' hres hl' hi';go_wp2_with fail
     refine hK.out _ _ ?_ (fun hHeld=>?_)
     ·exact trivial
     clear hK K;(try simp only [y_,z_]);refine aR_ (rs:=[4]) (by kernel_rfl) (by simp) ?_;refine aC_ rfl (fun K hK=>?_) aN_;go_simp;have HS:=h_ (HS.out.non (Upd.refl.alloc (.cells #[.int .i64 cd.kind,.int .i64 cd.a,.int .i64 cd.b,.int .i64 cd.n] 69) (S:=Non)));refine hK.out _ _ ?_ (fun hHeld=>?_)
     ·exact trivial
     clear hK K;(try simp only [y_,z_]);refine aR_ (rs:=[5]) (by kernel_rfl) (by simp) ?_;refine aC_ rfl (fun K hK=>?_) aN_;have hko:=HS.out.cds;unfold CdO at hko;refine step_app rfl rfl T_conds rfl hko rfl (Sl.new _ _ _) rfl (by simp [Value.oneCell']) (by simp only [maxLen];omega) (by omega) ?_;intro A8 c8 w8' ho8 hu8 hat8;have hcd:=CdO.of rfl ho8;have hbk:=HS.out.rl.upd hu8 (fun q=>Nat.lt_irrefl _ (HS.out.cat _ q));unfold rlCells at hbk;have k11:=hbk.cell 11;have kf:=hbk.frozen;clear hko ho8;refine hK.out _ _ ?_ (fun hHeld=>?_)
     ·exact trivial
     clear hK K;(try simp only [y_,z_]);refine wpT 6 ?_;(try simp only [y_,z_]);refine aR_ (rs:=[7]) (by kernel_rfl) (by simp) ?_;refine aC_ rfl (fun K hK=>?_) aN_;go_simp;have hb9:=hbk.set_ 11 (.slice A8 (cs++[cd]).length c8);obtain ⟨w9,Hw9⟩:=nm (w8'.setCell ⟨W1.heap.size,11,none⟩ (.slice A8 (cs++[cd]).length c8));have e9:=Hw9.out;rw [e9] at hb9;rw [List.length_append,List.length_singleton] at e9;rw [e9];have u9:Upd (·=W1.heap.size) w8' w9:=by rw [←Hw9.out];exact updCell _ _ _ _
     have HS:=h_ (HS.out.app hu8 hcd hat8 u9 (by simpa [rlCells] using hb9));clear hbk k11 kf hcd hu8 hat8 hb9 u9 Hw9 e9;refine hK.out _ _ ?_ (fun hHeld=>?_)
     ·exact trivial
     clear hK K;(try simp only [y_,z_]);refine aD_ (by kernel_rfl) ?_ _;go_wp2_with fail
     go_meet
     case rel=>exact ⟨A8,c8,cd,y',HS,HG2,HL2,HI2,HRS⟩
    ·skip;go_simp;refine (xCond_c HT.out HS.out.xd HG.out HL.out).mono ?_;rintro e wc6 ⟨cd,y',rfl,hy',hg',hl',hi',hu',hres⟩;have HS:=h_ (HS.out.call hy' hu');have HG2:=h_ hg';have HL2:Hid (y'.left=false):=hl'.trans HL.out;have HI2:Hid (yy.i≤y'.i):=hi';have HRS:=h_ hres;clear hy' hg' hu' hres hl' hi';go_wp2_with fail
     refine hK.out _ _ ?_ (fun hHeld=>?_)
     ·exact trivial
     clear hK K;(try simp only [y_,z_]);have hbk:=HS.out.rl;unfold rlCells at hbk;have k11:=hbk.cell 11;refine wpAnyH_takeM (fun w'=>w'.cell? ⟨W1.heap.size,11,none⟩=some (.slice CA cs.length cc)) (calm_cell _ _) [5,6,7] (i:=1) (v:=?_) rfl (by kernel_rfl) (by kernel_rfl) (by kernel_rfl) (by kernel_rfl) (fun _ _ _ h=>h) (Or.inl ⟨by rfl,?_⟩) (k11) (by assumption) ?_
     rotate_left
     ·intro w hSw;(try dsimp only at hSw);go_simp;try with_reducible rfl
     (try simp only [y_,z_]);clear hbk k11;refine aR_ (rs:=[4]) (by kernel_rfl) (by simp) ?_;refine aC_ rfl (fun K hK=>?_) aN_;go_simp;have HS:=h_ (HS.out.non (Upd.refl.alloc (.cells #[.int .i64 cd.kind,.int .i64 cd.a,.int .i64 cd.b,.int .i64 cd.n] 69) (S:=Non)));refine hK.out _ _ ?_ (fun hHeld=>?_)
     ·exact trivial
     clear hK K;(try simp only [y_,z_]);refine aR_ (rs:=[5]) (by kernel_rfl) (by simp) ?_;refine aC_ rfl (fun K hK=>?_) aN_;have hko:=HS.out.cds;unfold CdO at hko;refine step_app rfl rfl T_conds rfl hko rfl (Sl.new _ _ _) rfl (by simp [Value.oneCell']) (by simp only [maxLen];omega) (by omega) ?_;intro A8 c8 w8' ho8 hu8 hat8;have hcd:=CdO.of rfl ho8;have hbk:=HS.out.rl.upd hu8 (fun q=>Nat.lt_irrefl _ (HS.out.cat _ q));unfold rlCells at hbk;have k11:=hbk.cell 11;have kf:=hbk.frozen;clear hko ho8;refine hK.out _ _ ?_ (fun hHeld=>?_)
     ·exact trivial
     clear hK K;(try simp only [y_,z_]);refine wpT 6 ?_;(try simp only [y_,z_]);refine aR_ (rs:=[7]) (by kernel_rfl) (by simp) ?_;refine aC_ rfl (fun K hK=>?_) aN_;go_simp;have hb9:=hbk.set_ 11 (.slice A8 (cs++[cd]).length c8);obtain ⟨w9,Hw9⟩:=nm (w8'.setCell ⟨W1.heap.size,11,none⟩ (.slice A8 (cs++[cd]).length c8));have e9:=Hw9.out;rw [e9] at hb9;rw [List.length_append,List.length_singleton] at e9;rw [e9];have u9:Upd (·=W1.heap.size) w8' w9:=by rw [←Hw9.out];exact updCell _ _ _ _
     have HS:=h_ (HS.out.app hu8 hcd hat8 u9 (by simpa [rlCells] using hb9));clear hbk k11 kf hcd hu8 hat8 hb9 u9 Hw9 e9;refine hK.out _ _ ?_ (fun hHeld=>?_)
     ·exact trivial
     clear hK K;(try simp only [y_,z_]);refine aD_ (by kernel_rfl) ?_ _;go_wp2_with fail
     go_meet
     case rel=>exact ⟨A8,c8,cd,y',HS,HG2,HL2,HI2,HRS⟩
   case rest =>
    obtain ⟨CB,cb,cd,y6,HS,HG,HL,HI,HRS⟩:=hcut
    have HC:Hid (CdX T fin y5 y6 (cs++[cd]) (T.length+1)):=by
     show CdX T fin y5 y6 (cs++[cd]) (T.length+1);rw [Hcs.out];have h2:=HRS.out;rw [Hyy.out] at h2;exact CdX.first HTK.out H05.out h2
    have HI6:Hid (y5.i≤y6.i):=by have h3:=HI.out;rw [Hyy.out] at h3;exact Nat.le_of_succ_le h3
    have hcb:(cs++[cd]).length+(T.length+1)≤T.length+2:=by rw [Hcs.out];simp;omega
    clear Hyy Hcs HRS hcl HTK H05 HI;go_wp2_with fail
    go_loopg [] (T.length+1) (fun g wr=>∃(fu:Nat) (CB:Option Addr) (cb:Nat) (cs:List Cd) (y:Xs),Hid (g=fu)∧Hid (XRs w wr p A c T fin y W1.heap.size ⟨kstr s,q1,q2,cs,0,0⟩ ⟨KA1,kc1,KA2,kc2,CB,cb⟩)∧Hid (GoodX T y)∧Hid (y.left=false)∧Hid (CdX T fin y5 y cs fu)∧Hid (y5.i≤y.i)∧cs.length+fu≤T.length+2)
    case atStart=>exact ⟨_,CB,cb,cs++[cd],y6,rfl,HS,HG,HL,HC,HI6,hcb⟩
    case round =>
     clear HS HG HL HC hcb HI6;obtain ⟨fu,CA,cc,cs,y,Hfu,HS,HG,HL,HC,HI,hcb⟩:=hrel;have CI:=h_ (xAt_c HS.out.xd [44]);obtain ⟨z,Hz3⟩:=nm (y.why==0&&decide (tkF T y.i=some [44]));rw [Hz3.out] at CI;go_wp2_with fail
     refine CI.out.mono ?_;rintro e wi ⟨rfl,hui⟩;have HSi:=h_ (HS.out.non hui);clear HS CI hui
     cases z with
     | false =>
      go_wp2_with fail
      go_meet
      case rel=>exact ⟨CA,cc,cs,y,HSi,HG,HI,CdX.done HC.out Hz3.out,by omega⟩
     | true =>
      have hz2:=Hz3.out;simp only [Bool.and_eq_true,beq_iff_eq,decide_eq_true_eq] at hz2;have H05:Hid (y.why=0):=hz2.1;have HTK:Hid (tkF T y.i=some [44]):=hz2.2;have hiT:=xtk_lt hz2.2;obtain ⟨c0,c1,c2,c3,c4,c5,c6,c7⟩:=HSi.out.xd.cells;have cf:=HSi.out.xd.blk.frozen;have hs18:=HSi.out.call (HSi.out.xd.setI (y.i+1)) (updCell _ _ _ _);have hg18:GoodX T { y with i:=y.i+1 }:=⟨hiT,Nat.le_succ_of_le HG.out.2.1,Nat.le_succ_of_le HG.out.2.2⟩;have HIT:=h_ hiT;obtain ⟨i,Hi⟩:=nm y.i;rw [Hi.out] at c1 hiT hs18;rw [show (.int .i64 ((i+1:Nat):Int):Value)=.int .i64 ((i:Int)+1) from rfl] at hs18;obtain ⟨W18,HW18⟩:=nm (wi.setCell ⟨p,1,none⟩ (.int .i64 ((i:Int)+1)));have e18:=HW18.out;rw [e18,←Hi.out] at hs18;obtain ⟨yy,Hyy,HS,HG,HL⟩:∃(yy:Xs),Hid (yy={ y with i:=y.i+1 })∧Hid (XRs w W18 p A c T fin yy W1.heap.size ⟨kstr s,q1,q2,cs,0,0⟩ ⟨KA1,kc1,KA2,kc2,CA,cc⟩)∧Hid (GoodX T yy)∧Hid (yy.left=false):=⟨_,rfl,hs18,hg18,HL.out⟩
      have hcl:cs.length≤100002:=by omega
      clear hz2 c0 c2 c3 c4 c5 c6 c7 hs18 hg18 HSi
      go_upto_region 16 with fail
      clear c1 cf e18 HW18;obtain ⟨wD,HwD⟩:=nm W18.drew;have uD:Upd Non W18 wD:=by rw [←HwD.out];exact Upd.refl.drew
      have HS:=h_ (HS.out.non uD);refine wp_region_held_drew (S:=fun _=>True) (by kernel_rfl) trivial (fun hHeld=>?_);rw [HwD.out];clear uD;refine wpT 0 ?_;(try simp only [y_,z_]);refine wpT 2 ?_;(try simp only [y_,z_]);refine aR_ (rs:=[1,3]) (by kernel_rfl) (by simp) ?_;refine aC_ rfl (fun K hK=>?_) (aC_ rfl (fun K hK=>?_) aN_)
      ·skip;have hbk:=HS.out.rl;unfold rlCells at hbk;have k11:=hbk.cell 11;go_simp;refine hK.out _ _ ?_ (fun hHeld=>?_)
       ·exact trivial
       clear hK K;(try simp only [y_,z_]);clear hbk k11;refine aR_ (rs:=[3]) (by kernel_rfl) (by simp) ?_;refine aC_ rfl (fun K hK=>?_) aN_;go_simp;refine (xCond_c HT.out HS.out.xd HG.out HL.out).mono ?_;rintro e wc6 ⟨cd,y',rfl,hy',hg',hl',hi',hu',hres⟩;have HS:=h_ (HS.out.call hy' hu');have HG2:=h_ hg';have HL2:Hid (y'.left=false):=hl'.trans HL.out;have HI2:Hid (yy.i≤y'.i):=hi';have HRS:=h_ hres;clear hy' hg' hu' hres hl' hi';go_wp2_with fail
       refine hK.out _ _ ?_ (fun hHeld=>?_)
       ·exact trivial
       clear hK K;(try simp only [y_,z_]);refine aR_ (rs:=[4]) (by kernel_rfl) (by simp) ?_;refine aC_ rfl (fun K hK=>?_) aN_;go_simp;have HS:=h_ (HS.out.non (Upd.refl.alloc (.cells #[.int .i64 cd.kind,.int .i64 cd.a,.int .i64 cd.b,.int .i64 cd.n] 69) (S:=Non)));refine hK.out _ _ ?_ (fun hHeld=>?_)
       ·exact trivial
       clear hK K;(try simp only [y_,z_]);refine aR_ (rs:=[5]) (by kernel_rfl) (by simp) ?_;refine aC_ rfl (fun K hK=>?_) aN_;have hko:=HS.out.cds;unfold CdO at hko;refine step_app rfl rfl T_conds rfl hko rfl (Sl.new _ _ _) rfl (by simp [Value.oneCell']) (by simp only [maxLen];omega) (by omega) ?_;intro A8 c8 w8' ho8 hu8 hat8;have hcd:=CdO.of rfl ho8;have hbk:=HS.out.rl.upd hu8 (fun q=>Nat.lt_irrefl _ (HS.out.cat _ q));unfold rlCells at hbk;have k11:=hbk.cell 11;have kf:=hbk.frozen;clear hko ho8;refine hK.out _ _ ?_ (fun hHeld=>?_)
       ·exact trivial
       clear hK K;(try simp only [y_,z_]);refine wpT 6 ?_;(try simp only [y_,z_]);refine aR_ (rs:=[7]) (by kernel_rfl) (by simp) ?_;refine aC_ rfl (fun K hK=>?_) aN_;go_simp;have hb9:=hbk.set_ 11 (.slice A8 (cs++[cd]).length c8);obtain ⟨w9,Hw9⟩:=nm (w8'.setCell ⟨W1.heap.size,11,none⟩ (.slice A8 (cs++[cd]).length c8));have e9:=Hw9.out;rw [e9] at hb9;rw [List.length_append,List.length_singleton] at e9;rw [e9];have u9:Upd (·=W1.heap.size) w8' w9:=by rw [←Hw9.out];exact updCell _ _ _ _
       have HS:=h_ (HS.out.app hu8 hcd hat8 u9 (by simpa [rlCells] using hb9));clear hbk k11 kf hcd hu8 hat8 hb9 u9 Hw9 e9;refine hK.out _ _ ?_ (fun hHeld=>?_)
       ·exact trivial
       clear hK K;(try simp only [y_,z_]);refine aD_ (by kernel_rfl) ?_ _
       have HM:Hid (0<fu∧CdX T fin y5 y' (cs++[cd]) (fu - 1)):=by
        have h2:=HRS.out;have h3:=HI2.out;rw [Hyy.out] at h2 h3;exact CdX.more HC.out HTK.out H05.out HIT.out h2 h3
       have hg0:=HM.out.1;have HC2:Hid (CdX T fin y5 y' (cs++[cd]) (fu - 1)):=HM.out.2
       have HI3:Hid (y5.i≤y'.i):=by
        have h3:=HI2.out;rw [Hyy.out] at h3;have h4:=HI.out;exact Nat.le_trans h4 (Nat.le_of_succ_le h3)
       clear HM HRS Hyy HC HTK H05;go_wp2_with fail
       go_roundg (fu - 1)
       case measure=>rw [Hfu.out];omega
       case rel=>exact ⟨fu - 1,A8,c8,cs++[cd],y',rfl,HS,HG2,HL2,HC2,HI3,by rw [List.length_append,List.length_singleton];omega⟩
      ·skip;go_simp;refine (xCond_c HT.out HS.out.xd HG.out HL.out).mono ?_;rintro e wc6 ⟨cd,y',rfl,hy',hg',hl',hi',hu',hres⟩;have HS:=h_ (HS.out.call hy' hu');have HG2:=h_ hg';have HL2:Hid (y'.left=false):=hl'.trans HL.out;have HI2:Hid (yy.i≤y'.i):=hi';have HRS:=h_ hres;clear hy' hg' hu' hres hl' hi';go_wp2_with fail
       refine hK.out _ _ ?_ (fun hHeld=>?_)
       ·exact trivial
       clear hK K;(try simp only [y_,z_]);have hbk:=HS.out.rl;unfold rlCells at hbk;have k11:=hbk.cell 11;refine wpAnyH_takeM (fun w'=>w'.cell? ⟨W1.heap.size,11,none⟩=some (.slice CA cs.length cc)) (calm_cell _ _) [5,6,7] (i:=1) (v:=?_) rfl (by kernel_rfl) (by kernel_rfl) (by kernel_rfl) (by kernel_rfl) (fun _ _ _ h=>h) (Or.inl ⟨by rfl,?_⟩) (k11) (by assumption) ?_
       rotate_left
       ·intro w hSw;(try dsimp only at hSw);go_simp;try with_reducible rfl
       (try simp only [y_,z_]);clear hbk k11;refine aR_ (rs:=[4]) (by kernel_rfl) (by simp) ?_;refine aC_ rfl (fun K hK=>?_) aN_;go_simp;have HS:=h_ (HS.out.non (Upd.refl.alloc (.cells #[.int .i64 cd.kind,.int .i64 cd.a,.int .i64 cd.b,.int .i64 cd.n] 69) (S:=Non)));refine hK.out _ _ ?_ (fun hHeld=>?_)
       ·exact trivial
       clear hK K;(try simp only [y_,z_]);refine aR_ (rs:=[5]) (by kernel_rfl) (by simp) ?_;refine aC_ rfl (fun K hK=>?_) aN_;have hko:=HS.out.cds;unfold CdO at hko;refine step_app rfl rfl T_conds rfl hko rfl (Sl.new _ _ _) rfl (by simp [Value.oneCell']) (by simp only [maxLen];omega) (by omega) ?_;intro A8 c8 w8' ho8 hu8 hat8;have hcd:=CdO.of rfl ho8;have hbk:=HS.out.rl.upd hu8 (fun q=>Nat.lt_irrefl _ (HS.out.cat _ q));unfold rlCells at hbk;have k11:=hbk.cell 11;have kf:=hbk.frozen;clear hko ho8;refine hK.out _ _ ?_ (fun hHeld=>?_)
       ·exact trivial
       clear hK K;(try simp only [y_,z_]);refine wpT 6 ?_;(try simp only [y_,z_]);refine aR_ (rs:=[7]) (by kernel_rfl) (by simp) ?_;refine aC_ rfl (fun K hK=>?_) aN_;go_simp;have hb9:=hbk.set_ 11 (.slice A8 (cs++[cd]).length c8);obtain ⟨w9,Hw9⟩:=nm (w8'.setCell ⟨W1.heap.size,11,none⟩ (.slice A8 (cs++[cd]).length c8));have e9:=Hw9.out;rw [e9] at hb9;rw [List.length_append,List.length_singleton] at e9;rw [e9];have u9:Upd (·=W1.heap.size) w8' w9:=by rw [←Hw9.out];exact updCell _ _ _ _
       have HS:=h_ (HS.out.app hu8 hcd hat8 u9 (by simpa [rlCells] using hb9));clear hbk k11 kf hcd hu8 hat8 hb9 u9 Hw9 e9;refine hK.out _ _ ?_ (fun hHeld=>?_)
       ·exact trivial
       clear hK K;(try simp only [y_,z_]);refine aD_ (by kernel_rfl) ?_ _
       have HM:Hid (0<fu∧CdX T fin y5 y' (cs++[cd]) (fu - 1)):=by
        have h2:=HRS.out;have h3:=HI2.out;rw [Hyy.out] at h2 h3;exact CdX.more HC.out HTK.out H05.out HIT.out h2 h3
       have hg0:=HM.out.1;have HC2:Hid (CdX T fin y5 y' (cs++[cd]) (fu - 1)):=HM.out.2
       have HI3:Hid (y5.i≤y'.i):=by
        have h3:=HI2.out;rw [Hyy.out] at h3;have h4:=HI.out;exact Nat.le_trans h4 (Nat.le_of_succ_le h3)
       clear HM HRS Hyy HC HTK H05;go_wp2_with fail
       go_roundg (fu - 1)
       case measure=>rw [Hfu.out];omega
       case rel=>exact ⟨fu - 1,A8,c8,cs++[cd],y',rfl,HS,HG2,HL2,HC2,HI3,by rw [List.length_append,List.length_singleton];omega⟩
 case rest =>
  clear HG7 HL7 HS14;obtain ⟨CA,cc,cs,y6,HS,HG,HI6,HR6,hcl⟩:=hcut;have CE:=h_ (xExpect_c HS.out.xd [59] (by have:=HG.out.1;omega));go_wp2_with fail
  refine CE.out.mono ?_;rintro e w19 ⟨rfl,h19,u19⟩;have HGE:Hid (GoodX T (exY T fin [59] y6)):=exY_good HG.out;have HIE:Hid (y6.i≤(exY T fin [59] y6).i):=exY_i;have HRU:=h_ (ruleX_fin Hx0.out.symm Hs.out Hy1.out HR3.out HR5.out HR6.out);obtain ⟨yE,HyE⟩:=nm (exY T fin [59] y6);rw [HyE.out] at h19 HGE HIE HRU;have HS19:=h_ (HS.out.call h19 u19);clear CE h19 u19 HS;obtain ⟨c0,c1,c2,c3,c4,c5,c6,c7⟩:=HS19.out.xd.cells;have cf:=HS19.out.xd.blk.frozen;have hvs:(kstr yE.vs).size=yE.vs.length:=kstr_size _;have hms:(kstr yE.ms).size=yE.ms.length:=kstr_size _;obtain ⟨sv,Hsv⟩:=nm (kstr yE.vs);obtain ⟨sm,Hsm⟩:=nm (kstr yE.ms);obtain ⟨vn,Hvn⟩:=nm yE.vs.length;obtain ⟨mn,Hmn⟩:=nm yE.ms.length;rw [Hsv.out] at c5 hvs;rw [Hsm.out] at c6 hms;rw [Hvn.out] at hvs HRU;rw [Hmn.out] at hms HRU;have b19:=HS19.out.rl;unfold rlCells at b19;have k12:=b19.cell 12;have k13:=b19.cell 13;have kf:=b19.frozen;obtain ⟨W20,HW20⟩:=nm ((w19.setCell ⟨W1.heap.size,12,none⟩ (.int .i64 (vn:Nat))).setCell ⟨W1.heap.size,13,none⟩ (.int .i64 (mn:Nat)));have e20:=HW20.out
  have u20:Upd (·=W1.heap.size) w19 W20:=by rw [←HW20.out];exact (updCell _ _ 12 _).trans (updCell _ _ 13 _) (fun _ _ q=>q)
  have b20:Blk W20 W1.heap.size 43 (rlCells ⟨kstr s,q1,q2,cs,vn,mn⟩ ⟨KA1,kc1,KA2,kc2,CA,cc⟩):=by
   have:=(b19.set_ 12 (.int .i64 (vn:Nat))).set_ 13 (.int .i64 (mn:Nat));rw [HW20.out] at this;simpa [rlCells] using this
  have HS20:=h_ (HS19.out.rule u20 b20 rfl rfl rfl HS19.out.kl HS19.out.kr);clear c0 c1 c2 c3 c4 c7 b19 u20 b20 HW20
  go_upto_region 20 with fail
  clear c5 c6 cf k12 k13 kf e20 HS19;have b21:=HS20.out.rl;unfold rlCells at b21;have k0:=b21.cell 0;have k1:=b21.cell 1;have k2:=b21.cell 2;have k3:=b21.cell 3;have k4:=b21.cell 4;have k5:=b21.cell 5;have k6:=b21.cell 6;have k7:=b21.cell 7;have k8:=b21.cell 8;have k9:=b21.cell 9;have k10:=b21.cell 10;have k11:=b21.cell 11;have k12:=b21.cell 12;have k13:=b21.cell 13;have b0:=HS20.out.res;unfold z14 at b0;have z0:=b0.cell 0;have z1:=b0.cell 1;have z2:=b0.cell 2;have z3:=b0.cell 3;have z4:=b0.cell 4;have z5:=b0.cell 5;have z6:=b0.cell 6;have z7:=b0.cell 7;have z8:=b0.cell 8;have z9:=b0.cell 9;have z10:=b0.cell 10;have z11:=b0.cell 11;have z12:=b0.cell 12;have z13:=b0.cell 13;have zf:=b0.frozen;have HB0:=h_ b0;clear b21 b0;go_wp2_with fail
  rw [set14_eq];have u22:=set14_upd W20 w.heap.size (.string (kstr s)) (.int .i64 q1.v) (.int .i64 q1.op) (.int .i64 q1.imm) (.int .i64 q1.iv) (.slice KA1 q1.kids.length kc1) (.int .i64 q2.v) (.int .i64 q2.op) (.int .i64 q2.imm) (.int .i64 q2.iv) (.slice KA2 q2.kids.length kc2) (.slice CA cs.length cc) (.int .i64 (vn:Nat)) (.int .i64 (mn:Nat))
  have HF:=h_ (HS20.out.fin_ u22);refine bodyPost_ret (results_cell_row rfl _ _ w.heap.size 43 _ (0,0) _ rfl (set14_blk HB0.out _ _ _ _ _ _ _ _ _ _ _ _ _ _) Tryz.underlying43 rfl (by kernel_rfl)) rfl ?_
  rw [←Hr.out];refine ⟨⟨kstr s,q1,q2,cs,vn,mn⟩,⟨KA1,kc1,KA2,kc2,CA,cc⟩,yE,rfl,HF.out.2.1,HF.out.1,HGE.out,?_,HF.out.2.2,⟨?_,?_,?_,?_⟩,by rw [←HNM.out],HRU.out⟩
  ·have e1:=HG1.out.2.1;have e2:=HI2.out;have e3:=HI4.out;have e4:=HI5.out;have e5:=HI7.out;have e6:=HI6.out;have e7:=HIE.out;omega
  ·have:=HZ1.out;show q1.size≤_;omega
  ·have:=HZ2.out;show q2.size≤_;omega
  ·show cs.length≤_;omega
  ·show (kstr s).size≤_;rw [kstr_size];omega
theorem ptE_sound (p:Pt):∀q,ptE p q=true→p=q:=by
 induction p using Pt.ind with
 | h p ih =>
  intro q h;rw [ptE_eq,Bool.and_eq_true,decide_eq_true_eq] at h;obtain ⟨⟨h1,h2,h3,h4,h5⟩,h6⟩:=h
  have hk:∀(ks ls:List Pt),(∀k∈ks,∀q,ptE k q=true→k=q)→ks.length=ls.length→ptEL ks ls=true→ks=ls:=by
   intro ks
   induction ks with
   | nil=>intro ls _ hl _;exact (List.eq_nil_of_length_eq_zero hl.symm).symm
   | cons k ks ihl =>
    intro ls hm hl he
    cases ls with
    | nil=>cases hl
    | cons l ls =>
     rw [ptEL,Bool.and_eq_true] at he;rw [hm k List.mem_cons_self l he.1,ihl ls (fun k hk=>hm k (List.mem_cons_of_mem _ hk)) (Nat.succ.inj hl) he.2]
  have h7:=hk p.kids q.kids ih h5 h6;cases p
  cases q
  simp only [Pt.v,Pt.op,Pt.imm,Pt.iv,Pt.kids] at h1 h2 h3 h4 h7;subst h1 h2 h3 h4 h7;rfl
theorem rlE_sound {r s:Rl} (hn:r.name=s.name) (h:rlE r s=true):r=s:=by
 unfold rlE at h;simp only [Bool.and_eq_true,decide_eq_true_eq] at h;obtain ⟨⟨⟨⟨h1,h2,_⟩,h3⟩,h4⟩,h5⟩:=h;have h6:=ptE_sound _ _ h3;have h7:=ptE_sound _ _ h4;cases r
 cases s
 dsimp only at *;subst hn h1 h2 h5 h6 h7;rfl
def axTy (x:Bs×Bs):Bs:=x.1++[32,58,32]++x.2++[32,59]
def axN (x:Bs×Bs):Except Er (Rl×PS):=ruleN (goodT (toksF (axTy x))) (axTy x).length ⟨0,[],[]⟩
theorem axy_all:axL.all (fun x=>match parseG (fun _=>none) (axTx x),axN x with | .ok [r],.ok (q,_)=>decide (r.name=q.name)&&rlE r q | _,_=>false)=true:=by decide +kernel
theorem axy {x:Bs×Bs} (h:x∈axL):∃r z,parseG (fun _=>none) (axTx x)=.ok [r]∧axN x=.ok (r,z):=by
 have h1:=List.all_eq_true.1 axy_all x h
 split at h1
 ·rename_i r q z e1 e2;rw [Bool.and_eq_true,decide_eq_true_eq] at h1;obtain rfl:=rlE_sound h1.1 h1.2;exact ⟨r,z,e1,e2⟩
 ·cases h1
theorem xok_toks {s:Bs} (hs:s.length≤20000) (hl:(goodT (toksF s)).length≤s.length):XOk (goodT (toksF s)) :=
 ⟨fun _ ht=>(tokL_s _ _ _ _ (goodT_mem ht) rfl).1,fun t ht=>by have h3:t.1.length≤s.length:=(tokL_s _ _ _ _ (goodT_mem ht) rfl).2;omega,by omega⟩
set_option maxRecDepth 100000 in
theorem xAxiomTexts_c (w:World):Calls Tryz.prog 40 #[] w fun e w'=>e=.returned (.slice (some ⟨w.heap.size,0,none⟩) 44 44)∧Blk w' w.heap.size 9 axCs.toArray∧Upd Non w w':=by
 go_enter Tryz.func40,Tryz.ntmps40;go_wp2_with fail
 go_ret;exact ⟨rfl,Blk.new _ _ _,Upd.refl.alloc _⟩
set_option maxRecDepth 100000 in
set_option maxHeartbeats 4000000 in
theorem xAxiom_c (s:Bs) (w:World):Calls Tryz.prog 19 #[.string (kstr s)] w (AxP axiomF s w):=by
 have HX:Hid (axiomF s=match axL.find? (fun x=>decide (x.1=s)) with
  | none=>none
  | some x=>match parseG (fun _=>none) (axTx x) with
   | .ok [r]=>some r
   | _=>none):=axiomF_eq s
 obtain ⟨W1,HW1⟩:=nm (w.alloc (.cells #[.string ⟨#[]⟩,.int .i64 0,.int .i64 0,.int .i64 0,.int .i64 0,.slice none 0 0,.int .i64 0,.int .i64 0,.int .i64 0,.int .i64 0,.slice none 0 0,.slice none 0 0,.int .i64 0,.int .i64 0] 43))
 have e1:=HW1.out;have u1:Upd Non w W1:=by rw [←e1];exact Upd.refl.alloc _
 have b1:Blk W1 w.heap.size 43 z14:=by rw [←e1];exact Blk.new _ _ _
 have s1:W1.heap.size=w.heap.size+1:=by rw [←e1];simp
 have CA:=h_ (xAxiomTexts_c W1);rw [s1] at CA;obtain ⟨qs,Hqs⟩:=nm (kstr s);rw [Hqs.out];have HB1:=h_ b1;have HU1:=h_ u1;clear u1 b1 s1;go_enter Tryz.func19,Tryz.ntmps19;go_wp2_with fail
 refine CA.out.mono ?_;rintro e w2 ⟨rfl,hbt,hu2⟩;have HT:=h_ hbt;have HB2:=h_ (HB1.out.upd hu2 (fun f=>f));have HU2:=h_ (HU1.out.then_non hu2);clear hbt hu2 CA HB1 HU1 e1;go_wp2_with fail
 go_loopg [5] 22 (fun g iv wr=>∃j k:Nat,Hid (g=22 - j)∧j≤22∧Hid (k=j * 2)∧iv=.int .i64 k∧Hid (wr=w2)∧Hid (∀x∈axL.take j,¬x.1=s))
 case atStart=>exact ⟨0,0,rfl,Nat.zero_le _,rfl,rfl,rfl,fun x hx=>by simp at hx⟩
 case round =>
  obtain ⟨j,k,Hg,hj,Hk,rfl,HWR,HN⟩:=hrel;have hwr:=HWR.out;subst hwr;have hb:=HT.out;have hr:=HB2.out;by_cases hlt:j<22
  ·have hal:j<axL.length:=hlt;have hk44:k+1<44:=by rw [Hk.out];omega
   obtain ⟨k0,k1⟩:=axCs_get hal;rw [←Hk.out] at k0 k1;have c0:wr.cell? ⟨w.heap.size+1,k,none⟩=some (.string (kstr axL[j].1)):=by rw [hb.cell];simpa using k0
   have c1:wr.cell? ⟨w.heap.size+1,k+1,none⟩=some (.string (kstr axL[j].2)):=by rw [hb.cell];simpa using k1
   have HM:Hid (axL[j]∈axL):=List.getElem_mem hal
   have HDR:Hid (axL=axL.take j++axL[j]::axL.drop (j+1)):=by
    show axL=_;rw [←List.drop_eq_getElem_cons hal,List.take_append_drop]
   have HTK:Hid (axL.take (j+1)=axL.take j++[axL[j]]):=take_snoc' hal;generalize axL[j]=xx at *;obtain ⟨D,HD⟩:=nm (decide (xx.1=s));have hD:((kstr xx.1).toList==qs.toList)=D:=by rw [←Hqs.out,str_beq,HD.out]
   obtain ⟨qa,Hqa⟩:=nm (kstr xx.1);obtain ⟨qb,Hqb⟩:=nm (kstr xx.2);rw [Hqa.out] at c0 hD;rw [Hqb.out] at c1;clear k0 k1 hb hr
   cases D with
   | false =>
    go_wp2_with fail
    go_roundg (22 - (j+1))
    case measure=>rw [Hg.out];omega
    case rel =>
     refine ⟨j+1,k+2,rfl,by omega,by show _=_;rw [Hk.out];omega,by go_num,rfl,fun y hy=>?_⟩;rw [HTK.out] at hy;rcases List.mem_append.1 hy with hy | hy
     ·exact HN.out y hy
     ·rw [List.mem_singleton] at hy;subst hy;exact of_decide_eq_false HD.out
   | true =>
    obtain ⟨rl,z,hpr,hax⟩:=axy HM.out;obtain ⟨la,lb⟩:=ax_size HM.out;have hxs:xx.1=s:=of_decide_eq_true HD.out;have hqa:qa=qs:=by rw [←Hqa.out,←Hqs.out,hxs]
    rw [Hqa.out,hqa] at la;rw [Hqb.out] at lb
    have hkx:kx (((qs++{ data:=#[32,58,32] })++qb)++{ data:=#[32,59] })=axTy xx:=by
     rw [←Hqs.out,←Hqb.out,←hxs];simp [kx,kstr,axTy]
    have hsz:(((qs++{ data:=#[32,58,32] })++qb)++{ data:=#[32,59] }).size≤3000:=by
     simp only [ByteArray.size_append];show qs.size+3+qb.size+2≤3000;omega
    obtain ⟨str,Hstr⟩:=nm (((qs++{ data:=#[32,58,32] })++qb)++{ data:=#[32,59] });have estr:=Hstr.out;rw [estr] at hkx hsz;have CT:=h_ (xTokens_c str wr (by omega));have hkl:(kx str).length=str.size:=kx_len _
    have HXO:Hid ((goodT (toksF (axTy xx))).length≤str.size→XOk (goodT (toksF (axTy xx)))):=fun q=>by
     rw [hkx] at hkl;exact xok_toks (by omega) (by omega)
    have HAX:Hid (ruleN (goodT (toksF (axTy xx))) str.size ⟨0,[],[]⟩=.ok (rl,z)):=by
     show _=_;rw [←hax,←hkl,hkx];rfl
    rw [hkx] at CT;obtain ⟨T,HTT⟩:=nm (goodT (toksF (axTy xx)));rw [HTT.out] at CT HAX HXO;obtain ⟨m,Hm⟩:=nm str.size;have hm:=Hm.out;rw [hm] at HAX HXO CT hsz;have HPR:=h_ hpr;clear hkx hpr hkl hax hxs hqa hal
    go_upto_region 7 with fail
    clear estr;go_wp2_with fail
    refine CT.out.mono ?_;rintro e w4 ⟨A,c,mm,rfl,ho4,hat4,hlen4,hf4,hm4,u4⟩;clear hf4 hm4;have hT:=HXO.out hlen4;obtain ⟨W5,HW5⟩:=nm (w4.alloc (.cells #[.slice A T.length c,.int .i64 0,.int .i64 (m:Nat),.int .i64 0,.int .i64 0,.string ⟨#[]⟩,.string ⟨#[]⟩,.bool false] 88))
    have u5:Upd Non w4 W5:=by rw [←HW5.out];exact Upd.refl.alloc _
    have b5:Blk W5 w4.heap.size 88 (xcells A T.length c m ⟨0,0,0,[],[],false⟩):=by rw [←HW5.out];exact Blk.new _ _ _
    have hxd:XdS W5 w4.heap.size A c T m ⟨0,0,0,[],[],false⟩:=⟨b5,((xt_view ho4).upd u5 (fun _ _ _ f=>f)).mono (fun k hk q=>Own.lt ho4 q),Own.le ho4⟩
    have CR:=h_ (xRule_c hT hxd ⟨Nat.zero_le _,Nat.zero_le _,Nat.zero_le _⟩);have HU5:=h_ ((HU2.out.then_non u4).then_non u5);have HR5:=h_ ((HB2.out.upd u4 (fun f=>f)).upd u5 (fun f=>f));have hl4:=u4.size;have hl2:=HU2.out.size;have hl5:=u5.size;have hlw:=HB2.out.lt;have hch:w.heap.size<W5.heap.size:=Nat.lt_of_lt_of_le (Nat.lt_of_lt_of_le HB2.out.lt hl4) hl5;clear ho4 hat4 u4 u5 b5 hxd CT hT HXO
    go_upto_region 9 with fail
    rw [HW5.out];go_wp2_with fail
    refine CR.out.mono ?_;rintro e w6 ⟨R,a,y,rfl,hrk,hx1,hx2,hx3,u6,hx4,hx5,hres⟩;clear hx1 hx2 hx3 hx4 hx5
    have HE:Hid (R=rl):=by
     have h1:=hres.1 rfl;rw [show (⟨0,0,0,[],[],false⟩:Xs).ps=⟨0,[],[]⟩ from rfl,HAX.out] at h1;exact h1.2.2.symm
    have b0:=HR5.out.upd u6 (by omega);unfold z14 at b0;have z0:=b0.cell 0;have z1:=b0.cell 1;have z2:=b0.cell 2;have z3:=b0.cell 3;have z4:=b0.cell 4;have z5:=b0.cell 5;have z6:=b0.cell 6;have z7:=b0.cell 7;have z8:=b0.cell 8;have z9:=b0.cell 9;have z10:=b0.cell 10;have z11:=b0.cell 11;have z12:=b0.cell 12;have z13:=b0.cell 13;have zf:=b0.frozen;have HRK:=h_ hrk;have HU6:Hid (Upd Non w w6):=HU5.out.trans u6 (fun k hk e=>by omega);have HB0:=h_ b0;clear hrk hres u6 CR b0 HAX;unfold rlv rlCells;go_wp2_with fail
    rw [set14_eq];obtain ⟨W8,HW8⟩:=nm (set14 w6 w.heap.size (.string R.name) (.int .i64 R.l.v) (.int .i64 R.l.op) (.int .i64 R.l.imm) (.int .i64 R.l.iv) (.slice a.la R.l.kids.length a.lc) (.int .i64 R.r.v) (.int .i64 R.r.op) (.int .i64 R.r.imm) (.int .i64 R.r.iv) (.slice a.ra R.r.kids.length a.rc) (.slice a.ca R.conds.length a.cc) (.int .i64 R.vars) (.int .i64 R.imms))
    rw [HW8.out];have us:Upd (·=w.heap.size) w6 W8:=by rw [←HW8.out];exact set14_upd _ _ _ _ _ _ _ _ _ _ _ _ _ _ _ _
    have b8:Blk W8 w.heap.size 43 (rlCells R a):=by rw [←HW8.out];exact set14_blk HB0.out _ _ _ _ _ _ _ _ _ _ _ _ _ _
    have hU8:Upd Non w W8:=HU6.out.trans us (fun k hk e=>Nat.lt_irrefl _ (e ▸ hk));have hK8:RlK W8 (fun k=>w.heap.size≤k) R a:=(HRK.out.upd us (fun k _ q e=>Nat.lt_irrefl _ (Nat.lt_of_lt_of_le hch (e ▸ q)))).mono (fun k _ q=>Nat.le_trans (Nat.le_of_lt hch) q)
    clear HW8 us;refine bodyPost_ret (results_cell_row_tmp rfl _ _ w.heap.size 43 _ (0,0) _ rfl b8 Tryz.underlying43 rfl (by kernel_rfl)) rfl ?_;refine ⟨R,a,true,rfl,hK8,hU8,fun _=>?_,fun q=>(by cases q)⟩;rw [HX.out,HDR.out,find_take HN.out (of_decide_eq_true HD.out)];dsimp only;rw [HPR.out,HE.out]
  ·obtain rfl:j=22:=by omega
   have hk44:k=44:=Hk.out;subst hk44;clear hb;unfold z14 at hr;have z0:=hr.cell 0;have z1:=hr.cell 1;have z2:=hr.cell 2;have z3:=hr.cell 3;have z4:=hr.cell 4;have z5:=hr.cell 5;have z6:=hr.cell 6;have z7:=hr.cell 7;have z8:=hr.cell 8;have z9:=hr.cell 9;have z10:=hr.cell 10;have z11:=hr.cell 11;have z12:=hr.cell 12;have z13:=hr.cell 13;have zf:=hr.frozen;go_wp2_with fail
   rw [set14_eq];have us:=set14_upd wr w.heap.size (.string ⟨#[]⟩) (.int .i64 0) (.int .i64 0) (.int .i64 0) (.int .i64 0) (.slice none 0 0) (.int .i64 0) (.int .i64 0) (.int .i64 0) (.int .i64 0) (.slice none 0 0) (.slice none 0 0) (.int .i64 0) (.int .i64 0)
   have b5:=set14_blk hr (.string ⟨#[]⟩) (.int .i64 0) (.int .i64 0) (.int .i64 0) (.int .i64 0) (.slice none 0 0) (.int .i64 0) (.int .i64 0) (.int .i64 0) (.int .i64 0) (.slice none 0 0) (.slice none 0 0) (.int .i64 0) (.int .i64 0)
   refine bodyPost_ret (results_cell_row_tmp rfl _ _ w.heap.size 43 _ (0,0) _ rfl b5 Tryz.underlying43 rfl (by kernel_rfl)) rfl ?_;refine ⟨⟨⟨#[]⟩,.mk 0 0 0 0 [],.mk 0 0 0 0 [],[],0,0⟩,⟨none,0,none,0,none,0⟩,false,rfl,⟨PtK.leaf,PtK.leaf,CondsV.nil,Nat.le_refl _⟩,HU2.out.trans us (fun k hk e=>by omega),fun q=>(by cases q),fun _=>?_⟩
   rw [HX.out,List.find?_eq_none.2];intro y hy;simpa using HN.out y (by rw [List.take_of_length_le (show axL.length≤22 from Nat.le_refl _)];exact hy)
set_option maxRecDepth 100000 in
set_option maxHeartbeats 1000000 in
theorem xAxioms_c (w:World):Calls Tryz.prog 26 #[] w fun e w'=>∃(A:Option Addr) (c:Nat),e=.returned (.slice A 22 c)∧Own w' 9 1 A 22 c (nmCs axL)∧(∀k,At A k→w.heap.size≤k)∧Upd Non w w':=by
 have CA:=h_ (xAxiomTexts_c w);go_enter Tryz.func26,Tryz.ntmps26;go_wp2_with fail
 refine CA.out.mono ?_;rintro e w2 ⟨rfl,hbt,hu2⟩;have HT:=h_ hbt;have HU2:=h_ hu2;have hs2:=hu2.size;clear hbt hu2 CA;go_wp2_with fail
 go_loopg [1,3] 22 (fun g v iv wr=>∃(j k:Nat) (A:Option Addr) (c:Nat),Hid (g=22 - j)∧j≤22∧Hid (k=j * 2)∧iv=.int .i64 k∧v=.slice A j c∧Hid (Own wr 9 1 A j c (nmCs (axL.take j)))∧Hid (∀k,At A k→w2.heap.size≤k)∧Hid (Upd Non w2 wr))
 case atStart=>exact ⟨0,0,none,0,rfl,Nat.zero_le _,rfl,rfl,rfl,Own.none_,fun _ q=>(At.none_ q).elim,Upd.refl⟩
 case round =>
  obtain ⟨j,k,A,c,Hg,hj,Hk,rfl,rfl,HO,HA,HU⟩:=hrel;have hb:=HT.out.upd HU.out (fun f=>f);by_cases hlt:j<22
  ·have hal:j<axL.length:=hlt;have hk44:k+1<44:=by rw [Hk.out];omega
   obtain ⟨k0,_⟩:=axCs_get hal;rw [←Hk.out] at k0;have c0:wr.cell? ⟨w.heap.size,k,none⟩=some (.string (kstr axL[j].1)):=by rw [hb.cell];simpa using k0
   have HTK:Hid (axL.take (j+1)=axL.take j++[axL[j]]):=take_snoc' hal;generalize axL[j]=xx at *;obtain ⟨qa,Hqa⟩:=nm (kstr xx.1);rw [Hqa.out] at c0;have hsl:=HU.out.size;have hoA:=HO.out;clear k0 hb
   go_wp2_with (at_builtin;refine wpList_app rfl rfl T_strs rfl (hoA.alloc _) rfl (Sl.new _ _ _) rfl (by simp [Value.oneCell']) (by simp only [maxLen];omega) (by omega) ?_;intro A4 c4 w4 ho4 hu4 hat4)
   have HU4:Hid (Upd Non w2 w4):=(HU.out.alloc _).trans hu4 (fun k hk e=>by have:=HA.out k e;omega)
   have HA4:Hid (∀k,At A4 k→w2.heap.size≤k):=fun k hk=>by
    rcases hat4 k hk with q | q
    ·exact HA.out k q
    ·simp at q;omega
   have HO4:Hid (Own w4 9 1 A4 (j+1) c4 (nmCs (axL.take (j+1)))):=by
    show Own _ _ _ _ _ _ _;rw [HTK.out,nmCs_snoc,Hqa.out];exact ho4
   clear ho4 hu4 hat4 hoA
   go_roundg (22 - (j+1))
   case measure=>rw [Hg.out];omega
   case rel=>exact ⟨j+1,k+2,A4,c4,rfl,by omega,by show _=_;rw [Hk.out];omega,by go_num,rfl,HO4.out,HA4.out,HU4.out⟩
  ·obtain rfl:j=22:=by omega
   have hk44:k=44:=Hk.out;subst hk44;clear hb;have hO:=HO.out;rw [List.take_of_length_le (show axL.length≤22 from Nat.le_refl _)] at hO;have HO2:=h_ hO;clear hO;go_wp2_with fail
   go_ret;exact ⟨A,c,rfl,HO2.out,fun k hk=>by have:=HA.out k hk;omega,HU2.out.then_non HU.out⟩
set_option maxRecDepth 100000 in
set_option maxHeartbeats 2000000 in
theorem xFmtCond_c (c:Cd) (h:CdFm c) (w:World):Calls Tryz.prog 56 #[.agg #[.int .i64 c.kind,.int .i64 c.a,.int .i64 c.b,.int .i64 c.n]] w fun e w'=>e=.returned (.string (kstr (fmtC c)))∧Upd Non w w':=by
 obtain ⟨W,HW⟩:=nm (w.alloc (.cells #[.int .i64 c.kind,.int .i64 c.a,.int .i64 c.b,.int .i64 c.n] 69));have hU:Upd Non w W:=by rw [←HW.out];exact Upd.refl.alloc _
 have hb:Blk W w.heap.size 69 #[.int .i64 c.kind,.int .i64 c.a,.int .i64 c.b,.int .i64 c.n]:=by rw [←HW.out];exact Blk.new _ _ _
 have e0:=HW.out;have HU:=h_ hU;have HB:=h_ hb;have H:=h_ h;have c0:=hb.cell 0;have c1:=hb.cell 1;have c2:=hb.cell 2;have c3:=hb.cell 3;have a0:=h.a0;have a1:=h.a1;have cv:=letV a0 a1 W;have k0:=h.k0;have k1:=h.k1;have hza:(kstr [UInt8.ofNat (96+c.a.toNat)]).size≤1:=by rw [kstr_size];exact Nat.le_refl _
 have HF:Hid (fmtC c=condNm c.kind++[32]++(if c.kind=1 then vnF c.a else if c.kind=4 then vnF c.a++[32]++vnF c.b else if c.kind=5 then vnF c.a++[32]++inF c.b else if c.kind=6 then inF c.a++[32]++inF c.b else vnF c.a++[32]++textF c.n)):=rfl
 obtain ⟨res,Hres⟩:=nm (fmtC c);rw [Hres.out] at HF ⊢;obtain ⟨W1,HW1⟩:=nm (W.alloc (.cells #[.int .u8 (97+c.a - 1)] 5));have u1:Upd Non W W1:=by rw [←HW1.out];exact Upd.refl.alloc _
 have d0:=u_ c0 u1 (fun f=>f);have d1:=u_ c1 u1 (fun f=>f);have d2:=u_ c2 u1 (fun f=>f);have d3:=u_ c3 u1 (fun f=>f);have HU1:=h_ (hU.then_non u1);obtain ⟨sa,Hsa⟩:=nm (kstr [UInt8.ofNat (96+c.a.toNat)]);rw [Hsa.out] at cv hza;clear hU hb h u1 c0 c2 c3;go_enter Tryz.func56,Tryz.ntmps56
 go_upto_region 2 with fail
 rw [HW1.out];clear e0 cv c1;rcases (by omega:c.kind=1∨c.kind=2∨c.kind=3∨c.kind=4∨c.kind=5∨c.kind=6) with hk | hk | hk | hk | hk | hk
 ·have HE:Hid (({ data:=#[110,111,110,122,101,114,111,32] }:ByteArray)++(({ data:=#[63] }:ByteArray)++sa)=kstr res):=by
   show _=_;rw [HF.out,hk,←Hsa.out,show ({ data:=#[110,111,110,122,101,114,111,32] }:ByteArray)=kstr [110,111,110,122,101,114,111,32] from rfl,show ({ data:=#[63] }:ByteArray)=kstr [63] from rfl,kstr_app,kstr_app]
   rfl
  rw [hk] at d0;clear HF Hres;go_wp2_with fail
  go_ret;exact ⟨by rw [←HE.out];rfl,HU1.out⟩
 ·have HE:Hid (((({ data:=#[108,101,97,115,116,32] }:ByteArray)++(({ data:=#[63] }:ByteArray)++sa))++({ data:=#[32] }:ByteArray))++kstr (textF c.n)=kstr res):=by
   show _=_;rw [HF.out,hk,←Hsa.out,show ({ data:=#[108,101,97,115,116,32] }:ByteArray)=kstr [108,101,97,115,116,32] from rfl,show ({ data:=#[63] }:ByteArray)=kstr [63] from rfl,show ({ data:=#[32] }:ByteArray)=kstr [32] from rfl,kstr_app,kstr_app,kstr_app,kstr_app]
   rfl
  have CT:=h_ (fun W=>r1Text_c c.n H.out.n0 H.out.n1 W);have hz2:(kstr (textF c.n)).size≤24:=ksz (by have:=textF_len ⟨H.out.n0,H.out.n1⟩;omega);rw [hk] at d0;obtain ⟨tx,Htx⟩:=nm (kstr (textF c.n));rw [Htx.out] at CT hz2 HE;clear HF Hres;go_wp2_with fail
  refine (CT.out _).mono ?_;rintro e w3 ⟨rfl,u3⟩;go_wp2_with fail
  go_ret;exact ⟨by rw [←HE.out];rfl,HU1.out.then_non u3⟩
 ·have HE:Hid (((({ data:=#[109,111,115,116,32] }:ByteArray)++(({ data:=#[63] }:ByteArray)++sa))++({ data:=#[32] }:ByteArray))++kstr (textF c.n)=kstr res):=by
   show _=_;rw [HF.out,hk,←Hsa.out,show ({ data:=#[109,111,115,116,32] }:ByteArray)=kstr [109,111,115,116,32] from rfl,show ({ data:=#[63] }:ByteArray)=kstr [63] from rfl,show ({ data:=#[32] }:ByteArray)=kstr [32] from rfl,kstr_app,kstr_app,kstr_app,kstr_app]
   rfl
  have CT:=h_ (fun W=>r1Text_c c.n H.out.n0 H.out.n1 W);have hz2:(kstr (textF c.n)).size≤24:=ksz (by have:=textF_len ⟨H.out.n0,H.out.n1⟩;omega);rw [hk] at d0;obtain ⟨tx,Htx⟩:=nm (kstr (textF c.n));rw [Htx.out] at CT hz2 HE;clear HF Hres;go_wp2_with fail
  refine (CT.out _).mono ?_;rintro e w3 ⟨rfl,u3⟩;go_wp2_with fail
  go_ret;exact ⟨by rw [←HE.out];rfl,HU1.out.then_non u3⟩
 ·have HE:Hid (((({ data:=#[97,112,97,114,116,32] }:ByteArray)++(({ data:=#[63] }:ByteArray)++sa))++({ data:=#[32,63] }:ByteArray))++kstr [UInt8.ofNat (96+c.b.toNat)]=kstr res):=by
   show _=_;rw [HF.out,hk,←Hsa.out,show ({ data:=#[97,112,97,114,116,32] }:ByteArray)=kstr [97,112,97,114,116,32] from rfl,show ({ data:=#[63] }:ByteArray)=kstr [63] from rfl,show ({ data:=#[32,63] }:ByteArray)=kstr [32,63] from rfl,kstr_app,kstr_app,kstr_app,kstr_app]
   rfl
  have b0:=H.out.b0 (by omega);have b1:=H.out.b1 (by omega);have cw:=fun W=>letV b0 b1 W
  have hz2:(kstr [UInt8.ofNat (96+c.b.toNat)]).size≤1:=by rw [kstr_size];exact Nat.le_refl _
  rw [hk] at d0;obtain ⟨sb,Hsb⟩:=nm (kstr [UInt8.ofNat (96+c.b.toNat)]);rw [Hsb.out] at cw hz2 HE;clear HF Hres;have cw1:=cw W1;go_wp2_with fail
  go_ret;exact ⟨by rw [←HE.out];rfl,HU1.out.alloc _⟩
 ·have HE:Hid (((({ data:=#[105,110,115,105,100,101,32] }:ByteArray)++(({ data:=#[63] }:ByteArray)++sa))++({ data:=#[32] }:ByteArray))++kstr (inF c.b)=kstr res):=by
   show _=_;rw [HF.out,hk,←Hsa.out,show ({ data:=#[105,110,115,105,100,101,32] }:ByteArray)=kstr [105,110,115,105,100,101,32] from rfl,show ({ data:=#[63] }:ByteArray)=kstr [63] from rfl,show ({ data:=#[32] }:ByteArray)=kstr [32] from rfl,kstr_app,kstr_app,kstr_app,kstr_app]
   rfl
  have b0:=H.out.b0 (by omega);have b1:=H.out.b1 (by omega);have cw:=fun W=>letM b0 b1 W
  have hz2:(kstr (inF c.b)).size≤1:=by rw [kstr_size];exact Nat.le_refl _
  rw [hk] at d0;obtain ⟨sb,Hsb⟩:=nm (kstr (inF c.b));rw [Hsb.out] at cw hz2 HE;clear HF Hres;have cw1:=cw W1;go_wp2_with fail
  go_ret;exact ⟨by rw [←HE.out];rfl,HU1.out.alloc _⟩
 ·have HE:Hid (((({ data:=#[117,110,108,105,107,101,32] }:ByteArray)++kstr (inF c.a))++({ data:=#[32] }:ByteArray))++kstr (inF c.b)=kstr res):=by
   show _=_;rw [HF.out,hk,show ({ data:=#[117,110,108,105,107,101,32] }:ByteArray)=kstr [117,110,108,105,107,101,32] from rfl,show ({ data:=#[32] }:ByteArray)=kstr [32] from rfl,kstr_app,kstr_app,kstr_app]
   rfl
  have b0:=H.out.b0 (by omega);have b1:=H.out.b1 (by omega);have cu:=fun W=>letM a0 a1 W
  have cw:=fun W=>letM b0 b1 W
  have hz2:(kstr (inF c.b)).size≤1:=by rw [kstr_size];exact Nat.le_refl _
  have hz3:(kstr (inF c.a)).size≤1:=by rw [kstr_size];exact Nat.le_refl _
  rw [hk] at d0;obtain ⟨sb,Hsb⟩:=nm (kstr (inF c.b));rw [Hsb.out] at cw hz2 HE;obtain ⟨si,Hsi⟩:=nm (kstr (inF c.a));rw [Hsi.out] at cu hz3 HE;clear HF Hres;have cu1:=cu W1;have cw1:=cw (W1.alloc (.cells #[.int .u8 (107+c.a - 1)] 5));have hs:(W1.alloc (.cells #[.int .u8 (107+c.a - 1)] 5)).heap.size=W1.heap.size+1:=by simp
  rw [hs] at cw1;have e2:=u_ d2 (Upd.refl.alloc (S:=Non) (.cells #[.int .u8 (107+c.a - 1)] 5)) (fun f=>f);go_wp2_with fail
  go_ret;exact ⟨by rw [←HE.out];rfl,(HU1.out.alloc _).alloc _⟩
def BBlk (w:World) (g:Nat) (bs:List Bool):Prop:=Blk w g 4 (bs.map Value.bool).toArray
theorem BBlk.cell {w:World} {g:Nat} {bs:List Bool} (h:BBlk w g bs) {i:Nat} (hi:i<bs.length):w.cell? ⟨g,i,none⟩=some (.bool (bs.getD i false)):=by
 rw [Blk.cell h];simp [List.getD,hi]
theorem BBlk.set_ {w:World} {g:Nat} {bs:List Bool} (h:BBlk w g bs) (i:Nat) (x:Bool):BBlk (w.setCell ⟨g,i,none⟩ (.bool x)) g (bs.set i x):=by
 have:=Blk.set_ h i (.bool x);unfold BBlk;rw [show ((bs.set i x).map Value.bool).toArray=(bs.map Value.bool).toArray.setIfInBounds i (.bool x) by simp [List.map_set]];exact this
theorem BBlk.new (w:World) (n:Nat):BBlk (w.alloc (.cells (Array.replicate n (.bool false)) 4)) w.heap.size (List.replicate n false):=by
 unfold BBlk;rw [show ((List.replicate n false).map Value.bool).toArray=Array.replicate n (.bool false) by simp];exact Blk.new _ _ _
def mk1 (x:Int) (bs:List Bool):List Bool:=if 0<x∧x<(bs.length:Int) then bs.set x.toNat true else bs
theorem mk1_len (x:Int) (bs:List Bool):(mk1 x bs).length=bs.length:=by
 unfold mk1;split <;> simp
theorem markV_node (p:Pt) (bs:List Bool):markV (nodes p) bs=markV (nodesL p.kids) (mk1 p.v bs):=by rw [nodes_eq];rfl
theorem markI_node (p:Pt) (bs:List Bool):markI (nodes p) bs=markI (nodesL p.kids) (mk1 p.iv bs):=by rw [nodes_eq];rfl
theorem markV_len (l:List Pt):∀bs:List Bool,(markV l bs).length=bs.length:=by
 induction l with
 | nil=>intro bs;rfl
 | cons p l ih=>intro bs;show (markV l (mk1 p.v bs)).length=_;rw [ih,mk1_len]
theorem markI_len (l:List Pt):∀bs:List Bool,(markI l bs).length=bs.length:=by
 induction l with
 | nil=>intro bs;rfl
 | cons p l ih=>intro bs;show (markI l (mk1 p.iv bs)).length=_;rw [ih,mk1_len]
theorem markV_app (a b:List Pt) (bs:List Bool):markV (a++b) bs=markV b (markV a bs):=by unfold markV;rw [List.foldl_append]
theorem markI_app (a b:List Pt) (bs:List Bool):markI (a++b) bs=markI b (markI a bs):=by unfold markI;rw [List.foldl_append]
set_option maxRecDepth 100000 in
set_option maxHeartbeats 4000000 in
theorem r15occurring_c (p:Pt):∀(w:World) (F:Nat→Prop) (KA:Option Addr) (kc gv c gi d:Nat) (bs cs:List Bool),PtK w F p KA kc→¬F gv→¬F gi→gv≠gi→BBlk w gv bs→BBlk w gi cs→p.size≤1000000000000 →
  Calls Tryz.prog 53 #[pv p KA kc,.slice (some ⟨gv,0,none⟩) bs.length c,.slice (some ⟨gi,0,none⟩) cs.length d] w fun e w'=>e=.returned (.tuple #[])∧BBlk w' gv (markV (nodes p) bs)∧BBlk w' gi (markI (nodes p) cs)∧Upd (fun k=>k=gv∨k=gi) w w':=by
 induction p using Pt.ind with
 | h p ih =>
  intro w F KA kc gv c gi d bs cs hp hFv hFi hne hgv hgi hs;have HI:=h_ ih;obtain ⟨W,HW⟩:=nm (w.alloc (.cells #[.int .i64 p.v,.int .i64 p.op,.int .i64 p.imm,.int .i64 p.iv,.slice KA p.kids.length kc] 40));have hU:Upd Non w W:=by rw [←HW.out];exact Upd.refl.alloc _
  have hb:Blk W w.heap.size 40 #[.int .i64 p.v,.int .i64 p.op,.int .i64 p.imm,.int .i64 p.iv,.slice KA p.kids.length kc]:=by rw [←HW.out];exact Blk.new _ _ _
  have e0:=HW.out;have hvlt:gv<w.heap.size:=Blk.lt hgv;have hilt:gi<w.heap.size:=Blk.lt hgi;have hgv:BBlk W gv bs:=Blk.upd hgv hU (fun f=>f);have hgi:BBlk W gi cs:=Blk.upd hgi hU (fun f=>f);have hp:=PtK.upd hU (fun _ _ _ f=>f) p KA kc hp;have HZ:=h_ (fun (k:Pt) (h:k∈p.kids)=>Nat.le_trans (Nat.le_of_lt (Pt.kids_lt h)) hs);have hkl:p.kids.length≤1000000000000:=by have h1:=Pt.len_le p.kids;have h2:=Pt.size_eq p;omega
  rw [markV_node,markI_node];have c0:=hb.cell 0;have h2U:Upd (fun k=>k=gv∨k=gi) w W:=hU.mono (fun _ _ f=>f.elim);unfold pv;obtain ⟨v,Hv⟩:=nm p.v;obtain ⟨op,Hop⟩:=nm p.op;obtain ⟨imm,Him⟩:=nm p.imm;obtain ⟨iv,Hiv⟩:=nm p.iv;obtain ⟨k,Hk⟩:=nm p.kids.length;rw [Hv.out] at c0 e0 hb;rw [Hop.out] at e0 hb;rw [Him.out] at e0 hb;rw [Hiv.out] at e0 hb;rw [Hk.out] at e0 hb hkl;rw [Hv.out,Hop.out,Him.out,Hiv.out,Hk.out];obtain ⟨vn,Hvn⟩:=nm bs.length;obtain ⟨mn,Hmn⟩:=nm cs.length;rw [Hvn.out,Hmn.out];have hLV:=mk1_len v bs;have hLI:=mk1_len iv cs;obtain ⟨bs1,Hbs1⟩:=nm (mk1 v bs);obtain ⟨cs1,Hcs1⟩:=nm (mk1 iv cs);rw [Hvn.out,Hbs1.out] at hLV;rw [Hmn.out,Hcs1.out] at hLI;have HLV:=h_ hLV;have HLI:=h_ hLI;rw [Hbs1.out,Hcs1.out];clear ih hs hLV hLI;go_enter Tryz.func53,Tryz.ntmps53;obtain ⟨b1,f1⟩:∃b,decide (0<v)=b:=⟨_,rfl⟩;obtain ⟨b2,f2⟩:∃b,decide (v<(vn:Int))=b:=⟨_,rfl⟩;have F1:=h_ f1;have F2:=h_ f2
  go_upto_region 1 with fail
  go_cut [16] (fun t wx=>t=.bool (b1&&b2)∧wx=W)
  case first =>
   cases b1 with
   | false=>go_wp2_with fail;go_meet;exact ⟨rfl,rfl⟩
   | true=>cases b2 <;> (go_wp2_with fail;go_meet;exact ⟨rfl,rfl⟩)
  case rest =>
   obtain ⟨rfl,ew⟩:=hcut;obtain rfl:W=_:=ew.symm;clear f1 f2
   go_upto_if 16 with fail
   go_cut [] (fun wx=>BBlk wx gv bs1∧Upd (·=gv) W wx)
   case first =>
    cases hT:(b1&&b2) with
    | true =>
     have hb1:b1=true:=by revert hT;cases b1 <;> simp
     have hb2:b2=true:=by revert hT;cases b2 <;> simp
     have h1:0<v:=of_decide_eq_true (by rw [F1.out,hb1]);have h2:v<(vn:Int):=of_decide_eq_true (by rw [F2.out,hb2]);obtain ⟨j,rfl⟩:∃j:Nat,v=(j:Int):=Int.eq_ofNat_of_zero_le (by omega);have hj:j<bs.length:=by rw [Hvn.out];omega
     have hz:=BBlk.cell hgv hj;have hfr:=Blk.frozen hgv;have hE:bs.set j true=bs1:=by rw [←Hbs1.out];unfold mk1;rw [if_pos ⟨h1,by rw [Hvn.out];exact h2⟩];rfl
     obtain ⟨W2,HW2⟩:=nm (W.setCell ⟨gv,j,none⟩ (.bool true));have hgv2:BBlk W2 gv bs1:=by rw [←HW2.out,←hE];exact BBlk.set_ hgv j true
     have u2:Upd (·=gv) W W2:=by rw [←HW2.out];exact updCell _ _ _ _
     have e2:=HW2.out;have HE:=h_ hgv2;have hj2:j<vn:=by omega
     have hT2:=h_ hT;clear hE hgv2 hgv hb1 hb2 hT h1 h2;go_wp2_with fail
     go_meet
     case rel=>exact ⟨HE.out,u2⟩
    | false =>
     have hE:bs=bs1:=by
      rw [←Hbs1.out];unfold mk1;rw [if_neg];rw [Hvn.out];rintro ⟨h1,h2⟩;have a1:=F1.out;have a2:=F2.out;rw [dT_ h1] at a1;rw [dT_ h2] at a2;rw [←a1,←a2] at hT;cases hT
     have HE:=h_ hE;clear hE;go_wp2_with fail
     go_meet
     case rel=>exact ⟨by rw [←HE.out];exact hgv,Upd.refl⟩
   case rest =>
    obtain ⟨hgv1,u1⟩:=hcut;have hbc:=hb.upd u1 (by omega);have hgi1:BBlk wc gi cs:=Blk.upd hgi u1 (fun e=>hne e.symm);have hp1:=PtK.upd u1 (fun q _ hq e=>hFv (by rw [←e];exact hq)) p KA kc hp;have HU1:=h2U.trans u1 (fun q _ h=>.inl h);have hsc:=u1.size;have c0:=hbc.cell 0;have c3:=hbc.cell 3;have c4:=hbc.cell 4;obtain ⟨b3,f3⟩:∃b,decide (0<iv)=b:=⟨_,rfl⟩;obtain ⟨b4,f4⟩:∃b,decide (iv<(mn:Int))=b:=⟨_,rfl⟩;have F3:=h_ f3;have F4:=h_ f4;clear hb;obtain ⟨wd,rfl⟩:∃wd:World,wd=wc:=⟨_,rfl⟩
    go_upto_region 3 with fail
    go_cut [30] (fun t wx=>t=.bool (b3&&b4)∧wx=wd)
    case first =>
     cases b3 with
     | false=>go_wp2_with fail;go_meet;exact ⟨rfl,rfl⟩
     | true=>cases b4 <;> (go_wp2_with fail;go_meet;exact ⟨rfl,rfl⟩)
    case rest =>
     obtain ⟨rfl,ew⟩:=hcut;obtain rfl:wd=_:=ew.symm;clear f3 f4
     go_upto_if 30 with fail
     go_cut [] (fun wx=>BBlk wx gi cs1∧Upd (·=gi) wd wx)
     case first =>
      cases hT:(b3&&b4) with
      | true =>
       have hb1:b3=true:=by revert hT;cases b3 <;> simp
       have hb2:b4=true:=by revert hT;cases b4 <;> simp
       have h1:0<iv:=of_decide_eq_true (by rw [F3.out,hb1]);have h2:iv<(mn:Int):=of_decide_eq_true (by rw [F4.out,hb2]);obtain ⟨j,rfl⟩:∃j:Nat,iv=(j:Int):=Int.eq_ofNat_of_zero_le (by omega);have hj:j<cs.length:=by rw [Hmn.out];omega
       have hz:=BBlk.cell hgi1 hj;have hfr:=Blk.frozen hgi1;have hE:cs.set j true=cs1:=by rw [←Hcs1.out];unfold mk1;rw [if_pos ⟨h1,by rw [Hmn.out];exact h2⟩];rfl
       obtain ⟨W2,HW2⟩:=nm (wd.setCell ⟨gi,j,none⟩ (.bool true));have hgi2:BBlk W2 gi cs1:=by rw [←HW2.out,←hE];exact BBlk.set_ hgi1 j true
       have u2:Upd (·=gi) wd W2:=by rw [←HW2.out];exact updCell _ _ _ _
       have e2:=HW2.out;have HE:=h_ hgi2;have hj2:j<mn:=by omega
       have hT2:=h_ hT;clear hE hgi2 hb1 hb2 hT h1 h2;go_wp2_with fail
       go_meet
       case rel=>exact ⟨HE.out,u2⟩
      | false =>
       have hE:cs=cs1:=by
        rw [←Hcs1.out];unfold mk1;rw [if_neg];rw [Hmn.out];rintro ⟨h1,h2⟩;have a1:=F3.out;have a2:=F4.out;rw [dT_ h1] at a1;rw [dT_ h2] at a2;rw [←a1,←a2] at hT;cases hT
       have HE:=h_ hE;clear hE;go_wp2_with fail
       go_meet
       case rel=>exact ⟨by rw [←HE.out];exact hgi1,Upd.refl⟩
     case rest =>
      obtain ⟨W4,rfl⟩:∃W4:World,W4=wc:=⟨_,rfl⟩;obtain ⟨hgi2,u2⟩:=hcut;have hbc2:=hbc.upd u2 (by omega);have hgv2:BBlk W4 gv bs1:=Blk.upd hgv1 u2 hne;have hp4:=PtK.upd u2 (fun q _ hq e=>hFi (by rw [←e];exact hq)) p KA kc hp1;have HU4:=HU1.trans u2 (fun q _ h=>.inr h);have hs4:=u2.size;have c4:=hbc2.cell 4;have hgi2:=h_ hgi2;have hgv2:=h_ hgv2;clear hgv1 hgi1 hp1 c0 c3 hbc u1 hgv hgi;go_wp2_with fail
      go_loopg [6] k (fun g i wr=>∃q:Nat,Hid (g=k - q)∧q≤k∧i=.int .i64 q∧Hid (BBlk wr gv (markV (nodesL (p.kids.take q)) bs1))∧Hid (BBlk wr gi (markI (nodesL (p.kids.take q)) cs1))∧Upd (fun q=>q=gv∨q=gi) W4 wr)
      case atStart=>exact ⟨0,rfl,by omega,rfl,hgv2.out,hgi2.out,Upd.refl⟩
      case round =>
       obtain ⟨q,Hg,hq,rfl,HV,HM,hu⟩:=hrel;have d4:=(hbc2.upd hu (by omega)).cell 4;by_cases hlt:q<k
       ·have hql:q<p.kids.length:=by rw [Hk.out];exact hlt
        have hpr:=PtK.upd hu (fun q _ hq e=>by rcases e with rfl | rfl;exact hFv hq;exact hFi hq) p KA kc hp4;obtain ⟨b,o,rfl,hF,hbw,KB,kd,h0,h1,h2,h3,h4,h5⟩:=hpr.at_ hql;have HTK:Hid (p.kids.take (q+1)=p.kids.take q++[p.kids[q]]):=take_snoc' hql;have hmem:=List.getElem_mem hql;generalize p.kids[q]=t at *;have hts:=HZ.out t hmem;have C1:=h_ (HI.out t hmem wr F KB kd gv c gi d (markV (nodesL (p.kids.take q)) bs1) (markI (nodesL (p.kids.take q)) cs1) h5 hFv hFi hne HV.out HM.out hts)
        rw [markV_len,markI_len,HLV.out,HLI.out] at C1;unfold pv at C1;have HV2:Hid (markV (nodes t) (markV (nodesL (p.kids.take q)) bs1)=markV (nodesL (p.kids.take (q+1))) bs1):=by show _=_;rw [HTK.out,nodesL_snoc,markV_app]
        have HM2:Hid (markI (nodes t) (markI (nodesL (p.kids.take q)) cs1)=markI (nodesL (p.kids.take (q+1))) cs1):=by show _=_;rw [HTK.out,nodesL_snoc,markI_app]
        rw [HV2.out,HM2.out] at C1;clear h5 HV HM HTK hmem;go_wp2_with fail
        refine C1.out.mono ?_;rintro e w7 ⟨rfl,hv7,hm7,hu7⟩;have HV7:=h_ hv7;have HM7:=h_ hm7;have HU7:Upd (fun q=>q=gv∨q=gi) W4 w7:=hu.trans hu7 (fun _ _ h=>h);clear hv7 hm7 C1;go_wp2_with fail
        go_roundg (k - (q+1))
        case measure=>rw [Hg.out];omega
        case rel=>exact ⟨q+1,rfl,by omega,by go_num,HV7.out,HM7.out,HU7⟩
       ·obtain rfl:k=q:=by omega
        have HT:Hid (p.kids.take k=p.kids):=List.take_of_length_le (by rw [Hk.out];exact Nat.le_refl _);rw [HT.out] at HV HM;have HU:=HU4.trans hu (fun _ _ h=>h);go_wp2_with fail
        go_end0
        exact ⟨rfl,HV.out,HM.out,HU⟩
theorem isVal_lo {ss:List Int} {n:Int} (h:¬1≤n):isValF ss n=false:=dF_ (fun q=>h q.1)
theorem isVal_hi {ss:List Int} {n:Int} (h:¬n<ss.length):isValF ss n=false:=dF_ (fun q=>h q.2.1)
theorem isVal_at {ss:List Int} {j:Nat} (h:1≤(j:Int)) (g:(j:Int)<ss.length):isValF ss j=(ss.getD j 0==1):=by
 unfold isValF;rw [Bool.eq_iff_iff];simp only [Int.toNat_natCast,decide_eq_true_eq,beq_iff_eq];exact ⟨fun q=>q.2.2,fun q=>⟨h,g,q⟩⟩
set_option maxRecDepth 100000 in
set_option maxHeartbeats 4000000 in
theorem r15validCond_c (x:Cd) (ss:List Int) (m:Int) (A:Option Addr) (c:Nat) (F:Nat→Prop) (w:World) (hs:Ints w F A ss) :
  Calls Tryz.prog 54 #[.agg #[.int .i64 x.kind,.int .i64 x.a,.int .i64 x.b,.int .i64 x.n],.slice A ss.length c,.int .i64 m] w fun e w'=>e=.returned (.bool (condF x ss m))∧Upd Non w w':=by
 obtain ⟨k,a,b,n⟩:=x;dsimp only;obtain ⟨W,HW⟩:=nm (w.alloc (.cells #[.int .i64 k,.int .i64 a,.int .i64 b,.int .i64 n] 69));have U:Upd Non w W:=by rw [←HW.out];exact Upd.refl.alloc _
 have b1:Blk W w.heap.size 69 #[.int .i64 k,.int .i64 a,.int .i64 b,.int .i64 n]:=by rw [←HW.out];exact Blk.new _ _ _
 have e1:=HW.out;have hs:=hs.upd U (fun _ _ _ f=>f);have c0:=b1.cell 0;have c1:=b1.cell 1;have c2:=b1.cell 2;have c3:=b1.cell 3;have HVL:=h_ (fun (i:Int)=>@isVal_lo ss i);have HVH:=h_ (fun (i:Int)=>@isVal_hi ss i);have HVA:=h_ (fun (j:Nat)=>@isVal_at ss j);obtain ⟨l,Hl⟩:=nm ss.length;obtain ⟨R,HR⟩:=nm (condF ⟨k,a,b,n⟩ ss m);rw [HR.out,Hl.out];have HR1:Hid (R=condF ⟨k,a,b,n⟩ ss m):=HR.out.symm;unfold condF at HR1;dsimp only at HR1;obtain ⟨va,Hva⟩:=nm (isValF ss a);obtain ⟨vb,Hvb⟩:=nm (isValF ss b);rw [Hva.out,Hvb.out] at HR1;clear b1 HR;obtain ⟨tb,ftb⟩:∃t,(b==0)=t:=⟨_,rfl⟩;obtain ⟨tn,ftn⟩:∃t,(n==0)=t:=⟨_,rfl⟩;obtain ⟨tab,ftab⟩:∃t,(b != a)=t:=⟨_,rfl⟩;obtain ⟨tab2,ftab2⟩:∃t,(a != b)=t:=⟨_,rfl⟩;obtain ⟨b1,fb1⟩:∃t,decide (1≤b)=t:=⟨_,rfl⟩;obtain ⟨bm,fbm⟩:∃t,decide (b≤m)=t:=⟨_,rfl⟩;obtain ⟨a1,fa1⟩:∃t,decide (1≤a)=t:=⟨_,rfl⟩;obtain ⟨am,fam⟩:∃t,decide (a≤m)=t:=⟨_,rfl⟩;obtain ⟨bl,fbl⟩:∃t,decide (b<(l:Int))=t:=⟨_,rfl⟩;obtain ⟨al,fal⟩:∃t,decide (a<(l:Int))=t:=⟨_,rfl⟩
 have gtb:decide (b=0)=tb:=by rw [←ftb,Bool.eq_iff_iff];simp
 have gtn:decide (n=0)=tn:=by rw [←ftn,Bool.eq_iff_iff];simp
 have gtab:decide (a≠b)=tab2:=by rw [←ftab2,Bool.eq_iff_iff];simp
 have gtab2:tab2=tab:=by rw [←ftab,←ftab2,Bool.eq_iff_iff];simp;exact ⟨fun h q=>h q.symm,fun h q=>h q.symm⟩
 have gia:isImmF m a=(a1&&am):=by unfold isImmF;rw [←fa1,←fam,Bool.eq_iff_iff];simp
 have gib:isImmF m b=(b1&&bm):=by unfold isImmF;rw [←fb1,←fbm,Bool.eq_iff_iff];simp
 rw [gtb,gtn,gtab,gtab2,gia,gib] at HR1;rw [gtab2] at ftab2;have FA1:=h_ fa1;have FAL:=h_ fal;have FB1:=h_ fb1;have FBL:=h_ fbl;clear gtb gtn gtab gia gib gtab2;go_enter Tryz.func54,Tryz.ntmps54
 go_upto_region 1 with fail
 go_cut [7] (fun t wx=>t=.bool va∧W=wx)
 case first =>
  cases a1 with
  | false =>
   have hv:va=false:=by rw [←Hva.out];exact HVL.out a (of_decide_eq_false FA1.out)
   subst hv;go_wp2_with fail
   go_meet;exact ⟨rfl,rfl⟩
  | true =>
   cases al with
   | false =>
    have hv:va=false:=by rw [←Hva.out];exact HVH.out a (by rw [Hl.out];exact of_decide_eq_false FAL.out)
    subst hv;go_wp2_with fail
    go_meet;exact ⟨rfl,rfl⟩
   | true =>
    obtain ⟨j,rfl⟩:∃j:Nat,a=(j:Int):=Int.eq_ofNat_of_zero_le (by have:=of_decide_eq_true FA1.out;omega);have hj:(j:Int)<l:=of_decide_eq_true FAL.out;have hj0:(0:Int)≤j:=by omega
    have hv:va=(ss.getD j 0==1):=by rw [←Hva.out];exact HVA.out j (of_decide_eq_true FA1.out) (by rw [Hl.out];exact hj)
    obtain ⟨blk,off,rfl,_,_,z⟩:=Sl.at_ (k:=j) hs (by simp [Hl.out];omega);rw [show ((ss.map fun (x:Int)=>Value.int .i64 x))[j]'(by simp [Hl.out];omega)=.int .i64 (ss.getD j 0) by simp [List.getD,show j<ss.length by rw [Hl.out];omega]] at z
    obtain ⟨y,Hy⟩:=nm (ss.getD j 0);rw [Hy.out] at z hv;have fv:(y==1)=va:=hv.symm;clear hv;go_wp2_with fail
    go_meet;exact ⟨rfl,rfl⟩
 case rest =>
  obtain ⟨rfl,ew⟩:=hcut;obtain rfl:W=_:=ew;by_cases h1:k=1
  ·subst h1;have HE0:Hid (R=(va&&(tb&&tn))):=by show _=_;rw [HR1.out,if_pos rfl,Bool.and_assoc]
   cases va with
   | false =>
    have HE:Hid (R=false):=by show _=_;rw [HE0.out];simp
    go_wp2_with fail
    go_ret;exact ⟨by rw [HE.out];rfl,U⟩
   | true =>
    have HE0:Hid (R=(tb&&tn)):=by show _=_;rw [HE0.out];simp
    cases tb with
    | false =>
     have HE:Hid (R=false):=by show _=_;rw [HE0.out];simp
     go_wp2_with fail
     go_ret;exact ⟨by rw [HE.out];rfl,U⟩
    | true =>
     have HE0:Hid (R=(tn)):=by show _=_;rw [HE0.out];simp
     have HE:Hid (R=tn):=HE0.out;go_wp2_with fail
     go_ret;exact ⟨by rw [HE.out];rfl,U⟩
  ·by_cases h2:k=2∨k=3
   ·have HE0:Hid (R=(va&&tb)):=by have:=HR1.out;rw [if_neg h1,if_pos h2] at this;exact this
    rcases h2 with rfl | rfl
    ·cases va with
     | false =>
      have HE:Hid (R=false):=by show _=_;rw [HE0.out];simp
      go_wp2_with fail
      go_ret;exact ⟨by rw [HE.out];rfl,U⟩
     | true =>
      have HE0:Hid (R=(tb)):=by show _=_;rw [HE0.out];simp
      have HE:Hid (R=tb):=HE0.out;go_wp2_with fail
      go_ret;exact ⟨by rw [HE.out];rfl,U⟩
    ·cases va with
     | false =>
      have HE:Hid (R=false):=by show _=_;rw [HE0.out];simp
      go_wp2_with fail
      go_ret;exact ⟨by rw [HE.out];rfl,U⟩
     | true =>
      have HE0:Hid (R=(tb)):=by show _=_;rw [HE0.out];simp
      have HE:Hid (R=tb):=HE0.out;go_wp2_with fail
      go_ret;exact ⟨by rw [HE.out];rfl,U⟩
   ·have HR2:=HR1.out;rw [if_neg h1,if_neg h2] at HR2;have t1:(k==1)=false:=by simpa using h1
    have t2:(k==2)=false:=by simp;omega
    have t3:(k==3)=false:=by simp;omega
    have HR1:=h_ HR2;clear HR2 h1 h2;by_cases h4:k=4
    ·subst h4;have HE0:Hid (R=(va&&(vb&&(tab&&tn)))):=by show _=_;rw [HR1.out,if_pos rfl];simp [Bool.and_assoc]
     cases va with
     | false =>
      have HE:Hid (R=false):=by show _=_;rw [HE0.out];simp
      go_wp2_with fail
      go_ret;exact ⟨by rw [HE.out];rfl,U⟩
     | true =>
      have HE0:Hid (R=(vb&&(tab&&tn))):=by show _=_;rw [HE0.out];simp
      cases b1 with
      | false =>
       have hv:vb=false:=by rw [←Hvb.out];exact HVL.out b (of_decide_eq_false FB1.out)
       have HE:Hid (R=false):=by show _=_;rw [HE0.out,hv];simp
       clear hv;go_wp2_with fail
       go_ret;exact ⟨by rw [HE.out];rfl,U⟩
      | true =>
       cases bl with
       | false =>
        have hv:vb=false:=by rw [←Hvb.out];exact HVH.out b (by rw [Hl.out];exact of_decide_eq_false FBL.out)
        have HE:Hid (R=false):=by show _=_;rw [HE0.out,hv];simp
        clear hv;go_wp2_with fail
        go_ret;exact ⟨by rw [HE.out];rfl,U⟩
       | true =>
        obtain ⟨j,rfl⟩:∃j:Nat,b=(j:Int):=Int.eq_ofNat_of_zero_le (by have:=of_decide_eq_true FB1.out;omega);have hj:(j:Int)<l:=of_decide_eq_true FBL.out;have hj0:(0:Int)≤j:=by omega
        have hv:vb=(ss.getD j 0==1):=by rw [←Hvb.out];exact HVA.out j (of_decide_eq_true FB1.out) (by rw [Hl.out];exact hj)
        obtain ⟨blk,off,rfl,_,_,z⟩:=Sl.at_ (k:=j) hs (by simp [Hl.out];omega);rw [show ((ss.map fun (x:Int)=>Value.int .i64 x))[j]'(by simp [Hl.out];omega)=.int .i64 (ss.getD j 0) by simp [List.getD,show j<ss.length by rw [Hl.out];omega]] at z
        obtain ⟨y,Hy⟩:=nm (ss.getD j 0);rw [Hy.out] at z hv;have fv:(y==1)=vb:=hv.symm;clear hv
        cases vb with
        | false =>
         have HE:Hid (R=false):=by show _=_;rw [HE0.out];simp
         go_wp2_with fail
         go_ret;exact ⟨by rw [HE.out];rfl,U⟩
        | true =>
         have HE0:Hid (R=(tab&&tn)):=by show _=_;rw [HE0.out];simp
         cases tab with
         | false =>
          have HE:Hid (R=false):=by show _=_;rw [HE0.out];simp
          go_wp2_with fail
          go_ret;exact ⟨by rw [HE.out];rfl,U⟩
         | true =>
          have HE0:Hid (R=(tn)):=by show _=_;rw [HE0.out];simp
          have HE:Hid (R=tn):=HE0.out;go_wp2_with fail
          go_ret;exact ⟨by rw [HE.out];rfl,U⟩
    ·have t4:(k==4)=false:=by simpa using h4
     have HR2:=HR1.out;rw [if_neg h4] at HR2;have HR1:=h_ HR2;clear HR2 h4;by_cases h5:k=5
     ·subst h5;have HE0:Hid (R=(va&&(b1&&(bm&&tn)))):=by show _=_;rw [HR1.out,if_pos rfl];simp [Bool.and_assoc]
      cases va with
      | false =>
       have HE:Hid (R=false):=by show _=_;rw [HE0.out];simp
       go_wp2_with fail
       go_ret;exact ⟨by rw [HE.out];rfl,U⟩
      | true =>
       have HE0:Hid (R=(b1&&(bm&&tn))):=by show _=_;rw [HE0.out];simp
       cases b1 with
       | false =>
        have HE:Hid (R=false):=by show _=_;rw [HE0.out];simp
        go_wp2_with fail
        go_ret;exact ⟨by rw [HE.out];rfl,U⟩
       | true =>
        have HE0:Hid (R=(bm&&tn)):=by show _=_;rw [HE0.out];simp
        cases bm with
        | false =>
         have HE:Hid (R=false):=by show _=_;rw [HE0.out];simp
         go_wp2_with fail
         go_ret;exact ⟨by rw [HE.out];rfl,U⟩
        | true =>
         have HE0:Hid (R=(tn)):=by show _=_;rw [HE0.out];simp
         have HE:Hid (R=tn):=HE0.out;go_wp2_with fail
         go_ret;exact ⟨by rw [HE.out];rfl,U⟩
     ·have t5:(k==5)=false:=by simpa using h5
      have HR2:=HR1.out;rw [if_neg h5] at HR2;have HR1:=h_ HR2;clear HR2 h5;by_cases h6:k=6
      ·subst h6;have HE0:Hid (R=(a1&&(am&&(b1&&(bm&&(tab&&tn)))))):=by show _=_;rw [HR1.out,if_pos rfl];simp [Bool.and_assoc]
       cases a1 with
       | false =>
        have HE:Hid (R=false):=by show _=_;rw [HE0.out];simp
        go_wp2_with fail
        go_ret;exact ⟨by rw [HE.out];rfl,U⟩
       | true =>
        have HE0:Hid (R=(am&&(b1&&(bm&&(tab&&tn))))):=by show _=_;rw [HE0.out];simp
        cases am with
        | false =>
         have HE:Hid (R=false):=by show _=_;rw [HE0.out];simp
         go_wp2_with fail
         go_ret;exact ⟨by rw [HE.out];rfl,U⟩
        | true =>
         have HE0:Hid (R=(b1&&(bm&&(tab&&tn)))):=by show _=_;rw [HE0.out];simp
         cases b1 with
         | false =>
          have HE:Hid (R=false):=by show _=_;rw [HE0.out];simp
          go_wp2_with fail
          go_ret;exact ⟨by rw [HE.out];rfl,U⟩
         | true =>
          have HE0:Hid (R=(bm&&(tab&&tn))):=by show _=_;rw [HE0.out];simp
          cases bm with
          | false =>
           have HE:Hid (R=false):=by show _=_;rw [HE0.out];simp
           go_wp2_with fail
           go_ret;exact ⟨by rw [HE.out];rfl,U⟩
          | true =>
           have HE0:Hid (R=(tab&&tn)):=by show _=_;rw [HE0.out];simp
           cases tab with
           | false =>
            have HE:Hid (R=false):=by show _=_;rw [HE0.out];simp
            go_wp2_with fail
            go_ret;exact ⟨by rw [HE.out];rfl,U⟩
           | true =>
            have HE0:Hid (R=(tn)):=by show _=_;rw [HE0.out];simp
            have HE:Hid (R=tn):=HE0.out;go_wp2_with fail
            go_ret;exact ⟨by rw [HE.out];rfl,U⟩
      ·have t6:(k==6)=false:=by simpa using h6
       have HE:Hid (R=false):=by show _=_;rw [HR1.out,if_neg h6]
       clear h6;go_wp2_with fail
       go_ret;exact ⟨by rw [HE.out];rfl,U⟩
set_option maxHeartbeats 1000000 in
theorem r15Size_c (p:Pt):∀(w:World) (F:Nat→Prop) (KA:Option Addr) (kc:Nat),PtK w F p KA kc→p.size≤1000000000000 →
  Calls Tryz.prog 50 #[pv p KA kc] w fun e w'=>e=.returned (.int .i64 (p.size:Int))∧Upd Non w w':=by
 induction p using Pt.ind with
 | h p ih =>
  intro w F KA kc hp hs;have hse:=Pt.size_eq p;have hle:=Pt.len_le p.kids;have HI:=h_ ih;obtain ⟨W,HW⟩:=nm (w.alloc (.cells #[.int .i64 p.v,.int .i64 p.op,.int .i64 p.imm,.int .i64 p.iv,.slice KA p.kids.length kc] 40));have hU:Upd Non w W:=by rw [←HW.out];exact Upd.refl.alloc _
  have hb:Blk W w.heap.size 40 #[.int .i64 p.v,.int .i64 p.op,.int .i64 p.imm,.int .i64 p.iv,.slice KA p.kids.length kc]:=by rw [←HW.out];exact Blk.new _ _ _
  have e0:=HW.out;have c4:=hb.cell 4;have hpW:=PtK.upd hU (fun _ _ _ f=>f) p KA kc hp;have HS:=h_ hse;unfold pv;clear ih hse hp;obtain ⟨n,Hn⟩:=nm p.kids.length;rw [Hn.out] at c4 hle e0;have hn12:n≤1000000000000:=by have:=HS.out;omega
  rw [Hn.out];go_enter Tryz.func50,Tryz.ntmps50;go_wp2_with fail
  go_loopg [3,4] n (fun g v i wr=>∃k:Nat,Hid (g=n - k)∧k≤n∧i=.int .i64 k∧v=.int .i64 ((1+Pt.sizeL (p.kids.take k):Nat):Int)∧Upd Non W wr)
  case atStart=>exact ⟨0,rfl,by omega,rfl,by simp [Pt.sizeL],Upd.refl⟩
  case round =>
   obtain ⟨k,Hg,hk,rfl,rfl,hu⟩:=hrel;have c4':=u_ c4 hu (fun f=>f);by_cases hlt:k<n
   ·have hkl:k<p.kids.length:=by rw [Hn.out];exact hlt
    obtain ⟨b,o,rfl,hF,hbw,KB,kd,h0,h1,h2,h3,h4,h5⟩:=(PtK.upd hu (fun _ _ _ f=>f) p KA kc hpW).at_ hkl;have hks:p.kids[k].size≤1000000000000:=by have:=Pt.kids_lt (List.getElem_mem hkl);omega
    have hkk:=Pt.sizeL_take p.kids k hkl;have hkt:=Pt.sizeL_take_le p.kids (k+1);have hmem0:=List.getElem_mem hkl;generalize p.kids[k]=q at *;have C1:=h_ (HI.out q hmem0 wr F KB kd h5 hks);unfold pv at C1;obtain ⟨z,Hz⟩:=nm (1+Pt.sizeL (p.kids.take k));have hz1:1+Pt.sizeL (p.kids.take (k+1))=z+q.size:=by rw [←Hz.out];omega
    have HZ:=h_ hz1;have hz2:z+q.size≤2000000000000:=by have:=HS.out;omega
    rw [Hz.out];clear hkk hkt hz1 h5;go_wp2_with fail
    refine C1.out.mono ?_;rintro e w4 ⟨rfl,hu4⟩;go_wp2_with fail
    go_roundg (n - (k+1))
    case measure=>rw [Hg.out];omega
    case rel=>exact ⟨k+1,rfl,by omega,by go_num,by rw [HZ.out];go_num,hu.then_non hu4⟩
   ·obtain rfl:n=k:=by omega
    have HT:Hid (1+Pt.sizeL (p.kids.take n)=p.size):=by show _=_;rw [HS.out,←Hn.out];simp
    rw [HT.out];go_wp2_with fail
    go_ret;exact ⟨rfl,hU.then_non hu⟩
set_option maxRecDepth 100000 in
set_option maxHeartbeats 8000000 in
theorem r15fits_c (p:Pt):∀(w:World) (F:Nat→Prop) (KA:Option Addr) (kc g c:Nat) (s m:Int) (vs:List Int),PtK w F p KA kc→¬F g→VBlk w g (0::vs)→p.size≤1000000000000→vs.length≤1000000→0≤m →
  Calls Tryz.prog 51 #[pv p KA kc,.int .i64 s,.slice (some ⟨g,0,none⟩) (vs.length+1) c,.int .i64 m] w fun e w'=>e=.returned (.bool (vPt p s m vs).1)∧VBlk w' g (0::(vPt p s m vs).2)∧Upd (·=g) w w':=by
 induction p using Pt.ind with
 | h p ih =>
  intro w F KA kc g c s m vs hp hFg hg hs hvs hm0;have hle:=Pt.len_le p.kids;have hse:=Pt.size_eq p;have HI:=h_ ih;have HPS:=h_ hs;have HV:=h_ (@vPt_var p);have HO:=h_ (@vPt_op p);obtain ⟨W,HW⟩:=nm (w.alloc (.cells #[.int .i64 p.v,.int .i64 p.op,.int .i64 p.imm,.int .i64 p.iv,.slice KA p.kids.length kc] 40));have hU:Upd Non w W:=by rw [←HW.out];exact Upd.refl.alloc _
  have hb:Blk W w.heap.size 40 #[.int .i64 p.v,.int .i64 p.op,.int .i64 p.imm,.int .i64 p.iv,.slice KA p.kids.length kc]:=by rw [←HW.out];exact Blk.new _ _ _
  have e0:=HW.out;have hgW:VBlk W g (0::vs):=Blk.upd hg hU (fun f=>f);have hpW:=PtK.upd hU (fun _ _ _ f=>f) p KA kc hp;have hUg:Upd (·=g) w W:=hU.mono (fun _ _ f=>f.elim);have hglt:g<w.heap.size:=Blk.lt hg;have hsz:=hU.size;have hn12:p.kids.length≤1000000000000:=by omega
  unfold pv;obtain ⟨R,HR⟩:=nm (vPt p s m vs);rw [HR.out];have HIM:=h_ (@imm_ok p m hm0);obtain ⟨v,Hv⟩:=nm p.v;obtain ⟨op,Hop⟩:=nm p.op;obtain ⟨imm,Him⟩:=nm p.imm;obtain ⟨iv,Hiv⟩:=nm p.iv;obtain ⟨n,Hn⟩:=nm p.kids.length;rw [Hv.out,Hop.out,Him.out,Hiv.out,Hn.out] at hb e0;rw [Hv.out,Hop.out,Him.out,Hiv.out,Hn.out];rw [Hn.out] at hn12;rw [Hop.out,Him.out,Hiv.out] at HIM;have c0:=hb.cell 0;have c1:=hb.cell 1;have c2:=hb.cell 2;have c3:=hb.cell 3;have c4:=hb.cell 4;have hlb:=hb.lt;clear ih hp hse hle hg hs;by_cases hv:v=0
  ·subst hv;obtain ⟨z,Hz⟩:∃z,oSortsF op=z:=⟨_,rfl⟩;obtain ⟨ss,own,ok⟩:=z
   have HO2:Hid (R=if ok=true∧n=ss.length∧(s=0∨s=own)∧pImmF p m=true then vKids p.kids ss m vs else (false,vs)):=by
    show _=_;rw [←HR.out,HO.out Hv.out,Hop.out,Hz,Hn.out]
   have HAO:=h_ (allowed_ok op);have HAP:=h_ (@allowed_parts op);have CA:=h_ (fun w=>arity_c op w);have CB:=h_ (fun w=>r15allowed_c op w);have CS:=h_ (fun w=>pSort_c op w);have CH:=h_ (fun w=>r15HasImm_c op w);have CV:=h_ (fun w=>validImm_c op imm w);have COS:=h_ (fun (k:Int) w=>operandSort_c op k w);rw [HAO.out] at CB;rw [Hz] at CB HAP HIM;dsimp only at CB HAP HIM;obtain ⟨za,Hza⟩:∃z,arityF op=z:=⟨_,rfl⟩;obtain ⟨ar,aok⟩:=za;rw [Hza] at CA HAP;dsimp only at CA HAP;obtain ⟨sr,Hsr⟩:=nm (pSortF op);rw [Hsr.out] at CS HAP;obtain ⟨hi,Hhi⟩:=nm (hasImmF op);obtain ⟨vi,Hvi⟩:=nm (validImmF op imm);rw [Hhi.out] at CH;rw [Hvi.out] at CV;rw [Hhi.out,Hvi.out] at HIM;clear HV HO HR Hz Hza;obtain ⟨bn,f1⟩:∃b,((n:Int) != ar)=b:=⟨_,rfl⟩;obtain ⟨b3,f3⟩:∃b,(s != 0)=b:=⟨_,rfl⟩;obtain ⟨bs,f4⟩:∃b,(sr != s)=b:=⟨_,rfl⟩;obtain ⟨b5,f5⟩:∃b,decide (iv<0)=b:=⟨_,rfl⟩;obtain ⟨b6,f6⟩:∃b,decide (iv > m)=b:=⟨_,rfl⟩;obtain ⟨b7,f7⟩:∃b,decide (iv > 0)=b:=⟨_,rfl⟩;obtain ⟨b8,f8⟩:∃b,(imm != 0)=b:=⟨_,rfl⟩;obtain ⟨b9,f9⟩:∃b,(iv==0)=b:=⟨_,rfl⟩
   have F1:=h_ f1;have F3:=h_ f3;have F4:=h_ f4;have F5:=h_ f5;have F6:=h_ f6;have F7:=h_ f7;have F8:=h_ f8;have F9:=h_ f9;go_enter Tryz.func51,Tryz.ntmps51;go_wp2_with fail
   refine (CA.out W).mono ?_;rintro e w2 ⟨rfl,rfl⟩
   go_upto_region 8 with fail
   go_cut [110] (fun t wx=>t=.bool (!ok || bn || (b3&&bs) || b5 || b6)∧wx=W)
   case first =>
    cases ok with
    | false =>
     go_wp2_with fail
     refine (CB.out W).mono ?_;rintro e w2 ⟨rfl,rfl⟩;go_wp2_with fail
     go_meet;exact ⟨rfl,rfl⟩
    | true=>cases bn with
     | true =>
      go_wp2_with fail
      refine (CB.out W).mono ?_;rintro e w2 ⟨rfl,rfl⟩;go_wp2_with fail
      go_meet;exact ⟨rfl,rfl⟩
     | false=>cases b3 with
      | true=>cases bs with
       | true =>
        go_wp2_with fail
        refine (CB.out W).mono ?_;rintro e w2 ⟨rfl,rfl⟩;go_wp2_with fail
        refine (CS.out W).mono ?_;rintro e w2 ⟨rfl,rfl⟩;go_wp2_with fail
        go_meet;exact ⟨rfl,rfl⟩
       | false =>
        cases b5 <;> cases b6
        all_goals
         go_wp2_with fail
         refine (CB.out W).mono ?_;rintro e w2 ⟨rfl,rfl⟩;go_wp2_with fail
         refine (CS.out W).mono ?_;rintro e w2 ⟨rfl,rfl⟩;go_wp2_with fail
         go_meet;exact ⟨rfl,rfl⟩
      | false =>
       cases b5 <;> cases b6
       all_goals
        go_wp2_with fail
        refine (CB.out W).mono ?_;rintro e w2 ⟨rfl,rfl⟩;go_wp2_with fail
        go_meet;exact ⟨by cases bs <;> rfl,rfl⟩
   case rest =>
   obtain ⟨rfl,ew⟩:=hcut;obtain rfl:W=_:=ew.symm
   have HCond:Hid ((ok=true∧n=ss.length∧(s=0∨s=own)∧pImmF p m=true)↔((!ok || bn || (b3&&bs) || b5 || b6)=false∧(b7&&(b8 || !hi) || b9&&!vi)=false)):=by
    show _↔_;rw [←F1.out,←F3.out,←F4.out,←F5.out,←F6.out,←F7.out,←F8.out,←F9.out]
    cases ok with
    | false=>simp
    | true =>
     obtain ⟨a1,a2,_⟩:=HAP.out rfl;rw [HIM.out rfl,a1,a2];cases hi <;> cases vi <;> simp <;> omega
   cases hT:(!ok || bn || (b3&&bs) || b5 || b6) with
   | true =>
    have HR2:Hid (R=(false,vs)):=by show _=_;rw [HO2.out,if_neg (fun q=>by rw [(HCond.out.1 q).1] at hT;cases hT)]
    clear HO2 hT;go_wp2_with fail
    go_ret;exact ⟨by rw [HR2.out];rfl,by rw [HR2.out];exact hgW,hUg⟩
   | false =>
    have HT:=h_ hT;clear hT
    go_upto_region 10 with fail
    go_cut [137] (fun t wx=>t=.bool (b7&&(b8 || !hi) || b9&&!vi)∧wx=W)
    case first =>
     cases b7 with
     | true =>
      have b9f:b9=false:=by rw [←F9.out,beq_eq_false_iff_ne];have:=of_decide_eq_true F7.out;omega
      subst b9f
      cases b8 with
      | true =>
       go_wp2_with fail
       go_meet;exact ⟨rfl,rfl⟩
      | false =>
       cases hi
       all_goals
        go_wp2_with fail
        refine (CH.out W).mono ?_;rintro e w2 ⟨rfl,rfl⟩;go_wp2_with fail
        go_meet;exact ⟨rfl,rfl⟩
     | false=>cases b9 with
      | true =>
       go_wp2_with fail
       refine (CV.out W).mono ?_;rintro e w2 ⟨rfl,rfl⟩;go_wp2_with fail
       go_meet;exact ⟨by cases vi <;> rfl,rfl⟩
      | false =>
       go_wp2_with fail
       go_meet;exact ⟨rfl,rfl⟩
    case rest =>
    obtain ⟨rfl,ew⟩:=hcut;obtain rfl:W=_:=ew.symm
    cases hT2:(b7&&(b8 || !hi) || b9&&!vi) with
    | true =>
     have HR2:Hid (R=(false,vs)):=by show _=_;rw [HO2.out,if_neg (fun q=>by rw [(HCond.out.1 q).2] at hT2;cases hT2)]
     clear HO2 hT2;go_wp2_with fail
     go_ret;exact ⟨by rw [HR2.out];rfl,by rw [HR2.out];exact hgW,hUg⟩
    | false =>
     have HCd:=h_ (HCond.out.2 ⟨HT.out,hT2⟩);have HR2:Hid (R=vKids (p.kids.drop 0) (ss.drop 0) m vs):=by show _=_;rw [HO2.out,if_pos HCd.out];simp
     have HNS:Hid (n=ss.length):=HCd.out.2.1;have HST:=h_ (fun k (hk:k<p.kids.length) vk=>@vKids_step p.kids ss m vk k hk (by rw [Hn.out];exact HNS.out));have HVL:=h_ (fun (q:Pt) (s m:Int) vs=>vPt_len q s m vs);have HSO:Hid (∀k (hk:k<ss.length),operandSortF op k=ss[k]):=(HAP.out HCd.out.1).2.2;clear HO2 hT2 HCond f1 f3 f4 f5 f6 f7 f8 f9 CA CB CS CH CV;go_wp2_with fail
     go_loopg [11] n (fun gg i wr=>∃(k:Nat) (vk:List Int),Hid (gg=n - k)∧k≤n∧i=.int .i64 k∧VBlk wr g (0::vk)∧vk.length=vs.length∧Hid (R=vKids (p.kids.drop k) (ss.drop k) m vk)∧Upd (·=g) W wr)
     case atStart=>exact ⟨0,vs,rfl,by omega,rfl,hgW,rfl,HR2,Upd.refl⟩
     case round =>
      obtain ⟨k,vk,Hg,hk,rfl,hgk,hvk,HRk,hu⟩:=hrel;have c4r:wr.cell? ⟨w.heap.size,4,none⟩=some (.slice KA n kc):=u_ c4 hu (by omega);have c1r:wr.cell? ⟨w.heap.size,1,none⟩=some (.int .i64 op):=u_ c1 hu (by omega);by_cases hlt:k<n
      ·have hkl:k<p.kids.length:=by rw [Hn.out];exact hlt
       have hks:k<ss.length:=by have:=HNS.out;omega
       obtain ⟨b,o,rfl,hF,hbw,KB,kd,h0,h1,h2,h3,h4,h5⟩:=(PtK.upd hu (fun k _ hF e=>hFg (by rw [←e];exact hF)) p KA kc hpW).at_ hkl;have hmem0:=List.getElem_mem hkl;have hqs:=Pt.kids_lt hmem0;have HRs:=HST.out k hkl vk;have hps:p.size≤1000000000000:=HPS.out;have hos:=HSO.out k hks;have hbg:b≠g:=fun e=>hFg (by rw [←e];exact hF)
       rw [HRs] at HRk;clear HRs;generalize p.kids[k]=q at *;generalize ss[k]=x at *;have i0:(0:Int)≤(k:Int):=by omega
       have i1:(k:Int)<(n:Int):=by omega
       have hg4:VBlk wr.drew g (0::vk):=hgk;have C1:=h_ (HI.out q hmem0 wr.drew F KB kd g c x m vk (PtK.upd (Upd.refl.drew (S:=Non)) (fun _ _ _ f=>f) q KB kd h5) hFg hg4 (by omega) (by omega) hm0)
       unfold pv at C1;rw [hvk] at C1;have HV1:=h_ (HVL.out q x m vk);obtain ⟨r,Hr⟩:=nm (vPt q x m vk);obtain ⟨rb,rv⟩:=r;rw [Hr.out] at C1 HRk HV1;have hrv:rv.length=vs.length:=by rw [←hvk];exact HV1.out
       have COk:=h_ (fun w=>COS.out (k:Int) w);rw [hos] at COk;clear h5 hps hqs;have hS:∀w',Upd (·=g) wr w'→w'.cell? ⟨w.heap.size,4,none⟩=some (.slice (some ⟨b,o,none⟩) n kc)∧w'.cell? ⟨w.heap.size,1,none⟩=some (.int .i64 op)∧w'.cell? ⟨b,o+k * 5,none⟩=some (.int .i64 q.v)∧w'.cell? ⟨b,o+k * 5+1,none⟩=some (.int .i64 q.op)∧w'.cell? ⟨b,o+k * 5+2,none⟩=some (.int .i64 q.imm)∧w'.cell? ⟨b,o+k * 5+3,none⟩=some (.int .i64 q.iv)∧w'.cell? ⟨b,o+k * 5+4,none⟩=some (.slice KB q.kids.length kd):=fun w' u=>⟨u_ c4r u (by omega),u_ c1r u (by omega),u_ h0 u hbg,u_ h1 u hbg,u_ h2 u hbg,u_ h3 u hbg,u_ h4 u hbg⟩
       obtain ⟨w4,e4⟩:∃w4:World,w4=wr:=⟨_,rfl⟩;subst e4;go_wp2_with fail
       refine wp_region_held_drew (S:=fun w'=>w'.cell? ⟨w.heap.size,4,none⟩=some (.slice (some ⟨b,o,none⟩) n kc)∧w'.cell? ⟨w.heap.size,1,none⟩=some (.int .i64 op)∧w'.cell? ⟨b,o+k * 5,none⟩=some (.int .i64 q.v)∧w'.cell? ⟨b,o+k * 5+1,none⟩=some (.int .i64 q.op)∧w'.cell? ⟨b,o+k * 5+2,none⟩=some (.int .i64 q.imm)∧w'.cell? ⟨b,o+k * 5+3,none⟩=some (.int .i64 q.iv)∧w'.cell? ⟨b,o+k * 5+4,none⟩=some (.slice KB q.kids.length kd)) (by kernel_rfl) (hS _ (Upd.refl (S:=(·=g))).drew) (fun hHeld=>?_)
       refine wpT 0 ?_;(try simp only [y_,z_]);refine wpT 1 ?_;(try simp only [y_,z_]);refine wpT 2 ?_;(try simp only [y_,z_]);refine wpT 3 ?_;(try simp only [y_,z_]);refine wpT 4 ?_;(try simp only [y_,z_]);refine wpT 5 ?_;(try simp only [y_,z_]);refine wpT 6 ?_;(try simp only [y_,z_]);refine wpT 7 ?_;(try simp only [y_,z_]);refine wpAnyH_takeC (i:=8) (v:=?v1) rfl (by kernel_rfl) (by kernel_rfl) (by kernel_rfl) (fun _ _ _ h=>h) ⟨by rfl,?f1,?a1,?r1,?c1⟩ (by assumption) ?m1
       case r1=>intro w;go_simp;constructor <;> with_reducible rfl
       case c1=>intro W hSw;refine (COk.out W).mono ?_;rintro e w' ⟨rfl,rfl⟩;constructor <;> with_reducible rfl
       (try simp only [y_,z_]);refine wpT 9 ?_;(try simp only [y_,z_]);refine wpT 10 ?_;(try simp only [y_,z_]);refine aR_ (rs:=[11]) (by kernel_rfl) (by simp) ?_;refine aC_ rfl (fun K hK=>?_) aN_;go_simp;refine C1.out.mono ?_;rintro e w5 ⟨rfl,hg5,hu5'⟩;have hu5:Upd (·=g) w4 w5:=(Upd.refl.drew (S:=(·=g))).trans hu5' (fun _ _ q=>q);go_wp2_with fail
       refine hK.out _ _ ?_ (fun hHeld=>?_)
       ·exact hS _ hu5
       clear hK K;(try simp only [y_,z_]);refine wpT 12 ?_;(try simp only [y_,z_]);refine aD_ (by kernel_rfl) ?_ _
       cases rb with
       | true =>
        have HRn:Hid (R=vKids (p.kids.drop (k+1)) (ss.drop (k+1)) m rv):=by show _=_;rw [HRk.out];rfl
        clear C1 hS;go_wp2_with fail
        go_roundg (n - (k+1))
        case measure=>rw [Hg.out];omega
        case rel=>exact ⟨k+1,rv,rfl,by omega,by go_num,hg5,hrv,HRn,hu.trans hu5 (fun _ _ q=>q)⟩
       | false =>
        have HRn:Hid (R=(false,rv)):=by show _=_;rw [HRk.out];rfl
        clear C1 hS;go_wp2_with fail
        go_ret;exact ⟨by rw [HRn.out];rfl,by rw [HRn.out];exact hg5,(hUg.trans hu (fun _ _ q=>q)).trans hu5 (fun _ _ q=>q)⟩
      ·obtain rfl:n=k:=by omega
       have HRz:Hid (R=(true,vk)):=by
        show _=_;rw [HRk.out,List.drop_eq_nil_of_le (by rw [Hn.out];exact Nat.le_refl _)];rfl
       go_wp2_with fail
       go_ret;exact ⟨by rw [HRz.out];rfl,by rw [HRz.out];exact hgk,hUg.trans hu (fun _ _ q=>q)⟩
  ·have t0:(v != 0)=true:=by simpa using hv
   have HV2:Hid (R=if v<1∨v > vs.length∨op≠0∨imm≠0∨iv≠0∨0<n then (false,vs) else if vs.getD (v - 1).toNat 0=0 then (true,vs.set (v - 1).toNat s) else (decide (s=0∨s=vs.getD (v - 1).toNat 0),vs)):=by
    show _=_;rw [←HR.out,HV.out (by rw [Hv.out];exact hv),Hv.out,Hop.out,Him.out,Hiv.out,Hn.out]
   clear HV HO HI HIM;by_cases hbad:v<1∨v > vs.length∨op≠0∨imm≠0∨iv≠0∨0<n
   ·have HRv:Hid (R=(false,vs)):=by show _=_;rw [HV2.out,if_pos hbad]
    rw [HRv.out];have Hbad:=h_ hbad;obtain ⟨b1,f1⟩:∃b,decide (v<1)=b:=⟨_,rfl⟩;obtain ⟨b2,f2⟩:∃b,decide (v ≥ (vs.length:Int)+1)=b:=⟨_,rfl⟩;obtain ⟨b3,f3⟩:∃b,(op != 0)=b:=⟨_,rfl⟩;obtain ⟨b4,f4⟩:∃b,(imm != 0)=b:=⟨_,rfl⟩;obtain ⟨b5,f5⟩:∃b,(iv != 0)=b:=⟨_,rfl⟩;obtain ⟨b6,f6⟩:∃b,((n:Int) != 0)=b:=⟨_,rfl⟩
    have HB:Hid ((b1 || b2 || b3 || b4 || b5 || b6)=true):=by
     show _=_;rw [←f1,←f2,←f3,←f4,←f5,←f6];simp;omega
    clear hbad
    cases b1 with
    | true =>
     go_enter Tryz.func51,Tryz.ntmps51;go_wp2_with fail
     go_ret;exact ⟨rfl,hgW,hUg⟩
    | false=>cases b2 with
     | true =>
      go_enter Tryz.func51,Tryz.ntmps51;go_wp2_with fail
      go_ret;exact ⟨rfl,hgW,hUg⟩
     | false=>cases b3 with
      | true =>
       go_enter Tryz.func51,Tryz.ntmps51;go_wp2_with fail
       go_ret;exact ⟨rfl,hgW,hUg⟩
      | false=>cases b4 with
       | true =>
        go_enter Tryz.func51,Tryz.ntmps51;go_wp2_with fail
        go_ret;exact ⟨rfl,hgW,hUg⟩
       | false=>cases b5 with
        | true =>
         go_enter Tryz.func51,Tryz.ntmps51;go_wp2_with fail
         go_ret;exact ⟨rfl,hgW,hUg⟩
        | false=>cases b6 with
         | true =>
          have hn0:n≠0:=by intro q;subst q;simp at f6
          have hn1:(n==0)=false:=by simpa using hn0
          go_enter Tryz.func51,Tryz.ntmps51;go_wp2_with fail
          go_ret;exact ⟨rfl,hgW,hUg⟩
         | false=>exact absurd HB.out (by simp)
   ·rw [if_neg hbad] at HV2;obtain ⟨i,hi⟩:=Int.eq_ofNat_of_zero_le (show 0≤v - 1 by omega);have hil:i<vs.length:=by omega
    obtain rfl:op=0:=by omega
    obtain rfl:imm=0:=by omega
    obtain rfl:iv=0:=by omega
    obtain rfl:n=0:=by omega
    rw [hi,Int.toNat_natCast] at HV2;obtain ⟨j,Hj⟩:=nm (i+1);have hj1:=Hj.out;obtain rfl:v=(j:Int):=by omega
    have t1:decide ((j:Int)<1)=false:=dF_ (by omega);have t2:decide ((j:Int) ≥ (vs.length:Int)+1)=false:=dF_ (by omega);have cg:W.cell? ⟨g,j,none⟩=some (.int .i64 (vs.getD i 0)):=by have:=VBlk.cell hgW (i:=i+1) (by simpa using hil);rw [hj1] at this;rw [this,←hj1];simp
    have fg:=Blk.frozen hgW j;have i0:(0:Int)≤(j:Int):=by omega
    have i1:(j:Int)<(vs.length:Int)+1:=by omega
    have hset:VBlk (W.setCell ⟨g,j,none⟩ (.int .i64 s)) g (0::vs.set i s):=by have:=VBlk.set_ hgW (i+1) s;rw [hj1] at this;rw [show (0::vs.set i s)=(0::vs).set j s by rw [←hj1];rfl];exact this
    have uset:=updCell W g j (.int .i64 s);clear hj1 hi;clear hbad HR Hv Hop Him Hiv Hn hpW;by_cases hs0:s=0
    ·subst hs0
     have HV3:Hid (R=(true,vs)):=by
      show _=_;rw [HV2.out];by_cases hy:vs.getD i 0=0
      ·rw [if_pos hy]
       have : vs.set i 0=vs:=by
        apply List.ext_getElem (by simp);intro j h1 h2;rw [List.getElem_set]
        split
        ·rename_i e;subst e;rw [getD_of hil] at hy;exact hy.symm
        ·rfl
       rw [this]
      ·rw [if_neg hy];simp
     rw [HV3.out];clear HV2 HV3;go_enter Tryz.func51,Tryz.ntmps51;go_wp2_with fail
     go_ret;exact ⟨rfl,hgW,hUg⟩
    ·have ts:(s != 0)=true:=by simpa using hs0
     have ts2:(s==0)=false:=by simpa using hs0
     obtain ⟨y,Hy⟩:=nm (vs.getD i 0);rw [Hy.out] at HV2 cg;by_cases hy:y=0
     ·rw [if_pos hy] at HV2;subst hy;rw [HV2.out];clear HV2;have tss:(s==s)=true:=by simp
      go_enter Tryz.func51,Tryz.ntmps51;go_wp2_with fail
      go_ret;exact ⟨rfl,hset,hUg.trans uset (fun _ _ q=>q)⟩
     ·rw [if_neg hy] at HV2;have ty:(y==0)=false:=by simpa using hy
      by_cases hsy:s=y
      ·subst hsy;have tt:(s==s)=true:=by simp
       have HV3:Hid (R=(true,vs)):=by show _=_;rw [HV2.out];simp
       rw [HV3.out];clear HV2 HV3;go_enter Tryz.func51,Tryz.ntmps51;go_wp2_with fail
       go_ret;exact ⟨rfl,hgW,hUg⟩
      ·have tt:(y==s)=false:=by simp;omega
       have HV3:Hid (R=(false,vs)):=by show _=_;rw [HV2.out];simp [hs0,hsy]
       rw [HV3.out];clear HV2 HV3;go_enter Tryz.func51,Tryz.ntmps51;go_wp2_with fail
       go_ret;exact ⟨rfl,hgW,hUg⟩
theorem T_boolsX:SlT Tryz.prog 101 4 1 1:=by
 obtain ⟨i,h1,h2,h3,h4⟩:=info_parts (show (Tryz.prog.info? 4).map (fun i=>(i.zero,i.size,i.bytes))=some (some (.bool false),1,1) from by kernel_rfl)
 exact ⟨Tryz.underlying101,⟨i,_,h1,h2,h3,h4,rfl⟩,by omega⟩
theorem zero_boolX:(Tryz.prog.info? 4).bind (·.zero)=some (.bool false):=by kernel_rfl
theorem VBlk.new0 (w:World) (n:Nat):VBlk (w.alloc (.cells (Array.replicate (n+1) (.int .i64 0)) 3)) w.heap.size (0::List.replicate n 0):=by
 unfold VBlk;rw [show (icells (0::List.replicate n 0)).toArray=Array.replicate (n+1) (Value.int .i64 0) by rw [←List.replicate_succ];simp [icells]];exact Blk.new _ _ _
set_option maxRecDepth 100000 in
set_option maxHeartbeats 4000000 in
theorem validRule_c (r:Rl) (a:RlA) (F:Nat→Prop) (w:World) (hk:RlK w F r a) (hz:RlSz r) :
  Calls Tryz.prog 23 #[rlv r a] w fun e w'=>e=.returned (.bool (refF r))∧Upd Non w w':=by
 obtain ⟨W,HW⟩:=nm (w.alloc (.cells (rlCells r a) 43));have hU:Upd Non w W:=by rw [←HW.out];exact Upd.refl.alloc _
 have hb:Blk W w.heap.size 43 (rlCells r a):=by rw [←HW.out];exact Blk.new _ _ _
 have hsz:W.heap.size=w.heap.size+1:=by rw [←HW.out];simp
 have e0:=HW.out;have hK:=(hk.mono (G:=fun k=>k<w.heap.size) (fun _ h _=>h)).upd hU (fun _ _ _ f=>f);have HC:=h_ (fun (w':World) (u:Upd Non W w')=>rl_cells (hb.upd u (fun f=>f)));obtain ⟨c0,c1,c2,c3,c4,c5,c6,c7,c8,c9,c10,c11,c12,c13⟩:=HC.out W Upd.refl;have CN:=h_ (fun w'=>r15validName_c r.name w' hz.n);have CSL:=h_ (fun (w':World) (u:Upd Non W w')=>r15Size_c r.l w' _ a.la a.lc (PtK.upd u (fun _ _ _ f=>f) _ _ _ hK.l) hz.l);have CSR:=h_ (fun (w':World) (u:Upd Non W w')=>r15Size_c r.r w' _ a.ra a.rc (PtK.upd u (fun _ _ _ f=>f) _ _ _ hK.r) hz.r);have HZ:=h_ hz;have HK:=h_ hK;unfold pv at CSL CSR;unfold rlv;unfold rlCells at e0 ⊢;obtain ⟨R,HR⟩:=nm (refF r);rw [HR.out];have HR1:Hid (R=refF r):=HR.out.symm;unfold refF at HR1;clear hk hz hK HR hb;obtain ⟨vn,Hvn⟩:=nm (nameF r.name);rw [Hvn.out] at CN HR1;obtain ⟨b1,f1⟩:∃b,decide (r.vars<0)=b:=⟨_,rfl⟩;obtain ⟨b2,f2⟩:∃b,decide (6<r.vars)=b:=⟨_,rfl⟩;obtain ⟨b3,f3⟩:∃b,decide (r.imms<0)=b:=⟨_,rfl⟩;obtain ⟨b4,f4⟩:∃b,decide (6<r.imms)=b:=⟨_,rfl⟩
 obtain ⟨b6,f6⟩:∃b,decide ((6:Int)<(r.conds.length:Int))=b:=⟨_,rfl⟩;have F1:=h_ f1;have F2:=h_ f2;have F3:=h_ f3;have F4:=h_ f4;have F6:=h_ f6;go_enter Tryz.func23,Tryz.ntmps23
 go_upto_region 1 with fail
 go_cut [38] (fun t wx=>t=.bool (b1 || b2 || b3 || b4 || !vn || b6)∧Upd Non W wx)
 case first =>
  cases b1 with
  | true=>go_wp2_with fail;go_meet;exact ⟨rfl,Upd.refl⟩
  | false=>cases b2 with
   | true=>go_wp2_with fail;go_meet;exact ⟨rfl,Upd.refl⟩
   | false=>cases b3 with
    | true=>go_wp2_with fail;go_meet;exact ⟨rfl,Upd.refl⟩
    | false=>cases b4 with
     | true=>go_wp2_with fail;go_meet;exact ⟨rfl,Upd.refl⟩
     | false =>
      go_wp2_with fail
      refine (CN.out _).mono ?_;rintro e w3 ⟨rfl,q3,rfl⟩;have u3:Upd Non W (W.drewN q3):=Upd.refl.drewN _
      cases vn with
      | false=>go_wp2_with fail;go_meet;exact ⟨rfl,u3⟩
      | true=>go_wp2_with fail;go_meet;exact ⟨by cases b6 <;> rfl,u3⟩
 case rest =>
 obtain ⟨w1,rfl⟩:∃w1:World,w1=wc:=⟨_,rfl⟩;obtain ⟨rfl,u1⟩:=hcut;clear c0 c1 c2 c3 c4 c5 c6 c7 c8 c9 c10 c11 c12 c13;obtain ⟨c0,c1,c2,c3,c4,c5,c6,c7,c8,c9,c10,c11,c12,c13⟩:=HC.out _ u1;clear f1 f2 f3 f4 f6
 cases hT:(b1 || b2 || b3 || b4 || !vn || b6) with
 | true =>
  have HF:Hid (R=false):=by
   show _=_;rw [HR1.out];rw [show (decide (0≤r.vars∧r.vars≤6∧0≤r.imms∧r.imms≤6)&&vn&&decide (r.conds.length≤6))=false from ?_]
   ·simp
   ·rw [Bool.eq_false_iff];intro q;simp only [Bool.and_eq_true,decide_eq_true_eq] at q;obtain ⟨⟨⟨q1,q2,q3,q4⟩,q5⟩,q6⟩:=q;rw [←F1.out,←F2.out,←F3.out,←F4.out,←F6.out,q5] at hT;simp at hT;omega
  have HU:=hU.then_non u1;clear hT;go_wp2_with fail
  go_ret;exact ⟨by rw [HF.out];rfl,HU⟩
 | false =>
  obtain ⟨hv,h6,hvn⟩:(0≤r.vars∧r.vars≤6∧0≤r.imms∧r.imms≤6)∧r.conds.length≤6∧vn=true:=by
   rw [←F1.out,←F2.out,←F3.out,←F4.out,←F6.out] at hT;simp only [Bool.or_eq_false_iff,decide_eq_false_iff_not,Bool.not_eq_false'] at hT;obtain ⟨⟨⟨⟨⟨q1,q2⟩,q3⟩,q4⟩,q5⟩,q6⟩:=hT;exact ⟨by omega,by omega,q5⟩
  subst hvn;rw [dT_ hv,dT_ h6] at HR1;have H6:=h_ h6;have HT:=h_ hT;clear h6 hT CN F1 F2 F3 F4 F6;obtain ⟨n,Hn⟩:∃n:Nat,Hid (r.vars=(n:Int)):=Int.eq_ofNat_of_zero_le hv.1;obtain ⟨m,Hm⟩:∃m:Nat,Hid (r.imms=(m:Int)):=Int.eq_ofNat_of_zero_le hv.2.2.1;have hn6:n≤6:=by have:=Hn.out;omega
  have hm6:m≤6:=by have:=Hm.out;omega
  have HVN:Hid (r.vars.toNat=n):=by show _=_;rw [Hn.out];rfl
  rw [HVN.out,Hm.out] at HR1;rw [show ((m:Int)).toNat=m from rfl] at HR1;clear hv;obtain ⟨d0,g0⟩:∃b,(r.l.v != 0)=b:=⟨_,rfl⟩;obtain ⟨d1,g1⟩:∃b,decide ((24:Int)<(r.l.size:Int))=b:=⟨_,rfl⟩;obtain ⟨d2,g2⟩:∃b,decide ((24:Int)<(r.r.size:Int))=b:=⟨_,rfl⟩;have G0:=h_ g0;have G1:=h_ g1;have G2:=h_ g2
  go_upto_region 3 with fail
  go_cut [54] (fun t wx=>t=.bool (d0 || d1 || d2)∧Upd Non W wx)
  case first =>
   cases d0 with
   | true=>go_wp2_with fail;go_meet;exact ⟨rfl,u1⟩
   | false =>
    go_wp2_with fail
    refine (CSL.out _ u1).mono ?_;rintro e w2 ⟨rfl,u2⟩;have U2:=u1.then_non u2;obtain ⟨c0,c1,c2,c3,c4,c5,c6,c7,c8,c9,c10,c11,c12,c13⟩:=HC.out _ U2
    cases d1 with
    | true=>go_wp2_with fail;go_meet;exact ⟨rfl,U2⟩
    | false =>
     go_wp2_with fail
     refine (CSR.out _ U2).mono ?_;rintro e w3 ⟨rfl,u3⟩;go_wp2_with fail
     go_meet;exact ⟨by cases d2 <;> rfl,U2.then_non u3⟩
  case rest =>
  obtain ⟨w2,rfl⟩:∃w2:World,w2=wc:=⟨_,rfl⟩;obtain ⟨rfl,u2⟩:=hcut;clear c0 c1 c2 c3 c4 c5 c6 c7 c8 c9 c10 c11 c12 c13 u1 g0 g1 g2;obtain ⟨c0,c1,c2,c3,c4,c5,c6,c7,c8,c9,c10,c11,c12,c13⟩:=HC.out _ u2
  cases hT:(d0 || d1 || d2) with
  | true =>
   have HF:Hid (R=false):=by
    show _=_;rw [HR1.out,dF_]
    ·simp
    ·rintro ⟨q1,q2,q3⟩;rw [←G0.out,←G1.out,←G2.out,q1] at hT;simp at hT;omega
   have HU:=hU.then_non u2;clear hT;go_wp2_with fail
   go_ret;exact ⟨by rw [HF.out];rfl,HU⟩
  | false =>
   have hq:r.l.v=0∧r.l.size≤24∧r.r.size≤24:=by
    rw [←G0.out,←G1.out,←G2.out] at hT;simp only [Bool.or_eq_false_iff,decide_eq_false_iff_not,bne_eq_false_iff_eq] at hT;obtain ⟨⟨q1,q2⟩,q3⟩:=hT;exact ⟨q1,by omega,by omega⟩
   rw [dT_ hq] at HR1;have HT2:=h_ hT;clear hT hq CSL CSR G0 G1 G2;have hmkN:=fun w=>run_mk (P:=Tryz.prog) T_ints' zero_int_ rfl (n+1) (by omega) (by omega) w
   rw [show ((n+1:Nat):Int)=(n:Int)+1 by omega] at hmkN;have hmkB:=fun w=>run_mk (P:=Tryz.prog) T_boolsX zero_boolX rfl (n+1) (by omega) (by omega) w
   rw [show ((n+1:Nat):Int)=(n:Int)+1 by omega] at hmkB;have hmkC:=fun w=>run_mk (P:=Tryz.prog) T_boolsX zero_boolX rfl (m+1) (by omega) (by omega) w
   rw [show ((m+1:Nat):Int)=(m:Int)+1 by omega] at hmkC;rw [Hn.out] at c12;rw [Hm.out] at c13;have HSZ:Hid (r.l.size≤1000000000000∧r.r.size≤1000000000000):=⟨HZ.out.l,HZ.out.r⟩;obtain ⟨w3,Hw3⟩:=nm (w2.alloc (.cells (Array.replicate (n+1) (.int .i64 0)) 3));have ew3:=Hw3.out;have uA:Upd Non w2 w3:=by rw [←ew3];exact Upd.refl.alloc _
   have hgA:VBlk w3 w2.heap.size (0::List.replicate n 0):=by rw [←ew3];exact VBlk.new0 _ _
   have u3:=u2.then_non uA;have hs2:=u2.size;have hsA:w3.heap.size=w2.heap.size+1:=by rw [←ew3];simp
   clear c0 c1 c2 c3 c4 c5 c6 c7 c8 c9 c10 c11;go_wp2_with fail
   obtain ⟨wD,HwD⟩:=nm w3.drew;have uD:Upd Non w3 wD:=by rw [←HwD.out];exact Upd.refl.drew
   have vD:=u3.then_non uD
   have HS:∀w',Upd Non W w'→(w'.cell? ⟨w.heap.size,1,none⟩=some (.int .i64 r.l.v)∧w'.cell? ⟨w.heap.size,2,none⟩=some (.int .i64 r.l.op)∧w'.cell? ⟨w.heap.size,3,none⟩=some (.int .i64 r.l.imm)∧w'.cell? ⟨w.heap.size,4,none⟩=some (.int .i64 r.l.iv)∧w'.cell? ⟨w.heap.size,5,none⟩=some (.slice a.la r.l.kids.length a.lc)∧w'.cell? ⟨w.heap.size,6,none⟩=some (.int .i64 r.r.v)∧w'.cell? ⟨w.heap.size,7,none⟩=some (.int .i64 r.r.op)∧w'.cell? ⟨w.heap.size,8,none⟩=some (.int .i64 r.r.imm)∧w'.cell? ⟨w.heap.size,9,none⟩=some (.int .i64 r.r.iv)∧w'.cell? ⟨w.heap.size,10,none⟩=some (.slice a.ra r.r.kids.length a.rc)∧w'.cell? ⟨w.heap.size,13,none⟩=some (.int .i64 m)):=fun w' u=>by
    obtain ⟨c0,c1,c2,c3,c4,c5,c6,c7,c8,c9,c10,c11,c12,c13⟩:=HC.out w' u;rw [Hm.out] at c13;exact ⟨c1,c2,c3,c4,c5,c6,c7,c8,c9,c10,c13⟩
   have HS:=h_ HS;have hFg:¬(fun k=>k<w.heap.size) w2.heap.size:=by show ¬w2.heap.size<w.heap.size;omega
   have C2:=h_ (r15fits_c r.l wD _ a.la a.lc w2.heap.size (n+1) 0 m (List.replicate n 0) (PtK.upd vD (fun _ _ _ f=>f) _ _ _ HK.out.l) hFg (Blk.upd hgA uD (fun f=>f)) HSZ.out.1 (by simp;omega) (by omega))
   rw [List.length_replicate] at C2;have hl1:(vPt r.l 0 m (List.replicate n 0)).2.length=n:=by rw [vPt_len,List.length_replicate]
   obtain ⟨p1,Hp1⟩:=nm (vPt r.l 0 m (List.replicate n 0)).1;obtain ⟨v1,Hv1⟩:=nm (vPt r.l 0 m (List.replicate n 0)).2;rw [Hp1.out,Hv1.out] at C2 HR1;rw [Hv1.out] at hl1;have HL1:=h_ hl1;unfold pv at C2;clear hl1 hgA;go_wp2_with fail
   refine wp_region_held_drew (S:=fun w'=>w'.cell? ⟨w.heap.size,1,none⟩=some (.int .i64 r.l.v)∧w'.cell? ⟨w.heap.size,2,none⟩=some (.int .i64 r.l.op)∧w'.cell? ⟨w.heap.size,3,none⟩=some (.int .i64 r.l.imm)∧w'.cell? ⟨w.heap.size,4,none⟩=some (.int .i64 r.l.iv)∧w'.cell? ⟨w.heap.size,5,none⟩=some (.slice a.la r.l.kids.length a.lc)∧w'.cell? ⟨w.heap.size,6,none⟩=some (.int .i64 r.r.v)∧w'.cell? ⟨w.heap.size,7,none⟩=some (.int .i64 r.r.op)∧w'.cell? ⟨w.heap.size,8,none⟩=some (.int .i64 r.r.imm)∧w'.cell? ⟨w.heap.size,9,none⟩=some (.int .i64 r.r.iv)∧w'.cell? ⟨w.heap.size,10,none⟩=some (.slice a.ra r.r.kids.length a.rc)∧w'.cell? ⟨w.heap.size,13,none⟩=some (.int .i64 m)) (by kernel_rfl) (by rw [HwD.out];exact HS.out _ vD) (fun hHeld=>?_)
   rw [HwD.out] at hHeld ⊢;refine wpT 0 ?_;(try simp only [y_,z_]);refine wpT 1 ?_;(try simp only [y_,z_]);refine wpT 2 ?_;(try simp only [y_,z_]);refine wpT 3 ?_;(try simp only [y_,z_]);refine wpT 4 ?_;(try simp only [y_,z_]);refine aR_ (rs:=[5]) (by kernel_rfl) (by simp) ?_;refine aC_ rfl (fun K hK=>?_) aN_;go_simp;refine C2.out.mono ?_;rintro e w5 ⟨rfl,hg5,u5⟩;have U5:Upd Non W w5:=vD.trans u5 (fun i hi h=>by omega);have HG5:=h_ hg5;clear hg5 C2;go_wp2_with fail
   refine hK.out _ _ ?_ (fun hHeld=>?_)
   ·exact HS.out _ U5
   clear hK K;(try simp only [y_,z_])
   cases p1 with
   | false =>
    refine wpT 6 ?_;(try simp only [y_,z_]);refine wpT 7 ?_;(try simp only [y_,z_]);refine wpU 8 ?_;(try simp only [y_,z_]);refine wpU 9 ?_;(try simp only [y_,z_]);refine wpU 10 ?_;(try simp only [y_,z_]);refine wpU 11 ?_;(try simp only [y_,z_]);refine wpU 12 ?_;(try simp only [y_,z_]);refine wpU 13 ?_;(try simp only [y_,z_]);refine wpU 14 ?_;(try simp only [y_,z_]);refine wpU 15 ?_;(try simp only [y_,z_]);refine wpU 16 ?_;(try simp only [y_,z_]);refine wpU 17 ?_;(try simp only [y_,z_]);refine wpU 18 ?_;(try simp only [y_,z_]);refine wpT 19 ?_;(try simp only [y_,z_]);refine aD_ (by kernel_rfl) ?_ _;have HF:Hid (R=false):=by show _=_;rw [HR1.out];simp
    have HU:=hU.then_non U5;go_wp2_with fail
    go_ret;exact ⟨by rw [HF.out];rfl,HU⟩
   | true =>
    have C3:=h_ (fun (w':World) (u:Upd Non w5 w')=>r15fits_c r.r w' _ a.ra a.rc w2.heap.size (n+1) (pSortF r.l.op) m v1 (PtK.upd (U5.then_non u) (fun _ _ _ f=>f) _ _ _ HK.out.r) hFg (Blk.upd HG5.out u (fun f=>f)) HSZ.out.2 (by rw [HL1.out];omega) (by omega))
    rw [HL1.out] at C3;have CP:=h_ (fun (w':World)=>pSort_c r.l.op w');obtain ⟨so,Hso⟩:=nm (pSortF r.l.op);rw [Hso.out] at C3 HR1 CP;have hl2:(vPt r.r so m v1).2.length=n:=by rw [vPt_len,HL1.out]
    obtain ⟨p2,Hp2⟩:=nm (vPt r.r so m v1).1;obtain ⟨v2,Hv2⟩:=nm (vPt r.r so m v1).2;rw [Hp2.out,Hv2.out] at C3 HR1;rw [Hv2.out] at hl2;have HL2:=h_ hl2;unfold pv at C3;clear hl2;refine wpT 6 ?_;(try simp only [y_,z_]);refine wpT 7 ?_;(try simp only [y_,z_]);refine wpT 8 ?_;(try simp only [y_,z_]);refine wpT 9 ?_;(try simp only [y_,z_]);refine wpT 10 ?_;(try simp only [y_,z_]);refine wpT 11 ?_;(try simp only [y_,z_]);refine wpT 12 ?_;(try simp only [y_,z_]);refine wpAnyH_takeC (i:=13) (v:=?v1) rfl (by kernel_rfl) (by kernel_rfl) (by kernel_rfl) (fun _ _ _ h=>h) ⟨by rfl,?f1,?a1,?r1,?c1⟩ (by assumption) ?m1
    case r1=>intro w;go_simp;constructor <;> with_reducible rfl
    case c1=>intro W hSw;refine (CP.out W).mono ?_;rintro e w' ⟨rfl,rfl⟩;constructor <;> with_reducible rfl
    (try simp only [y_,z_]);refine wpT 14 ?_;(try simp only [y_,z_]);refine wpT 15 ?_;(try simp only [y_,z_]);refine wpT 16 ?_;(try simp only [y_,z_]);refine aR_ (rs:=[17]) (by kernel_rfl) (by simp) ?_;refine aC_ rfl (fun K hK=>?_) aN_;go_simp;refine (C3.out _ Upd.refl).mono ?_;rintro e w7 ⟨rfl,hg7,u7⟩;have U7:Upd Non W w7:=U5.trans u7 (fun i hi h=>by omega);have HG7:=h_ hg7;clear hg7 C3;go_wp2_with fail
    refine hK.out _ _ ?_ (fun hHeld=>?_)
    ·exact HS.out _ U7
    clear hK K;(try simp only [y_,z_]);refine wpT 18 ?_;(try simp only [y_,z_]);refine wpT 19 ?_;(try simp only [y_,z_]);refine aD_ (by kernel_rfl) ?_ _
    cases p2 with
    | false =>
     have HF:Hid (R=false):=by show _=_;rw [HR1.out];simp
     have HU:=hU.then_non U7;go_wp2_with fail
     go_ret;exact ⟨by rw [HF.out];rfl,HU⟩
    | true =>
     obtain ⟨x1,Hx1⟩:=nm (((markV (nodes r.l) (List.replicate (n+1) false)).drop 1).all id);obtain ⟨x2,Hx2⟩:=nm (((markI (nodes r.l) (List.replicate (m+1) false)).drop 1).all id);obtain ⟨x3,Hx3⟩:=nm (r.conds.all fun c=>condF c (0::v2) (m:Int));rw [Hx1.out,Hx2.out,Hx3.out] at HR1;have HR2:Hid (R=(x1&&(x2&&x3))):=by show _=_;rw [HR1.out];simp [Bool.and_assoc]
     have HVL1:Hid ((markV (nodes r.l) (List.replicate (n+1) false)).length=n+1):=by show _=_;rw [Go.Proofs.YtblkgjdhaibhgaaGreat.markV_len,List.length_replicate]
     have HIL1:Hid ((markI (nodes r.l) (List.replicate (m+1) false)).length=m+1):=by show _=_;rw [Go.Proofs.YtblkgjdhaibhgaaGreat.markI_len,List.length_replicate]
     have HB1:Hid (x1=true↔∀i:Nat,1≤i→i≤n→(markV (nodes r.l) (List.replicate (n+1) false)).getD i false=true):=by
      show _↔_;rw [←Hx1.out,all_drop (d:=false) HVL1.out];rfl
     have HB2:Hid (x2=true↔∀i:Nat,1≤i→i≤m→(markI (nodes r.l) (List.replicate (m+1) false)).getD i false=true):=by
      show _↔_;rw [←Hx2.out,all_drop (d:=false) HIL1.out];rfl
     obtain ⟨w8,Hw8⟩:=nm (w7.alloc (.cells (Array.replicate (n+1) (.bool false)) 4));have ew8:=Hw8.out;have u8:Upd Non w7 w8:=by rw [←ew8];exact Upd.refl.alloc _
     have hgp:BBlk w8 w7.heap.size (List.replicate (n+1) false):=by rw [←ew8];exact BBlk.new _ _
     have hs8:w8.heap.size=w7.heap.size+1:=by rw [←ew8];simp
     obtain ⟨w9,Hw9⟩:=nm (w8.alloc (.cells (Array.replicate (m+1) (.bool false)) 4));have ew9:=Hw9.out;have u9:Upd Non w8 w9:=by rw [←ew9];exact Upd.refl.alloc _
     have hgi:BBlk w9 (w7.heap.size+1) (List.replicate (m+1) false):=by rw [←ew9,←hs8];exact BBlk.new _ _
     have hgp9:BBlk w9 w7.heap.size (List.replicate (n+1) false):=Blk.upd hgp u9 (fun f=>f);have U8:=U7.then_non u8;have U9:=U8.then_non u9;have hs7:=U7.size;have hFp:¬(fun k=>k<w.heap.size) w7.heap.size:=by show ¬w7.heap.size<w.heap.size;omega
     have hFi:¬(fun k=>k<w.heap.size) (w7.heap.size+1):=by show ¬w7.heap.size+1<w.heap.size;omega
     have C4:=h_ (r15occurring_c r.l w9 _ a.la a.lc w7.heap.size (n+1) (w7.heap.size+1) (m+1) (List.replicate (n+1) false) (List.replicate (m+1) false) (PtK.upd U9 (fun _ _ _ f=>f) _ _ _ HK.out.l) hFp hFi (by omega) hgp9 hgi HSZ.out.1)
     rw [List.length_replicate,List.length_replicate] at C4;obtain ⟨V1,HV1⟩:=nm (markV (nodes r.l) (List.replicate (n+1) false));obtain ⟨I1,HI1⟩:=nm (markI (nodes r.l) (List.replicate (m+1) false));rw [HV1.out] at C4 HVL1 HB1;rw [HI1.out] at C4 HIL1 HB2;unfold pv at C4;obtain ⟨_,_,_,_,_,_,_,_,_,_,_,_,d12,_⟩:=HC.out _ U7;rw [Hn.out] at d12;obtain ⟨_,_,_,_,_,_,_,_,_,_,_,_,_,d13⟩:=HC.out _ U8;rw [Hm.out] at d13;obtain ⟨_,f1,f2,f3,f4,f5,_,_,_,_,_,_,_,_⟩:=HC.out _ U9;clear hgp hgi hgp9 HR1 c12 c13;go_wp2_with fail
     refine C4.out.mono ?_;rintro e wA ⟨rfl,hgp,hgi,uA⟩;have UA:Upd Non W wA:=U9.trans uA (fun i hi h=>by omega);have HU:=hU.then_non UA
     have HGA:Hid (VBlk wA w2.heap.size (0::v2)):=by
      have h1:=Blk.upd HG7.out u8 (fun f=>f);have h2:=Blk.upd h1 u9 (fun f=>f);exact Blk.upd h2 uA (by have:=Blk.lt HG7.out;omega)
     clear C4 d12 d13 f1 f2 f3 f4 f5 hmkN hmkB hmkC;go_wp2_with fail
     go_loopg [6] n (fun g i wr=>∃k:Nat,Hid (g=n+1 - k)∧1≤k∧k≤n+1∧i=.int .i64 k∧Hid (∀j:Nat,1≤j→j<k→V1.getD j false=true)∧wA=wr)
     case atStart=>exact ⟨1,by show _=_;omega,by omega,by omega,rfl,fun j h1 h2=>by omega,rfl⟩
     case round =>
      obtain ⟨k,Hg,hk1,hk2,rfl,HA,rfl⟩:=hrel;by_cases hlt:k<n+1
      ·have t3:decide ((k:Int)<(n:Int)+1)=true:=dT_ (by omega);have hkN:(k:Int)<(n:Int)+1:=by omega
       have hk0:(0:Int)≤(k:Int):=by omega
       have z1:=BBlk.cell hgp (i:=k) (by rw [HVL1.out];omega);obtain ⟨z,Hz⟩:=nm (V1.getD k false);rw [Hz.out] at z1
       cases z with
       | false =>
        have hb:x1=false:=by
         rw [Bool.eq_false_iff];intro q;have:=HB1.out.1 q k hk1 (by omega);rw [Hz.out] at this;cases this
        have HF:Hid (R=false):=by show _=_;rw [HR2.out,hb];simp
        clear hb;go_wp2_with fail
        go_ret;exact ⟨by rw [HF.out];rfl,HU⟩
       | true =>
        have HA2:Hid (∀j:Nat,1≤j→j<k+1→V1.getD j false=true):=by
         intro j j1 j2;by_cases e:j=k
         ·rw [e];exact Hz.out
         ·exact HA.out j j1 (by omega)
        go_wp2_with fail
        go_roundg (n+1 - (k+1))
        case measure=>rw [Hg.out];omega
        case rel=>exact ⟨k+1,rfl,by omega,by omega,by go_num,HA2,rfl⟩
      ·have t3:decide ((k:Int)<(n:Int)+1)=false:=dF_ (by omega);have hb1:x1=true:=HB1.out.2 (fun i i1 i2=>HA.out i i1 (by omega));subst hb1;have HR3:Hid (R=(x2&&x3)):=by show _=_;rw [HR2.out];rfl
       clear HA Hg hk1 hk2 hlt;go_wp2_with fail
       go_loopg [7] m (fun g i wr=>∃k:Nat,Hid (g=m+1 - k)∧1≤k∧k≤m+1∧i=.int .i64 k∧Hid (∀j:Nat,1≤j→j<k→I1.getD j false=true)∧wA=wr)
       case atStart=>exact ⟨1,by show _=_;omega,by omega,by omega,rfl,fun j h1 h2=>by omega,rfl⟩
       case round =>
        obtain ⟨k,Hg,hk1,hk2,rfl,HA,rfl⟩:=hrel;by_cases hlt:k<m+1
        ·have t3:decide ((k:Int)<(m:Int)+1)=true:=dT_ (by omega);have hkN:(k:Int)<(m:Int)+1:=by omega
         have hk0:(0:Int)≤(k:Int):=by omega
         have z1:=BBlk.cell hgi (i:=k) (by rw [HIL1.out];omega);obtain ⟨z,Hz⟩:=nm (I1.getD k false);rw [Hz.out] at z1
         cases z with
         | false =>
          have hb:x2=false:=by
           rw [Bool.eq_false_iff];intro q;have:=HB2.out.1 q k hk1 (by omega);rw [Hz.out] at this;cases this
          have HF:Hid (R=false):=by show _=_;rw [HR3.out,hb];simp
          clear hb;go_wp2_with fail
          go_ret;exact ⟨by rw [HF.out];rfl,HU⟩
         | true =>
          have HA2:Hid (∀j:Nat,1≤j→j<k+1→I1.getD j false=true):=by
           intro j j1 j2;by_cases e:j=k
           ·rw [e];exact Hz.out
           ·exact HA.out j j1 (by omega)
          go_wp2_with fail
          go_roundg (m+1 - (k+1))
          case measure=>rw [Hg.out];omega
          case rel=>exact ⟨k+1,rfl,by omega,by omega,by go_num,HA2,rfl⟩
        ·have t3:decide ((k:Int)<(m:Int)+1)=false:=dF_ (by omega);have hb1:x2=true:=HB2.out.2 (fun i i1 i2=>HA.out i i1 (by omega));subst hb1;have HR4:Hid (R=(x3)):=by show _=_;rw [HR3.out];rfl
         clear HA Hg hk1 hk2 hlt;obtain ⟨cn,Hcn⟩:=nm r.conds.length;have hcn:=H6.out;rw [Hcn.out] at hcn;go_wp2_with fail
         go_loopg [8] cn (fun g i wr=>∃q:Nat,Hid (g=cn - q)∧q≤cn∧i=.int .i64 q∧Hid (∀j (h:j<r.conds.length),j<q→condF r.conds[j] (0::v2) (m:Int)=true)∧Upd Non wA wr)
         case atStart=>exact ⟨0,rfl,by omega,rfl,fun j h1 h2=>by omega,Upd.refl⟩
         case round =>
          obtain ⟨q,Hg,hq,rfl,HA,hu⟩:=hrel;have HUC:=UA.then_non hu;by_cases hlt:q<cn
          ·have hql:q<r.conds.length:=by rw [Hcn.out];exact hlt
           have hcv:=HK.out.c.upd HUC (fun _ _ _ f=>f);obtain ⟨cb,co,ecA,hF,hcb,k0,k1,k2,k3⟩:=hcv.at_ hql
           have hcond:Hid (∀b,condF r.conds[q] (0::v2) (m:Int)=b→(b=false→R=false)∧(b=true→∀j (h:j<r.conds.length),j<q+1→condF r.conds[j] (0::v2) (m:Int)=true)):=by
            intro b hb;refine ⟨fun h=>?_,fun h j hj1 hj2=>?_⟩
            ·rw [HR4.out,←Hx3.out,Bool.eq_false_iff];intro h2;rw [List.all_eq_true] at h2;have:=h2 _ (List.getElem_mem hql);rw [hb,h] at this;cases this
            ·by_cases e:j=q
             ·subst e;rw [hb,h]
             ·exact HA.out j hj1 (by omega)
           generalize r.conds[q]=x at *;obtain ⟨wE,HwE⟩:=nm wr.drew;have uE:Upd Non wr wE:=by rw [←HwE.out];exact Upd.refl.drew
           have UE:=HUC.then_non uE
           have HS3:Hid (∀w',Upd Non wr w'→(w'.cell? ⟨w.heap.size,11,none⟩=some (.slice (some ⟨cb,co,none⟩) cn a.cc)∧w'.cell? ⟨w.heap.size,13,none⟩=some (.int .i64 m)∧w'.cell? ⟨cb,co+q * 4,none⟩=some (.int .i64 x.kind)∧w'.cell? ⟨cb,co+q * 4+1,none⟩=some (.int .i64 x.a)∧w'.cell? ⟨cb,co+q * 4+2,none⟩=some (.int .i64 x.b)∧w'.cell? ⟨cb,co+q * 4+3,none⟩=some (.int .i64 x.n))):=fun w' u=>by
            obtain ⟨_,_,_,_,_,_,_,_,_,_,_,d11,_,d13⟩:=HC.out _ (HUC.then_non u);rw [ecA,Hcn.out] at d11;rw [Hm.out] at d13;exact ⟨d11,d13,u_ k0 u (fun f=>f),u_ k1 u (fun f=>f),u_ k2 u (fun f=>f),u_ k3 u (fun f=>f)⟩
           have CC:=h_ (r15validCond_c x (0::v2) (m:Int) (some ⟨w2.heap.size,0,none⟩) (n+1) (fun _=>True) wE (VBlk.ints (Blk.upd (Blk.upd HGA.out hu (fun f=>f)) uE (fun f=>f))))
           rw [List.length_cons,HL2.out] at CC;obtain ⟨cr,Hcr⟩:=nm (condF x (0::v2) (m:Int));rw [Hcr.out] at CC hcond;have HCD:=h_ (hcond.out cr rfl);have hq0:(0:Int)≤(q:Int):=by omega
           have hqn:(q:Int)<(cn:Int):=by omega
           obtain ⟨d11,d13,_⟩:=HS3.out wr Upd.refl;have t5:decide (q<cn)=true:=dT_ hlt;clear hcv hcond k0 k1 k2 k3 HA;go_wp2_with fail
           refine wp_region_held_drew (S:=fun w'=>w'.cell? ⟨w.heap.size,11,none⟩=some (.slice (some ⟨cb,co,none⟩) cn a.cc)∧w'.cell? ⟨w.heap.size,13,none⟩=some (.int .i64 m)∧w'.cell? ⟨cb,co+q * 4,none⟩=some (.int .i64 x.kind)∧w'.cell? ⟨cb,co+q * 4+1,none⟩=some (.int .i64 x.a)∧w'.cell? ⟨cb,co+q * 4+2,none⟩=some (.int .i64 x.b)∧w'.cell? ⟨cb,co+q * 4+3,none⟩=some (.int .i64 x.n)) (by kernel_rfl) (by rw [HwE.out];exact HS3.out _ uE) (fun hHeld=>?_)
           rw [HwE.out] at hHeld ⊢;refine wpT 0 ?_;(try simp only [y_,z_]);refine wpT 1 ?_;(try simp only [y_,z_]);refine wpT 2 ?_;(try simp only [y_,z_]);refine wpT 3 ?_;(try simp only [y_,z_]);refine wpT 4 ?_;(try simp only [y_,z_]);refine wpT 5 ?_;(try simp only [y_,z_]);refine wpT 6 ?_;(try simp only [y_,z_]);refine wpT 7 ?_;(try simp only [y_,z_]);refine aR_ (rs:=[8]) (by kernel_rfl) (by simp) ?_;refine aC_ rfl (fun K hK=>?_) aN_;go_simp;refine CC.out.mono ?_;rintro e wG ⟨rfl,uG⟩;go_wp2_with fail
           refine hK.out _ _ ?_ (fun hHeld=>?_)
           ·exact HS3.out _ (uE.then_non uG)
           clear hK K;(try simp only [y_,z_]);refine wpT 9 ?_;(try simp only [y_,z_]);refine aD_ (by kernel_rfl) ?_ _;have HU11:=(hu.then_non uE).then_non uG;have HU:=HU.then_non HU11
           cases cr with
           | false =>
            have HF:Hid (R=false):=HCD.out.1 rfl;go_wp2_with fail
            go_ret;exact ⟨by rw [HF.out];rfl,HU⟩
           | true =>
            have HA2:=h_ (HCD.out.2 rfl);go_wp2_with fail
            simp only [←ecA]
            go_roundg (cn - (q+1))
            case measure=>rw [Hg.out];omega
            case rel=>exact ⟨q+1,rfl,by omega,by go_num,HA2.out,HU11⟩
          ·obtain rfl:cn=q:=by omega
           have HF:Hid (R=true):=by
            show _=_;rw [HR4.out,←Hx3.out,List.all_eq_true];intro c hc;obtain ⟨j,hj,rfl⟩:=List.mem_iff_getElem.1 hc;exact HA.out j hj (by rw [←Hcn.out];exact hj)
           have HU:=HU.then_non hu;obtain ⟨_,_,_,_,_,_,_,_,_,_,_,d11,_,_⟩:=HC.out _ HUC;rw [Hcn.out] at d11;have t5:decide (cn<cn)=false:=by simp
           go_wp2_with fail
           go_ret;exact ⟨by rw [HF.out];rfl,HU⟩
set_option maxRecDepth 100000 in
set_option maxHeartbeats 4000000 in
theorem xPrint_c (w:World) (F:Nat→Prop) (A:Option Addr) (c:Nat) (L:List Rl) (hv:RlsV w F A L) (hz:∀r∈L,RlSz r) (hi:∀r∈L,RlI r) (hn:L.length≤1000000) :
  Calls Tryz.prog 24 #[.slice A L.length c] w fun e w'=>e=.returned (.string (kstr (printF L)))∧Upd Non w w':=by
 have HV:=h_ hv;have HZ:=h_ hz;have HI:=h_ hi;obtain ⟨res,Hres⟩:=nm (kstr (printF L));rw [Hres.out];obtain ⟨n,Hn⟩:=nm L.length;rw [Hn.out] at hn ⊢;clear hv hz hi;go_enter Tryz.func24,Tryz.ntmps24;go_wp2_with fail
 go_loopg [3,4,5,6] n (fun g v iv _ _ wr=>∃(k:Nat) (bs:Bs),Hid (g=n - k)∧k≤n∧iv=.int .i64 k∧v=.string (kstr bs)∧Hid (bs=fmtRs (L.take k))∧bs.length≤2000 * k∧Hid (∀r∈L.take k,implF r=true)∧Hid (Upd Non w wr))
 case atStart=>exact ⟨0,[],rfl,Nat.zero_le _,rfl,rfl,rfl,by simp,fun r hr=>by simp at hr,Upd.refl⟩
 case round =>
  obtain ⟨k,bs,Hg,hk,rfl,rfl,HB,hbl,HI2,HU⟩:=hrel;by_cases hlt:k<n
  ·have hkl:k<L.length:=by rw [Hn.out];exact hlt
   obtain ⟨b,o,a,rfl,_,hbw0,hat0,hrk0⟩:=HV.out.at_ hkl;have hbw:b<wr.heap.size:=Nat.lt_of_lt_of_le hbw0 HU.out.size;have hat:=hat0.upd HU.out (fun f=>f);have hrk:=hrk0.upd HU.out (fun _ _ _ f=>f);have HRW:=h_ hrk0;clear hat0 hrk0 hbw0;unfold RlAt at hat;have HRZ:=h_ (HZ.out _ (List.getElem_mem hkl));have HRI:=h_ (HI.out _ (List.getElem_mem hkl));have HTK:Hid (L.take (k+1)=L.take k++[L[k]]):=take_snoc' hkl;have HME:Hid (L[k]∈L):=List.getElem_mem hkl;generalize L[k]=r at *;obtain ⟨x0,x1,x2,x3,x4,x5,x6,x7,x8,x9,x10,x11,x12,x13⟩:=hat;have CV:=h_ (validRule_c r a F _ (hrk.upd (Upd.refl.alloc (S:=Non) (.cells (rlCells r a) 43)) (fun _ _ _ f=>f)) HRZ.out);rw [←imp_ref] at CV;have hb3:=Blk.new wr 43 (rlCells r a);have HB3:=h_ hb3;have HRK:=h_ hrk;have HB3A:Hid (rlCells r a=rlCells r a):=rfl;unfold rlv rlCells at CV;obtain ⟨v,Hv⟩:=nm (implF r);rw [Hv.out] at CV;obtain ⟨sb,Hsb⟩:=nm (kstr bs);have hsb:sb.size≤2000 * k:=by rw [←Hsb.out,kstr_size];exact hbl
   rw [Hsb.out];obtain ⟨W3,HW3⟩:=nm (wr.alloc (.cells (rlCells r a) 43));have e3:=HW3.out;rw [HW3.out] at HB3;have u3:Upd Non wr W3:=by rw [←HW3.out];exact Upd.refl.alloc _
   have HU3:=h_ (HU.out.then_non u3);have HRK3:=h_ (HRK.out.upd u3 (fun _ _ _ f=>f));unfold rlCells at e3;rw [e3] at CV;have hb3:=HB3.out;unfold rlCells at hb3;clear hb3 hrk u3 HB3A HRK HW3;have y3:=HB3.out;unfold rlCells at y3;have z0:=y3.cell 0;have z1:=y3.cell 1;have z2:=y3.cell 2;have z3:=y3.cell 3;have z4:=y3.cell 4;have z5:=y3.cell 5;have z6:=y3.cell 6;have z7:=y3.cell 7;have z8:=y3.cell 8;have z9:=y3.cell 9;have z10:=y3.cell 10;have z11:=y3.cell 11;have z12:=y3.cell 12;have z13:=y3.cell 13;clear y3
   go_upto_region 6 with fail
   try rw [e3]
   clear x0 x1 x2 x3 x4 x5 x6 x7 x8 x9 x10 x11 x12 x13 e3;go_wp2_with fail
   refine CV.out.mono ?_;rintro e w4 ⟨rfl,hu4⟩;clear CV z0 z1 z2 z3 z4 z5 z6 z7 z8 z9 z10 z11 z12 z13;have HU4:=h_ (HU3.out.then_non hu4);have HB4:=h_ (HB3.out.upd hu4 (fun f=>f));have HRK4:=h_ (HRK3.out.upd hu4 (fun _ _ _ f=>f));clear HB3 HRK3 hu4
   cases v with
   | false =>
    go_wp2_with fail
    go_ret;refine ⟨?_,HU4.out⟩;rw [←Hres.out,show printF L=[] from if_neg (fun q=>by have:=List.all_eq_true.1 q r HME.out;rw [Hv.out] at this;cases this)];rfl
   | true =>
    have HF:=h_ (impl_fm Hv.out HRI.out);have hok:=imp_ok Hv.out;have HY1:=h_ (shp_fy _ _ _ _ hok.shl);have HY2:=h_ (shp_fy _ _ _ _ hok.shr);have hnl:r.name.size≤16:=HF.out.n;have hlz:r.l.size≤24:=HF.out.ls;have hrz:r.r.size≤24:=HF.out.rs;have hl1:(kstr (fmtF r.l)).size≤720:=ksz (by have:=fmtF_len _ HF.out.l;omega);have hl2:(kstr (fmtF r.r)).size≤720:=ksz (by have:=fmtF_len _ HF.out.r;omega);have CL:=h_ (fun W (u:Upd Non w4 W)=>xFmtPattern_c r.l W F a.la a.lc (PtK.upd u (fun _ _ _ f=>f) _ _ _ HRK4.out.l) HF.out.l HY1.out (by omega));have CR:=h_ (fun W (u:Upd Non w4 W)=>xFmtPattern_c r.r W F a.ra a.rc (PtK.upd u (fun _ _ _ f=>f) _ _ _ HRK4.out.r) HF.out.r HY2.out (by omega))
    have HE:Hid ((((((sb++({ data:=#[114,117,108,101,32] }:ByteArray))++r.name)++({ data:=#[58,32] }:ByteArray))++kstr (fmtF r.l))++({ data:=#[32,61,62,32] }:ByteArray))++kstr (fmtF r.r)=kstr (bs++hdF r)):=by
     show _=_;apply kx_inj;rw [kx_kstr,←Hsb.out,←hd_eq];simp [kx,kstr]
    have hsz:(hdF r).length≤1600:=hdF_len HF.out;obtain ⟨f1,Hf1⟩:=nm (kstr (fmtF r.l));obtain ⟨f2,Hf2⟩:=nm (kstr (fmtF r.r));rw [Hf1.out] at CL HE hl1;rw [Hf2.out] at CR HE hl2;unfold pv at CL CR;clear hok
    go_upto_region 8 with fail
    go_cut [3] (fun v wx=>v=.string (kstr (bs++hdF r))∧Upd Non w4 wx)
    case first =>
     obtain ⟨wD,HwD⟩:=nm w4.drew;have uD:Upd Non w4 wD:=by rw [←HwD.out];exact Upd.refl.drew
     have hbD:=HB4.out.upd uD (fun f=>f);unfold rlCells at hbD;have hq0:¬(9223372036854775807<sb.size+5):=by omega
     have hq1:¬(9223372036854775807<sb.size+5+r.name.size):=by omega
     have hq2:¬(9223372036854775807<sb.size+5+r.name.size+2):=by omega
     have hq3:¬(9223372036854775807<sb.size+5+r.name.size+2+f1.size):=by omega
     have hq4:¬(9223372036854775807<sb.size+5+r.name.size+2+f1.size+4):=by omega
     have hq5:¬(9223372036854775807<sb.size+5+r.name.size+2+f1.size+4+f2.size):=by omega
     refine wp_region_held_drew (S:=fun w'=>w'.cell? ⟨wr.heap.size,0,none⟩=some (.string r.name)∧w'.cell? ⟨wr.heap.size,1,none⟩=some (.int .i64 r.l.v)∧w'.cell? ⟨wr.heap.size,2,none⟩=some (.int .i64 r.l.op)∧w'.cell? ⟨wr.heap.size,3,none⟩=some (.int .i64 r.l.imm)∧w'.cell? ⟨wr.heap.size,4,none⟩=some (.int .i64 r.l.iv)∧w'.cell? ⟨wr.heap.size,5,none⟩=some (.slice a.la r.l.kids.length a.lc)∧w'.cell? ⟨wr.heap.size,6,none⟩=some (.int .i64 r.r.v)∧w'.cell? ⟨wr.heap.size,7,none⟩=some (.int .i64 r.r.op)∧w'.cell? ⟨wr.heap.size,8,none⟩=some (.int .i64 r.r.imm)∧w'.cell? ⟨wr.heap.size,9,none⟩=some (.int .i64 r.r.iv)∧w'.cell? ⟨wr.heap.size,10,none⟩=some (.slice a.ra r.r.kids.length a.rc)) (by kernel_rfl) (by rw [HwD.out];exact ⟨hbD.cell 0,hbD.cell 1,hbD.cell 2,hbD.cell 3,hbD.cell 4,hbD.cell 5,hbD.cell 6,hbD.cell 7,hbD.cell 8,hbD.cell 9,hbD.cell 10⟩) (fun hHeld=>?_)
     rw [HwD.out] at hHeld ⊢;refine wpT 0 ?_;(try simp only [y_,z_]);refine wpT 1 ?_;(try simp only [y_,z_]);refine wpT 2 ?_;(try simp only [y_,z_]);refine wpT 3 ?_;(try simp only [y_,z_]);refine wpT 4 ?_;(try simp only [y_,z_]);refine wpT 5 ?_;(try simp only [y_,z_]);refine wpT 6 ?_;(try simp only [y_,z_]);refine wpT 7 ?_;(try simp only [y_,z_]);refine wpT 11 ?_;(try simp only [y_,z_]);refine wpT 12 ?_;(try simp only [y_,z_]);refine aR_ (rs:=[8]) (by kernel_rfl) (by simp) ?_;refine aC_ rfl (fun K hK=>?_) aN_;go_simp;refine (CL.out _ uD).mono ?_;rintro e w5 ⟨rfl,u5⟩;have h5:Upd Non w4 w5:=uD.then_non u5;have hb5:=HB4.out.upd h5 (fun f=>f);unfold rlCells at hb5;go_wp2_with fail
     refine hK.out _ _ ?_ (fun hHeld=>?_)
     ·exact ⟨hb5.cell 0,hb5.cell 1,hb5.cell 2,hb5.cell 3,hb5.cell 4,hb5.cell 5,hb5.cell 6,hb5.cell 7,hb5.cell 8,hb5.cell 9,hb5.cell 10⟩
     clear hK K;(try simp only [y_,z_]);refine wpT 9 ?_;(try simp only [y_,z_]);refine wpT 10 ?_;(try simp only [y_,z_]);refine aR_ (rs:=[13]) (by kernel_rfl) (by simp) ?_;refine aC_ rfl (fun K hK=>?_) aN_;go_simp;refine (CR.out _ h5).mono ?_;rintro e w6 ⟨rfl,u6⟩;have h6:Upd Non w4 w6:=h5.then_non u6;have hb6:=HB4.out.upd h6 (fun f=>f);unfold rlCells at hb6;go_wp2_with fail
     refine hK.out _ _ ?_ (fun hHeld=>?_)
     ·exact ⟨hb6.cell 0,hb6.cell 1,hb6.cell 2,hb6.cell 3,hb6.cell 4,hb6.cell 5,hb6.cell 6,hb6.cell 7,hb6.cell 8,hb6.cell 9,hb6.cell 10⟩
     clear hK K;(try simp only [y_,z_]);refine wpT 14 ?_;(try simp only [y_,z_]);refine wpT 15 ?_;(try simp only [y_,z_]);refine aD_ (by kernel_rfl) ?_ _;go_wp2_with fail
     go_meet
     case rel=>exact ⟨by rw [←HE.out],h6⟩
    case rest =>
     clear CL CR HE hl1 hl2;obtain ⟨rfl,hwc⟩:=hcut;have HUC:=h_ (HU4.out.then_non hwc);have HBC:=h_ (HB4.out.upd hwc (fun f=>f));obtain ⟨m,Hm⟩:=nm r.conds.length;obtain ⟨ca,Hca⟩:=nm a.ca;have hm6:m≤6:=by rw [←Hm.out];exact HF.out.few
     obtain ⟨pre,Hpre⟩:=nm (bs++hdF r);have hpl:pre.length≤2000 * k+1600:=by rw [←Hpre.out,List.length_append];omega
     rw [Hpre.out];clear hwc;go_wp2_with fail
     go_loopg [3,6] m (fun g v iv wq=>∃(q:Nat) (b3:Bs),Hid (g=m - q)∧q≤m∧iv=.int .i64 q∧v=.string (kstr b3)∧Hid (b3=pre++fmtCs (r.conds.take q) true)∧b3.length≤pre.length+50 * q∧Hid (Upd Non wc wq))
     case atStart=>exact ⟨0,pre,rfl,Nat.zero_le _,rfl,rfl,by show _=_;simp [fmtCs],by omega,Upd.refl⟩
     case round =>
      obtain ⟨q,b3,Hgq,hq,rfl,rfl,HB3,hb3l,HUQ⟩:=hrel;have hbq:=HBC.out.upd HUQ.out (fun f=>f);unfold rlCells at hbq;have c11:=hbq.cell 11;rw [Hm.out,Hca.out] at c11;have HUQ2:=h_ (HUC.out.then_non HUQ.out);obtain ⟨s3,Hs3⟩:=nm (kstr b3);have hs3:s3.size≤10000000000:=by rw [←Hs3.out,kstr_size];omega
      rw [Hs3.out];clear hbq;by_cases hqt:q<m
      ·have hql:q<r.conds.length:=by rw [Hm.out];exact hqt
       have htk:=(HRW.out.c.upd HUQ2.out (fun _ _ _ f=>f)).take hql;rw [Hca.out] at htk;obtain ⟨b',o',rfl,hbw',y0,y1,y2,y3⟩:=htk;have HCF:=h_ (HF.out.c _ (List.getElem_mem hql));have HTC:Hid (r.conds.take (q+1)=r.conds.take q++[r.conds[q]]):=take_snoc' hql;generalize r.conds[q]=cd at *;have CFC:=h_ (xFmtCond_c cd HCF.out wr);have hfl:=fmtC_len HCF.out;have hzc:(kstr (fmtC cd)).size≤40:=ksz hfl;have HKC:Hid (kx (kstr (fmtC cd))=fmtC cd):=kx_kstr _;obtain ⟨fc,Hfc⟩:=nm (kstr (fmtC cd));rw [Hfc.out] at CFC hzc;by_cases hq0:q=0
       ·have tq:((q:Int)==0)=true:=by simp;omega
        have HE:Hid ((s3++({ data:=#[32,105,102,32] }:ByteArray))++fc=kstr (b3++((if true&&(r.conds.take q).isEmpty then [32,105,102,32] else [44,32])++fmtC cd))):=by
         show _=_;rw [show (true&&(r.conds.take q).isEmpty)=true by rw [hq0];rfl,if_pos rfl,←Hs3.out,←Hfc.out,show ({ data:=#[32,105,102,32] }:ByteArray)=kstr [32,105,102,32] from rfl,kstr_app,kstr_app,List.append_assoc]
        clear hq0;go_wp2_with fail
        refine CFC.out.mono ?_;rintro e w8 ⟨rfl,hu8⟩;clear CFC y0 y1 y2 y3;go_wp2_with fail
        go_roundg (m - (q+1))
        case measure=>rw [Hgq.out];omega
        case rel =>
         refine ⟨q+1,b3++((if true&&(r.conds.take q).isEmpty then [32,105,102,32] else [44,32])++fmtC cd),rfl,by omega,by go_num,by rw [HE.out],?_,?_,HUQ.out.then_non hu8⟩
         ·show _=_;rw [HTC.out,fmtCs_snoc,HB3.out,List.append_assoc]
         ·have hi4:(if true&&(r.conds.take q).isEmpty then [32,105,102,32] else ([44,32]:Bs)).length≤4:=by split <;> simp
          rw [List.length_append,List.length_append];omega
       ·have tq:((q:Int)==0)=false:=by simp;omega
        have HE:Hid ((s3++({ data:=#[44,32] }:ByteArray))++fc=kstr (b3++((if true&&(r.conds.take q).isEmpty then [32,105,102,32] else [44,32])++fmtC cd))):=by
         show _=_;rw [show (true&&(r.conds.take q).isEmpty)=false by rw [Bool.true_and,List.isEmpty_eq_false_iff];intro ht;have:=congrArg List.length ht;rw [List.length_take] at this;simp only [List.length_nil] at this;omega,if_neg (by decide),←Hs3.out,←Hfc.out,show ({ data:=#[44,32] }:ByteArray)=kstr [44,32] from rfl,kstr_app,kstr_app,List.append_assoc]
        clear hq0;go_wp2_with fail
        refine CFC.out.mono ?_;rintro e w8 ⟨rfl,hu8⟩;clear CFC y0 y1 y2 y3;go_wp2_with fail
        go_roundg (m - (q+1))
        case measure=>rw [Hgq.out];omega
        case rel =>
         refine ⟨q+1,b3++((if true&&(r.conds.take q).isEmpty then [32,105,102,32] else [44,32])++fmtC cd),rfl,by omega,by go_num,by rw [HE.out],?_,?_,HUQ.out.then_non hu8⟩
         ·show _=_;rw [HTC.out,fmtCs_snoc,HB3.out,List.append_assoc]
         ·have hi4:(if true&&(r.conds.take q).isEmpty then [32,105,102,32] else ([44,32]:Bs)).length≤4:=by split <;> simp
          rw [List.length_append,List.length_append];omega
      ·obtain rfl:m=q:=by omega
       have HT:Hid (b3++[59,10]=fmtRs (L.take (k+1))):=by
        show _=_;rw [HTK.out,fmtRs_snoc,fmtR_hd,HB3.out,←Hpre.out,HB.out,←Hm.out,List.take_length];simp
       have HE:Hid (s3++({ data:=#[59,10] }:ByteArray)=kstr (fmtRs (L.take (k+1)))):=by
        show _=_;rw [←HT.out,←Hs3.out,show ({ data:=#[59,10] }:ByteArray)=kstr [59,10] from rfl,kstr_app]
       have HIA:Hid (∀x∈L.take (k+1),implF x=true):=fun x hx=>by
        rw [HTK.out] at hx;rcases List.mem_append.1 hx with hx | hx
        ·exact HI2.out x hx
        ·rw [List.mem_singleton] at hx;subst hx;exact Hv.out
       go_wp2_with fail
       go_roundg (n - (k+1))
       case measure=>rw [Hg.out];omega
       case rel =>
        refine ⟨k+1,fmtRs (L.take (k+1)),rfl,by omega,by go_num,by rw [HE.out],rfl,?_,HIA,HUQ2.out⟩;have:=fmtRs_len (L:=L.take (k+1)) (fun x hx=>impl_fm (HIA.out x hx) (HI.out x (List.mem_of_mem_take hx)));rw [List.length_take] at this;omega
  ·obtain rfl:n=k:=by omega
   have HE:Hid (kstr bs=res):=by
    show _=_;rw [←Hres.out,HB.out];unfold printF;have h1:=HI2.out;rw [←Hn.out,List.take_length] at h1 ⊢;rw [if_pos (List.all_eq_true.2 h1)]
   rw [HE.out];go_wp2_with fail
   go_ret;exact ⟨rfl,HU.out⟩
section
variable {T:List (Bs×Nat)} {fin n:Nat} {s:Bs} {x y:Xs}
variable {ax:Bs→Option Rl} {R:Except Er (List Rl)} {Q:List Rl} {fu tp:Nat} {rl:Rl}
end
section
variable {w0 w w':World} {p:Nat} {A:Option Addr} {c:Nat} {T:List (Bs×Nat)} {fin:Nat} {y y':Xs} {OA:Option Addr} {oc:Nat} {Q:List Rl}
end
section
variable {T:List (Bs×Nat)} {fin n:Nat} {ax:Bs→Option Rl}
end
end Go.Proofs.YtblkgjdhaibhgaaGreat
namespace Go.Proofs.YtblkgjdhaibhgaaGreat
open Go.RowKit Go.WideShapes Go.ChangeShapes
section
variable {H:Type} {enc:TypeId×Value→H} {P:Program}
theorem post_of_below {f:Func} {s:ChangeSpec} {apart fresh handsOn again:Bool} {W W':World} {args:Array Value} {v:Value} {ds gs:List (DataW H)} {before pa pv:List MemPlace}
  (hW:DataW.Whole enc P f.params.toList s.vars apart W args.toList ds gs before)
  (hres:∀(b:Nat) (sp:Nat→Bool) (hd:Bool),DataW.TrodAll enc P W' b sp hd f.resultTypes.toList (v.resultList f.resultTypes.size) (s.fn H (ds++gs)).results [])
  (hargs:∀sp:Nat→Bool,(∀p∈before,sp p.block=true)→DataW.TrodAll enc P W' 0 sp true f.params.toList args.toList (s.fn H (ds++gs)).args pa)
  (hvars:∀sp:Nat→Bool,(∀p∈before,sp p.block=true)→DataW.TrodVars enc P W' sp s.vars (s.fn H (ds++gs)).vars pv)
  (hps:before=pa++pv) (hb:Below W.heap.size W W')
  (hok:∀(j:Nat) (t:TypeId) (r:Value),f.resultTypes[j]?=some t→(v.resultList f.resultTypes.size)[j]?=some r→Value.okWide P W' .any 0 t r) :
  s.post enc P f apart fresh handsOn again W args v W':=by
 have hlt:∀p∈before,p.block<W.heap.size:=fun p hp=>hW.lt p hp
 have hold:∀p∈before,(fun b=>decide (b<W.heap.size)) p.block=true:=fun p hp=>by simpa using hlt p hp
 refine ⟨ds,gs,before,[],pa,pv,hW,hres _ _ _,hargs _ hold,hvars _ hold,World.keptBut_mono (fun p hp=>⟨hp,?_⟩) (hb.frame (·∈before)),fun _=>?_⟩
 ·rw [hps,List.mem_append] at hp;exact Or.inr hp
 ·obtain ⟨_,_,_,_,_,hz,hn⟩:=hW;refine ⟨hok,_,_,([]++pa)++pv,⟨[]++pa,pv,trodAll_append (hargs _ (fun _ _=>rfl)) (hres _ _ _),hvars _ (fun _ _=>rfl),rfl,?_,?_⟩,?_⟩
  ·intro b off hp;have hin:MemPlace.cell b off∈before:=by rw [hps];simpa using hp
   rw [hb.frozen (hlt _ hin)];exact hz b off hin
  ·intro ha;have:=hn ha;rw [hps] at this;simpa using this
  ·intro p hp _;rw [hps];simpa using hp
theorem trodAll_stays (hl:laidOutB P=true) {W W':World} {sp:Nat→Bool}:∀{ts:List TypeId} {vs:List Value} {ds:List (DataW H)} {ps:List MemPlace},
  (ts.all fun t=>P.readableRec t&&decide (t<P.types.size))=true→DataW.TrodAll enc P W 0 (fun _=>true) true ts vs ds ps→(∀p∈ps,W.sameAt W' p)→(∀p∈ps,sp p.block=true)→DataW.TrodAll enc P W' 0 sp true ts vs ds ps
 | [],vs,ds,ps,_,h,_,_=>by
  obtain ⟨rfl,rfl,rfl⟩:=trodAll_nil h;exact trodAll_mk0
 | t::ts,vs,ds,ps,ht,h,h1,h2=>by
  obtain ⟨v,vs',d,ds',p,q,rfl,rfl,rfl,hp,hq⟩:=trodAll_cons h;simp only [List.all_cons,Bool.and_eq_true,decide_eq_true_eq] at ht
  exact trodAll_cons_mk (WideElems.Trod_stays hl ht.1.1 ht.1.2 hp (fun x hx=>h1 x (by simp [hx])) (fun x hx=>h2 x (by simp [hx])))
   (trodAll_stays hl ht.2 hq (fun x hx=>h1 x (by simp [hx])) (fun x hx=>h2 x (by simp [hx])))
theorem law_post {f:Func} {s:ChangeSpec} {apart fresh handsOn again:Bool} {W W':World} {args:Array Value} {ds gs:List (DataW H)} {before:List MemPlace} {tb:TypeId}
  (hW:DataW.Whole enc P f.params.toList s.vars apart W args.toList ds gs before) (hl:laidOutB P=true) (hts:(f.params.toList.all fun t=>P.readableRec t&&decide (t<P.types.size))=true) (hv:s.vars=[])
  (hrt:f.resultTypes=#[tb]) (hbool:P.underlying tb=some .bool) (hs:s.fn H (ds++gs)={ results:=[.lit (.bool true)],args:=ds }) (hb:Below W.heap.size W W') :
  s.post enc P f apart fresh handsOn again W args (.bool true) W':=by
 have hW2:=hW;obtain ⟨p,q,hA,hV,rfl,hz,hn⟩:=hW;rw [hv] at hV;obtain ⟨rfl,rfl⟩:=trodVars_none hV;have hlt:∀x∈p,x.block<W.heap.size:=fun x hx=>hW2.lt x (by simpa using hx)
 refine post_of_below (pa:=p) (pv:=[]) hW2 (fun b sp hd=>?_) (fun sp hsp=>?_) (fun sp hsp=>?_) rfl hb ?_
 ·rw [hs,hrt];exact trodAll_mk1 (shut_bool hbool true)
 ·rw [hs];exact trodAll_stays hl hts hA (fun x hx=>hb.same (hlt x hx)) (fun x hx=>hsp x (by simpa using hx))
 ·rw [hs,hv];rfl
 ·intro j t r h1 h2;rw [hrt] at h1 h2
  match j,h1 with
  | 0,h1 =>
   simp at h1;subst h1;simp [Value.resultList] at h2;subst h2;exact okWide_bool_mk hbool true
end
theorem own_:ownKnob Tryz.prog.godebug=none:=by kernel_rfl
theorem laidOut_:laidOutB Tryz.prog=true:=by kernel_rfl
end Go.Proofs.YtblkgjdhaibhgaaGreat
namespace Go.Proofs.YtblkgjdhaibhgaaGreat
open Go.RowKit Go.WideShapes Go.ChangeShapes Go.ChangeAt
section
variable {H:Type} {enc:TypeId×Value→H} {P:Program} {w:World}
theorem i64_of_wf {n:Int} (h:(Lit.int .i64 n).wf=true):I64 n:=by
 have h1:IntKind.i64.min = -9223372036854775808:=rfl;have h2:IntKind.i64.max=9223372036854775807:=rfl;simp only [Lit.wf,Bool.and_eq_true,decide_eq_true_eq] at h;unfold I64;omega
theorem open_i64 {r:Reach} {b0 base:Nat} {sp:Nat→Bool} {held:Bool} {t:TypeId} {v:Value} {d:DataW H} {ps:List MemPlace} (ht:P.underlying t=some (.int .i64)) (hval:Value.okWide P w r b0 t v) (hd:DataW.Trod enc P w base sp held t v d ps) :
  ∃n,v=.int .i64 n∧I64 n:=by
 obtain ⟨n,h1,_,_,h2⟩:=open_int ht hval hd;exact ⟨n,h1,i64_of_wf h2⟩
theorem open_intsV {r:Reach} {b0 base:Nat} {sp:Nat→Bool} {held:Bool} {t e:TypeId} {v:Value} {d:DataW H} {ps:List MemPlace} (ht:P.underlying t=some (.slice e)) (he:P.underlying e=some (.int .i64)) (hc:P.cellsOf e=1) (hby:P.bytesOf e=8)
  (hval:Value.okWide P w r b0 t v) (hd:DataW.Trod enc P w base sp held t v d ps)
  {ts:List TypeId} {ds:List (DataW H)} (hsz:(DataW.weightsEach P ts ds).all (·≤reachBytes)=true) {j:Nat} (htj:ts[j]?=some t) (hdj:ds[j]?=some d) :
  ∃A c xs,v=.slice A xs.length c∧xs.length≤c∧Ints w (fun _=>True) A xs∧(∀x∈xs,I64 x)∧xs.length≤20000000000000:=by
 obtain ⟨a0,len,cap,rfl⟩:=okWide_slice ht hval;obtain ⟨fuel,hf⟩:=hd;rcases open_ints ht he hc hf with ⟨hcs,hx⟩ | ⟨a,len',cap',zs,hcs,_,hl,hm,hz,hx,hcell,hwz⟩
 ·simp [Value.cells] at hcs;obtain ⟨rfl,rfl,rfl⟩:=hcs;exact ⟨none,0,[],rfl,by simp,.inl rfl,by simp,by simp⟩
 ·simp [Value.cells] at hcs;obtain ⟨rfl,rfl,rfl⟩:=hcs;simp only [Prod.mk.injEq] at hx;obtain ⟨rfl,rfl⟩:=hx;have hzl:len≤zs.length:=by rw [hz];split <;> omega
  have hlen:(zs.take len).length=len:=by simp;omega
  refine ⟨some a,cap,zs.take len,by rw [hlen],by omega,?_,fun x hx=>i64_of_wf (hwz x (List.mem_of_mem_take hx)),?_⟩
  ·by_cases h0:len=0
   ·subst h0;exact .inl (by simp)
   ·obtain ⟨b,off,spot⟩:=a;have hspot:spot=none:=by simpa [Addr.add] using World.cell?_spot (hcell 0 (by omega))
    subst hspot;refine .inr ⟨b,off,rfl,trivial,fun k hk=>?_⟩;have hk':k<zs.length:=by simp at hk;omega
    have:=hcell k hk';rw [Addr.add_lit] at this;rw [this];simp [List.getD,hk']
  ·have:=sized_slice hsz htj hdj ht;rw [hby] at this;simp only [lits,List.length_map,List.length_take,List.length_drop,reachBytes] at this;rw [hlen];omega
end
theorem cells_int:Tryz.prog.cellsOf 3=1:=by kernel_rfl
theorem bytes_int:Tryz.prog.bytesOf 3=8:=by kernel_rfl
section
variable {w w':World} {F G K S:Nat→Prop} {A:Option Addr} {L M:List Rl} {n c:Nat} {cs ds:List Value}
theorem rlCells_one (r:Rl) (a:RlA):∀u∈(rlCells r a).toList,u.oneCell'=true:=by
 intro u hu;simp [rlCells] at hu;rcases hu with h | h | h | h | h | h | h | h | h | h | h | h | h | h <;> subst h <;> rfl
theorem RlsV.cells (h:RlsV w F A L):∃cs,Sl w F A cs∧RsCells w F cs L∧∀u∈cs,u.oneCell'=true:=by
 rcases h with h | ⟨b,o,e,hF,h⟩
 ·subst h;exact ⟨[],.inl rfl,RsCells.nil,fun u hu=>by cases hu⟩
 ·have key:∀k,k≤L.length→∃cs:List Value,RsCells w F cs (L.take k)∧(∀j (hj:j<cs.length),w.cell? ⟨b,o+j,none⟩=some cs[j])∧∀u∈cs,u.oneCell'=true:=by
   intro k
   induction k with
   | zero=>intro _;exact ⟨[],RsCells.nil,fun j hj=>absurd hj (Nat.not_lt_zero _),fun u hu=>by cases hu⟩
   | succ k ih =>
    intro hk;obtain ⟨cs,h1,h2,h3⟩:=ih (by omega);obtain ⟨a,ha,hr⟩:=h k (by omega);have hl:=h1.1;rw [List.length_take,Nat.min_eq_left (by omega)] at hl;refine ⟨cs++(rlCells L[k] a).toList,?_,fun j hj=>?_,fun u hu=>?_⟩
    ·rw [take_snoc' (show k<L.length by omega)];exact h1.snoc hr
    ·by_cases hlt:j<cs.length
     ·rw [List.getElem_append_left hlt];exact h2 j hlt
     ·obtain ⟨i,rfl⟩:∃i,j=cs.length+i:=⟨j - cs.length,by omega⟩;have hi:i<14:=by simp [rlCells] at hj;omega
      rw [List.getElem_append_right (by omega)];simp only [Nat.add_sub_cancel_left];obtain ⟨c0,c1,c2,c3,c4,c5,c6,c7,c8,c9,c10,c11,c12,c13⟩:=ha;have e2:o+(cs.length+i)=o+k * 14+i:=by omega
      rw [e2];rcases (by omega:i=0∨i=1∨i=2∨i=3∨i=4∨i=5∨i=6∨i=7∨i=8∨i=9∨i=10∨i=11∨i=12∨i=13) with rfl | rfl | rfl | rfl | rfl | rfl | rfl | rfl | rfl | rfl | rfl | rfl | rfl | rfl
      ·exact c0
      ·exact c1
      ·exact c2
      ·exact c3
      ·exact c4
      ·exact c5
      ·exact c6
      ·exact c7
      ·exact c8
      ·exact c9
      ·exact c10
      ·exact c11
      ·exact c12
      ·exact c13
    ·rcases List.mem_append.1 hu with hu | hu
     ·exact h3 u hu
     ·exact rlCells_one _ _ u hu
  obtain ⟨cs,h1,h2,h3⟩:=key L.length (Nat.le_refl _);rw [List.take_length] at h1;exact ⟨cs,.inr ⟨b,o,e,hF,h2⟩,h1,h3⟩
end
end Go.Proofs.YtblkgjdhaibhgaaGreat
