/-
  Lemmas and walks that the claim rests on, part 5 (packed by a program).
-/
import Derived.Test.YtblkgjdhaibhgaaGreatR3
namespace Go.Proofs.YtblkgjdhaibhgaaGreat
open Go.RowKit
theorem hcf78:∀(args:Array Value) (w:World),(callFunc 116 args).run Tryz.prog w=.ok (.enter 116 args) w:=fun args w=>by
 simp [callFunc,Tryz.func116,Tryz.f116]
theorem oper_len {left:Bool} {s:Bs} {x ps:PS} {q:Pt} (h:operF left s x=some (q,ps)):ps.vs.length≤x.vs.length+1∧ps.ms.length≤x.ms.length+1:=by
 unfold operF at h;dsimp only at h
 split at h
 ·
  cases h
 ·
  split at h
  ·
   cases h
  ·
   split at h
   ·
    injection h with h;injection h with _ h;subst h;exact ⟨Nat.le_succ _,Nat.le_succ _⟩
   ·
    split at h
    ·
     injection h with h;injection h with _ h;subst h;exact ⟨Nat.le_succ _,Nat.le_succ _⟩
    ·
     split at h
     ·
      split at h
      ·
       injection h with h;injection h with _ h;subst h;exact ⟨Nat.le_succ _,lookF_len _ _ _⟩
      ·
       cases h
     ·
      cases h
set_option maxRecDepth 100000 in
set_option maxHeartbeats 4000000 in
theorem rApplication_c {L:List Tok} {T:List (Bs×Nat)} {fin:Nat} (hL:LOk L T fin) (left:Bool) (f:Nat)
  (HT:Hid (∀{w:World} {p:Nat} {A:Option Addr} {c:Nat} {x:St},RdS w p A c L x→Good T x→x.left=left→x.why=0→T.length<x.i+f→Calls Tryz.prog 64 #[.pointer (some ⟨p,0,none⟩)] w (TermP T w p A c L x (termF T fin left f (psOf x)))))
  {w:World} {p:Nat} {A:Option Addr} {c:Nat} {x:St} (h:RdS w p A c L x) (hx:Good T x) (hl:x.left=left) (h0:x.why=0) (hf:T.length<x.i+f) :
  Calls Tryz.prog 94 #[.pointer (some ⟨p,0,none⟩)] w (TermP T w p A c L x (appF T fin left f (psOf x))):=by
 have hiL:x.i<L.length:=by have:=hL.lt;have:=hx.1;omega
 have hLl:=hL.len;obtain ⟨W1,HW1⟩:=nm (w.alloc (.cells #[.pointer (some ⟨p,0,none⟩)] 54))
 have u1:Upd Non w W1:=by rw [←HW1.out];exact Upd.refl.alloc _
 have b1:Blk W1 w.heap.size 54 #[.pointer (some ⟨p,0,none⟩)]:=by rw [←HW1.out];exact Blk.new _ _ _
 have s1:W1.heap.size=w.heap.size+1:=by rw [←HW1.out];simp
 obtain ⟨W2,HW2⟩:=nm (W1.alloc (.cells #[.int .i64 0,.int .i64 0,.int .i64 0,.int .i64 0,.slice none 0 0] 40))
 have u2:Upd Non W1 W2:=by rw [←HW2.out];exact Upd.refl.alloc _
 have b2:Blk W2 (w.heap.size+1) 40 (p0 (.mk 0 0 0 0 [])):=by rw [←HW2.out,←s1];exact Blk.new _ _ _
 have s2:W2.heap.size=w.heap.size+2:=by rw [←HW2.out];simp [s1]
 obtain ⟨W3,HW3⟩:=nm (W2.alloc (.cells #[.int .i64 0,.int .i64 0,.int .i64 0,.int .i64 0,.slice none 0 0] 40))
 have u3:Upd Non W2 W3:=by rw [←HW3.out];exact Upd.refl.alloc _
 have b3:Blk W3 (w.heap.size+2) 40 (p0 (.mk 0 0 0 0 [])):=by rw [←HW3.out,←s2];exact Blk.new _ _ _
 have s3:W3.heap.size=w.heap.size+3:=by rw [←HW3.out];simp [s2]
 have e1:=HW1.out;have e2:=HW2.out;have e3:=HW3.out;have U3:Upd Non w W3:=(u1.then_non u2).then_non u3;have b1:=b1.upd (u2.then_non u3) (fun f=>f);have b2:=b2.upd u3 (fun f=>f);have h3:=h.non U3
 have hown:∀j,x.own p j→j<w.heap.size:=fun j hj=>h.lt hj
 have hpw:p<w.heap.size:=h.blk.lt
 have hwn:x.vs.length≤100000∧x.ms.length≤100000:=by have:=hx.2 h0;have:=hx.1;have:=hL.lt;omega
 have d0:=b1.cell 0;have H3:=Lib.hid h3;have HX:=Lib.hid hx;have HX3:=Lib.hid b1;have HR3:=Lib.hid b2;have HG3:=Lib.hid b3;have HU3:=Lib.hid U3
 have CW:=Lib.hid (rWord_c H3.out hiL hLl (hL.ne' hiL HX.out.1) 116 #[.pointer (some ⟨w.heap.size,0,none⟩),.pointer (some ⟨w.heap.size+2,0,none⟩)] hcf78
  (fun bb x2 w1 w2=>∃q,q.kids=[]∧Blk w2 (w.heap.size+2) 40 (p0 q)∧(∀k,x2.own p k→x.own p k∨w1.heap.size≤k)∧x2.left=x.left∧Upd (fun k=>x.own p k∨k=w.heap.size+2) w1 w2∧(bb=true→∃ps,operF left L[x.i].s (psOf x)=some (q,ps)∧ps.i=x.i∧x2.vs=ps.vs∧x2.ms=ps.ms)∧(bb=false→operF left L[x.i].s (psOf x)=none))
  (fun hok w1 u01=>by
   rw [hL.word HX.out.1,Bool.and_eq_true,beq_iff_eq] at hok;obtain ⟨sw,hsw⟩:=Option.isSome_iff_exists.1 hok.2;obtain ⟨f1,f2,f3,f4,f5,f6,f7⟩:=hL.at_ hiL hsw
   refine (rApplication1_c (H3.out.non u01) hwn.2 L[x.i].s (by rw [f1];omega) (.mk 0 0 0 0 []) (HG3.out.upd u01 (fun f=>f)) (HX3.out.upd u01 (fun f=>f)) (fun q=>by have:=hown _ q;omega) (by omega)).mono ?_
   rintro e w2 ⟨q,b,y,rfl,k1,k2,k3,k4,k5,k6,k7⟩;rw [hl] at k6 k7
   exact ⟨b,y,rfl,k3,k4.i,k4.why.trans hok.1,k5.mono (fun k _ r=>by rcases r with r | r;have:=hown _ r;omega;omega),k4.own,q,k1,k2,k4.own,k4.left,k5,k6,k7⟩))
 clear h h3 b1 b2 b3 u1 u2 u3 U3 HW1 HW2 HW3 hx;go_enter Tryz.func94,Tryz.ntmps94
 go_wp2_with fail
 refine CW.out.mono ?_;rintro e w5 hwd;have HWD:=Lib.hid hwd;clear hwd CW;obtain ⟨r0,Hr0⟩:=nm (wrdF T fin (operF left) (psOf x))
 obtain ⟨q0,y0,ev,hq5,hqk,hy5,hgy,hyl,hyo,hu5,hrs⟩:∃(q:Pt) (y:St),(∃v,e=.returned v)∧Blk w5 (w.heap.size+2) 40 (p0 q)∧q.kids=[]∧RdS w5 p A c L y∧Good T y∧y.left=x.left∧(∀k,y.own p k→x.own p k∨W3.heap.size≤k)∧Upd (fun k=>x.own p k∨k=w.heap.size+2∨k=W3.heap.size) W3 w5∧ResS x y r0 (fun v=>v=q∧x.i+1≤y.i):=by
  have hpos:=hL.pos HX.out.1
  rcases HWD.out with ⟨hok,bb,x2,w1,w2,u01,⟨q,hqk,hqb,hqo,hql,hqu,ht,hff⟩,hi2,hw2,_,u2,rfl,hR⟩ | ⟨hok,rfl,hR,hu⟩
  ·
   rw [hL.word HX.out.1,Bool.and_eq_true,beq_iff_eq] at hok;obtain ⟨sw,hsw⟩:=Option.isSome_iff_exists.1 hok.2;obtain ⟨f1,f2,f3,f4,f5,f6,f7⟩:=hL.at_ hiL hsw;rw [f1] at ht hff;have hwr:=Hr0.out.symm;rw [wrd_eq,show (psOf x).i=x.i from rfl,hsw] at hwr;dsimp only at hwr;have hsz:=u01.size;have hqb5:Blk w5 (w.heap.size+2) 40 (p0 q):=hqb.upd u2 (by omega)
   have hu5:Upd (fun k=>x.own p k∨k=w.heap.size+2∨k=W3.heap.size) W3 w5:=(u01.mono (fun _ _ f=>f.elim)).trans ((hqu.mono (T:=fun k=>x.own p k∨k=w.heap.size+2∨k=W3.heap.size) (fun _ _ h=>by rcases h with h | h;exact .inl h;exact .inr (.inl h))).trans u2 (fun _ _ h=>by rcases h with h | h;exact .inl (.inl h);exact .inr (.inr h))) (fun _ _ h=>h)
   have ho5:∀k,x2.own p k→x.own p k∨W3.heap.size≤k:=fun k hk=>(hqo k hk).imp_right (fun r=>Nat.le_trans u01.size r)
   cases bb with
   | true =>
    obtain ⟨ps,ha,hpi,hvs,hms⟩:=ht rfl;rw [ha] at hwr;have hgx:=HX.out.2 hok.1;have hol:=oper_len ha;refine ⟨q,{ x2 with i:=x.i+1 },⟨_,rfl⟩,hqb5,hqk,hR,⟨f5,fun _=>?_⟩,hql,ho5,hu5,fun _=>?_,fun q=>absurd hok.1 q⟩
    ·
     show x2.vs.length≤x.i+1∧x2.ms.length≤x.i+1;rw [hvs,hms];have : (psOf x).vs.length=x.vs.length:=rfl;have : (psOf x).ms.length=x.ms.length:=rfl;omega
    ·
     rw [hwr];refine ⟨hw2,?_,rfl,Nat.le_refl _⟩;show (⟨x.i+1,x2.vs,x2.ms⟩:PS)=⟨x.i+1,ps.vs,ps.ms⟩;rw [hvs,hms]
   | false =>
    rw [hff rfl] at hwr
    refine ⟨q,x2.fail 2 (posT L x.i),⟨_,rfl⟩,hqb5,hqk,hR,Good.fail (by rw [hi2];omega) (by decide),by rw [fail_left];exact hql,fun k hk=>ho5 k ((fail_own _ _ _ _ _).1 hk),hu5,fun _=>?_,fun q=>absurd hok.1 q⟩
    rw [hwr,fail_zero hw2,hpos];exact ⟨rfl,rfl⟩
  ·
   refine ⟨.mk 0 0 0 0 [],x.fail 2 (posT L x.i),⟨_,rfl⟩,HG3.out.upd hu (by omega),rfl,hR,Good.fail HX.out.1 (by decide),fail_left _ _ _,fun k hk=>.inl ((fail_own _ _ _ _ _).1 hk),hu.mono (fun _ _ h=>.inl (.inl h)),fun h0=>?_,fun h1=>absurd h0 h1⟩
   rw [hL.word HX.out.1,h0] at hok;have hwr:=Hr0.out.symm;rw [wrd_eq,show (psOf x).i=x.i from rfl] at hwr
   cases hk:wkF T x.i with
   | none =>
    rw [hk] at hwr;rw [hwr,fail_zero h0,hpos];exact ⟨rfl,rfl⟩
   | some sw=>rw [hk] at hok;cases hok
 obtain ⟨v,rfl⟩:=ev;clear HWD
 have HS:Hid (AppS w w5 p A c L x y0 (p0 q0)):=by
  refine ⟨hy5,HX3.out.upd hu5 (fun q=>?_),HR3.out.upd hu5 (fun q=>?_),hq5,fun k hk=>(hyo k hk).imp_right (fun r=>by omega),hown,(HU3.out.mono (fun _ _ f=>f.elim)).trans hu5 (fun j hj r=>?_)⟩
  ·
   rcases q with q | q | q
   ·
    have:=hown _ q;omega
   ·
    omega
   ·
    omega
  ·
   rcases q with q | q | q
   ·
    have:=hown _ q;omega
   ·
    omega
   ·
    omega
  ·
   rcases r with r | r | r
   ·
    exact r
   ·
    omega
   ·
    omega
 have HR0:Hid (ResS x y0 (wrdF T fin (operF left) (psOf x)) (fun v=>v=q0∧x.i+1≤y0.i)):=by show ResS _ _ _ _;rw [Hr0.out];exact hrs
 unfold p0 at hq5;have z1:=hq5.cell 1;obtain ⟨n,Hn⟩:=nm ((arF q0.op).getD 0);have CA:=Lib.hid (rArity_c q0.op w5);rw [Hn.out] at CA
 have hn3:n≤3:=by rw [←Hn.out];exact arF_le _
 have HG:=Lib.hid hgy;have HYL:Hid (y0.left=left):=hyl.trans hl;clear hq5 hy5 hgy hyo hu5 hrs hyl d0 e1 e2 e3 Hr0 H3 HX3 HR3 HG3 HU3
 go_wp2_with fail
 refine CA.out.mono ?_;rintro e wa ⟨rfl,rfl⟩;clear CA z1
 go_wp2_with fail
 go_loopg [6] n (fun g i wr=>∃(j:Nat) (Ak:Option Addr) (ck:Nat) (ks:List Pt) (y:St),Hid (g=n - j)∧j≤n∧i=.int .i64 j∧Hid (AppS w wr p A c L x y #[.int .i64 q0.v,.int .i64 q0.op,.int .i64 q0.imm,.int .i64 q0.iv,.slice Ak j ck])∧Hid (KO (w.heap.size+3) p wr y Ak j ck ks)∧Hid (Good T y)∧Hid (y.left=left)∧Hid (ResS y0 y (kidsF (termF T fin left f) j (psOf y0)) (fun v=>v=ks))∧Hid (y.why=0→Pt.sizeL ks+y0.i≤y.i))
 case atStart=>exact ⟨0,none,0,[],y0,rfl,Nat.zero_le _,rfl,HS.out,KO.nil,HG.out,HYL.out,⟨fun h=>⟨h,rfl,rfl⟩,fun h=>⟨rfl,rfl⟩⟩,fun _=>by show Pt.sizeL []+y0.i≤y0.i;simp [Pt.sizeL]⟩
 case round =>
  obtain ⟨j,Ak,ck,ks,y,Hg,hj,rfl,HS1,HK,HG1,HL1,HR,HZ⟩:=hrel;obtain ⟨D,HD⟩:=nm (decide (j<n)&&(y.why==0))
  have hyi:y.i<L.length:=by have:=hL.lt;have:=HG1.out.1;omega
  have d0:=HS1.out.box.cell 0;clear HS HG HYL
  go_upto_region 5 with fail
  go_cut [22] (fun s wx=>s=.bool D∧wx=wr)
  case first =>
   have CO:=Lib.hid (rOk_c HS1.out.rd);obtain ⟨bw,Hbw⟩:=nm (y.why==0);rw [Hbw.out] at CO HD
   by_cases hlt:j<n
   ·
    have tj:decide ((j:Int)<(n:Int))=true:=decide_eq_true (by omega)
    have hD:D=bw:=by rw [←HD.out,decide_eq_true hlt];rfl
    subst hD
    go_wp2_with fail
    refine CO.out.mono ?_;rintro e w2 ⟨rfl,rfl⟩
    go_wp2_with fail
    go_meet
    case rel=>exact ⟨rfl,rfl⟩
   ·
    have tj:decide ((j:Int)<(n:Int))=false:=decide_eq_false (by omega)
    have hD:D=false:=by rw [←HD.out,decide_eq_false hlt];rfl
    subst hD
    go_wp2_with fail
    go_meet
    case rel=>exact ⟨rfl,rfl⟩
  case rest =>
   obtain ⟨rfl,hwc⟩:=hcut;subst hwc;obtain ⟨wr,rfl⟩:∃v:World,v=wc:=⟨_,rfl⟩
   cases D with
   | true =>
    have hDD:=HD.out;simp only [Bool.and_eq_true,decide_eq_true_eq,beq_iff_eq] at hDD;have hlt:=hDD.1;have H0Y:Hid (y.why=0):=hDD.2
    have HFU:Hid (T.length<y.i+f):=by
     show T.length<y.i+f
     have h00:y0.why=0:=by
      by_cases q:y0.why=0
      ·
       exact q
      ·
       exact absurd ((HR.out.2 q).1 ▸ hDD.2) q
     have h1:=HZ.out hDD.2;have h2:=HR0.out.1 h0
     cases hw:wrdF T fin (operF left) (psOf x) with
     | error e=>rw [hw] at h2;exact absurd (h2.1 ▸ h00) (wrdF_err hw)
     | ok v=>rw [hw] at h2;have : x.i+1≤y0.i:=h2.2.2.2;omega
    have HG:=HG1;have HYL:=HL1;clear hDD HD
    go_upto_region 7 with fail
    obtain ⟨wD,HwD⟩:=nm wr.drew
    have uD:Upd Non wr wD:=by rw [←HwD.out];exact Upd.refl.drew
    have HS:=Lib.hid (HS1.out.non uD);have HK:=Lib.hid (HK.out.non uD)
    refine wp_region_held_drew (S:=fun w'=>w'.cell? ⟨w.heap.size,0,none⟩=some (.pointer (some ⟨p,0,none⟩))) (by kernel_rfl) (by rw [HwD.out];exact HS.out.box.cell 0) (fun hHeld=>?_)
    rw [HwD.out] at hHeld ⊢;clear d0 HS1;refine wpT 0 ?_
    try simp only [put_y,put_z]
    refine wpT 2 ?_
    try simp only [put_y,put_z]
    refine wpAnyH_ready (rs:=[1,3,5]) (by kernel_rfl) (by simp) ?_;refine AllReadyH.cons rfl (fun K hK=>?_) (AllReadyH.cons rfl (fun K hK=>?_) (AllReadyH.cons rfl (fun K hK=>?_) AllReadyH.nil))
    ·
     have d4:=HS.out.pat.cell 4;go_simp;refine hK.out _ _ ?_ (fun hHeld=>?_)
     ·
      exact HS.out.box.cell 0
     clear hK K
     try simp only [put_y,put_z]
     clear d4;refine wpT 4 ?_
     try simp only [put_y,put_z]
     refine wpAnyH_ready (rs:=[3,5]) (by kernel_rfl) (by simp) ?_;refine AllReadyH.cons rfl (fun K hK=>?_) (AllReadyH.cons rfl (fun K hK=>?_) AllReadyH.nil)
     ·
      go_simp
      have HLT0:Hid (∀k,At Ak k→k<_):=fun k r=>HK.out.1.lt r
      have HN1:=Lib.hid HS.out.le;have HLT:=HLT0;refine (HT.out HS.out.rd HG.out HYL.out H0Y.out HFU.out).mono ?_;rintro e w6 ⟨q,KA,kc,y',rfl,hq,hy',hg',hl',ho',hu',hres⟩;have HSO:=HS;have HS:=Lib.hid (HS.out.call hy' ho' hu');have HG2:=Lib.hid hg';have HL2:Hid (y'.left=left):=hl'.trans HYL.out;have HRS:=Lib.hid hres;have HQ:=Lib.hid hq
      have HK:=Lib.hid (HK.out.step HSO.out.rd hu' ho');clear hq hy' hg' hl' ho' hu' hres;unfold pv
      go_wp2_with fail
      refine hK.out _ _ ?_ (fun hHeld=>?_)
      ·
       exact HS.out.box.cell 0
      clear hK K
      try simp only [put_y,put_z]
      refine wpAnyH_ready (rs:=[5]) (by kernel_rfl) (by simp) ?_;refine AllReadyH.cons rfl (fun K hK=>?_) AllReadyH.nil;go_simp
      have HQ:=Lib.hid (PtK.upd (Upd.refl.alloc (.cells #[.int .i64 0,.int .i64 0,.int .i64 0,.int .i64 0,.slice none 0 0] 40) (S:=Non)) (fun _ _ _ f=>f) _ _ _ HQ.out)
      have HS:=Lib.hid (HS.out.non (Upd.refl.alloc (.cells #[.int .i64 0,.int .i64 0,.int .i64 0,.int .i64 0,.slice none 0 0] 40) (S:=Non)));have HK:=Lib.hid (HK.out.non (Upd.refl.alloc (.cells #[.int .i64 0,.int .i64 0,.int .i64 0,.int .i64 0,.slice none 0 0] 40) (S:=Non)));refine hK.out _ _ ?_ (fun hHeld=>?_)
      ·
       exact HS.out.box.cell 0
      clear hK K
      try simp only [put_y,put_z]
      refine wpAnyH_ready (rs:=[6]) (by kernel_rfl) (by simp) ?_;refine AllReadyH.cons rfl (fun K hK=>?_) AllReadyH.nil;obtain ⟨hkn,cs8,hko,hkc⟩:=id HK.out.1;have hjc:j≤ck:=hko.le;refine step_app rfl rfl T_pats rfl hko rfl (Sl.new _ _ _) rfl (by simp [Value.oneCell']) (by simp only [maxLen];omega) (by omega) ?_;intro A8 c8 w8 ho8 hu8 hat8
      have HK2:=Lib.hid (KO2.of hkn hkc HK.out.2 HS.out.le ho8 hu8 hat8);have HSP:=HS;have HS:=Lib.hid (HS.out.far hu8 HK.out.2 (HSP.out.rd.own_ne hko) hpw);have HQ8:=Lib.hid (PtK.past HQ.out HLT.out HN1.out hu8 hat8);clear hkn hko hkc ho8 hu8 hat8;refine hK.out _ _ ?_ (fun hHeld=>?_)
      ·
       exact HS.out.box.cell 0
      clear hK K
      try simp only [put_y,put_z]
      obtain ⟨g,rfl,hc5,hf5⟩:=HK2.out.some_
      have tj1:(j:Int)<(j:Int)+1:=by omega
      refine wpT 7 ?_
      try simp only [put_y,put_z]
      refine wpT 9 ?_
      try simp only [put_y,put_z]
      refine wpAnyH_ready (rs:=[8,10]) (by kernel_rfl) (by simp) ?_;refine AllReadyH.cons rfl (fun K hK=>?_) (AllReadyH.cons rfl (fun K hK=>?_) AllReadyH.nil)
      ·
       skip;have k0:=hc5 (j * 5) rfl 0 (by decide);have k1:=hc5 (j * 5) rfl 1 (by decide);have k2:=hc5 (j * 5) rfl 2 (by decide);have k3:=hc5 (j * 5) rfl 3 (by decide);have k4:=hc5 (j * 5) rfl 4 (by decide);rw [Nat.add_zero] at k0;unfold zs5 at k0 k1 k2 k3 k4;go_simp;rw [set5o_eq];have HK9:=Lib.hid (HK2.out.fin HQ8.out rfl (o:=j * 5) rfl)
       have HS:=Lib.hid (HS.out.far (set5o_upd _ _ (j * 5) (.int .i64 q.v) (.int .i64 q.op) (.int .i64 q.imm) (.int .i64 q.iv) (.slice KA q.kids.length kc)) (fun k e=>HK2.out.2.2 k (At.some_.2 e)) (fun k e=>HS.out.rd.own_ne (Classical.choose_spec HK2.out.2.1).1 k (At.some_.2 e)) hpw)
       refine hK.out _ _ ?_ (fun hHeld=>?_)
       ·
        exact HS.out.box.cell 0
       clear hK K
       try simp only [put_y,put_z]
       clear k0 k1 k2 k3 k4 hc5 hf5;refine wpAnyH_ready (rs:=[10]) (by kernel_rfl) (by simp) ?_;refine AllReadyH.cons rfl (fun K hK=>?_) AllReadyH.nil;have d4:=HS.out.pat.cell 4;have f4:=HS.out.pat.frozen 4;go_simp;obtain ⟨w9,e9,huu,hsk⟩:=HS.out.kids (.slice (some ⟨g,0,none⟩) (j+1) c8);rw [e9];clear e9;have HS:=Lib.hid hsk;have HK9:=Lib.hid (HK9.out.near huu (by omega))
       clear hsk huu d4 f4;refine hK.out _ _ ?_ (fun hHeld=>?_)
       ·
        exact HS.out.box.cell 0
       clear hK K
       try simp only [put_y,put_z]
       refine wpAnyH_done (by kernel_rfl) ?_ _
       go_wp2_with fail
       go_roundg (n - (j+1))
       case measure=>rw [Hg.out];omega
       case rel=>exact ⟨j+1,some ⟨g,0,none⟩,c8,ks++[q],y',rfl,by omega,by go_num,HS.out,HK9.out,HG2.out,HL2.out,(kids_step HR.out H0Y.out (termF_err f) HRS.out HZ.out).1,(kids_step HR.out H0Y.out (termF_err f) HRS.out HZ.out).2⟩
      ·
       skip;have d4:=HS.out.pat.cell 4;have f4:=HS.out.pat.frozen 4;go_simp;obtain ⟨w9,e9,huu,hsk⟩:=HS.out.kids (.slice (some ⟨g,0,none⟩) (j+1) c8);rw [e9];clear e9;have HS:=Lib.hid hsk;have HK2:=Lib.hid (HK2.out.near huu (by omega));have HQ8:=Lib.hid (PtK.upd huu (fun k _ r e=>by have:=r.1.1;omega) _ _ _ HQ8.out);clear hsk huu d4 f4 hc5 hf5
       obtain ⟨g',hg',hc5,hf5⟩:=HK2.out.some_
       injection hg' with hg';injection hg' with hg';subst hg'
       refine hK.out _ _ ?_ (fun hHeld=>?_)
       ·
        exact HS.out.box.cell 0
       clear hK K
       try simp only [put_y,put_z]
       have k0:=hc5 (j * 5) rfl 0 (by decide);have k1:=hc5 (j * 5) rfl 1 (by decide);have k2:=hc5 (j * 5) rfl 2 (by decide);have k3:=hc5 (j * 5) rfl 3 (by decide);have k4:=hc5 (j * 5) rfl 4 (by decide);rw [Nat.add_zero] at k0;unfold zs5 at k0 k1 k2 k3 k4;refine wpAnyH_ready (rs:=[8]) (by kernel_rfl) (by simp) ?_;refine AllReadyH.cons rfl (fun K hK=>?_) AllReadyH.nil;go_simp
       rw [set5o_eq];have HK9:=Lib.hid (HK2.out.fin HQ8.out rfl (o:=j * 5) rfl)
       have HS:=Lib.hid (HS.out.far (set5o_upd _ _ (j * 5) (.int .i64 q.v) (.int .i64 q.op) (.int .i64 q.imm) (.int .i64 q.iv) (.slice KA q.kids.length kc)) (fun k e=>HK2.out.2.2 k (At.some_.2 e)) (fun k e=>HS.out.rd.own_ne (Classical.choose_spec HK2.out.2.1).1 k (At.some_.2 e)) hpw)
       refine hK.out _ _ ?_ (fun hHeld=>?_)
       ·
        exact HS.out.box.cell 0
       clear hK K
       try simp only [put_y,put_z]
       clear k0 k1 k2 k3 k4 hc5 hf5;refine wpAnyH_done (by kernel_rfl) ?_ _
       go_wp2_with fail
       go_roundg (n - (j+1))
       case measure=>rw [Hg.out];omega
       case rel=>exact ⟨j+1,some ⟨g,0,none⟩,c8,ks++[q],y',rfl,by omega,by go_num,HS.out,HK9.out,HG2.out,HL2.out,(kids_step HR.out H0Y.out (termF_err f) HRS.out HZ.out).1,(kids_step HR.out H0Y.out (termF_err f) HRS.out HZ.out).2⟩
     ·
      go_simp
      have hlo:∀k,y.own p k→k<_:=fun k r=>HS.out.rd.lt r
      have HZS:=Lib.hid (Sl.new wD 40 [.int .i64 0,.int .i64 0,.int .i64 0,.int .i64 0,.slice none 0 0]);have HS:=Lib.hid (HS.out.non (Upd.refl.alloc (.cells #[.int .i64 0,.int .i64 0,.int .i64 0,.int .i64 0,.slice none 0 0] 40) (S:=Non)))
      have HK:=Lib.hid (HK.out.non (Upd.refl.alloc (.cells #[.int .i64 0,.int .i64 0,.int .i64 0,.int .i64 0,.slice none 0 0] 40) (S:=Non)));refine hK.out _ _ ?_ (fun hHeld=>?_)
      ·
       exact HS.out.box.cell 0
      clear hK K
      try simp only [put_y,put_z]
      refine wpAnyH_ready (rs:=[3]) (by kernel_rfl) (by simp) ?_;refine AllReadyH.cons rfl (fun K hK=>?_) AllReadyH.nil;go_simp
      have HLT0:Hid (∀k,At Ak k→k<_):=fun k r=>HK.out.1.lt r
      have HN1:=Lib.hid HS.out.le;have HLT:=HLT0;refine (HT.out HS.out.rd HG.out HYL.out H0Y.out HFU.out).mono ?_;rintro e w6 ⟨q,KA,kc,y',rfl,hq,hy',hg',hl',ho',hu',hres⟩;have HSO:=HS;have HS:=Lib.hid (HS.out.call hy' ho' hu');have HG2:=Lib.hid hg';have HL2:Hid (y'.left=left):=hl'.trans HYL.out;have HRS:=Lib.hid hres;have HQ:=Lib.hid hq
      have HK:=Lib.hid (HK.out.step HSO.out.rd hu' ho');have HZS:=Lib.hid (HZS.out.upd hu' (fun k _ e r=>by subst e;exact Nat.lt_irrefl _ (hlo _ r)));clear hq hy' hg' hl' ho' hu' hres;unfold pv
      go_wp2_with fail
      refine hK.out _ _ ?_ (fun hHeld=>?_)
      ·
       exact HS.out.box.cell 0
      clear hK K
      try simp only [put_y,put_z]
      refine wpAnyH_ready (rs:=[6]) (by kernel_rfl) (by simp) ?_;refine AllReadyH.cons rfl (fun K hK=>?_) AllReadyH.nil;obtain ⟨hkn,cs8,hko,hkc⟩:=id HK.out.1;have hjc:j≤ck:=hko.le;refine step_app rfl rfl T_pats rfl hko rfl HZS.out rfl (by simp [Value.oneCell']) (by simp only [maxLen];omega) (by omega) ?_;intro A8 c8 w8 ho8 hu8 hat8
      have HK2:=Lib.hid (KO2.of hkn hkc HK.out.2 HS.out.le ho8 hu8 hat8);have HSP:=HS;have HS:=Lib.hid (HS.out.far hu8 HK.out.2 (HSP.out.rd.own_ne hko) hpw);have HQ8:=Lib.hid (PtK.past HQ.out HLT.out HN1.out hu8 hat8);clear hkn hko hkc ho8 hu8 hat8;refine hK.out _ _ ?_ (fun hHeld=>?_)
      ·
       exact HS.out.box.cell 0
      clear hK K
      try simp only [put_y,put_z]
      obtain ⟨g,rfl,hc5,hf5⟩:=HK2.out.some_
      have tj1:(j:Int)<(j:Int)+1:=by omega
      refine wpT 7 ?_
      try simp only [put_y,put_z]
      refine wpT 9 ?_
      try simp only [put_y,put_z]
      refine wpAnyH_ready (rs:=[8,10]) (by kernel_rfl) (by simp) ?_;refine AllReadyH.cons rfl (fun K hK=>?_) (AllReadyH.cons rfl (fun K hK=>?_) AllReadyH.nil)
      ·
       skip;have k0:=hc5 (j * 5) rfl 0 (by decide);have k1:=hc5 (j * 5) rfl 1 (by decide);have k2:=hc5 (j * 5) rfl 2 (by decide);have k3:=hc5 (j * 5) rfl 3 (by decide);have k4:=hc5 (j * 5) rfl 4 (by decide);rw [Nat.add_zero] at k0;unfold zs5 at k0 k1 k2 k3 k4;go_simp;rw [set5o_eq];have HK9:=Lib.hid (HK2.out.fin HQ8.out rfl (o:=j * 5) rfl)
       have HS:=Lib.hid (HS.out.far (set5o_upd _ _ (j * 5) (.int .i64 q.v) (.int .i64 q.op) (.int .i64 q.imm) (.int .i64 q.iv) (.slice KA q.kids.length kc)) (fun k e=>HK2.out.2.2 k (At.some_.2 e)) (fun k e=>HS.out.rd.own_ne (Classical.choose_spec HK2.out.2.1).1 k (At.some_.2 e)) hpw)
       refine hK.out _ _ ?_ (fun hHeld=>?_)
       ·
        exact HS.out.box.cell 0
       clear hK K
       try simp only [put_y,put_z]
       clear k0 k1 k2 k3 k4 hc5 hf5;refine wpAnyH_ready (rs:=[10]) (by kernel_rfl) (by simp) ?_;refine AllReadyH.cons rfl (fun K hK=>?_) AllReadyH.nil;have d4:=HS.out.pat.cell 4;have f4:=HS.out.pat.frozen 4;go_simp;obtain ⟨w9,e9,huu,hsk⟩:=HS.out.kids (.slice (some ⟨g,0,none⟩) (j+1) c8);rw [e9];clear e9;have HS:=Lib.hid hsk;have HK9:=Lib.hid (HK9.out.near huu (by omega))
       clear hsk huu d4 f4;refine hK.out _ _ ?_ (fun hHeld=>?_)
       ·
        exact HS.out.box.cell 0
       clear hK K
       try simp only [put_y,put_z]
       refine wpAnyH_done (by kernel_rfl) ?_ _
       go_wp2_with fail
       go_roundg (n - (j+1))
       case measure=>rw [Hg.out];omega
       case rel=>exact ⟨j+1,some ⟨g,0,none⟩,c8,ks++[q],y',rfl,by omega,by go_num,HS.out,HK9.out,HG2.out,HL2.out,(kids_step HR.out H0Y.out (termF_err f) HRS.out HZ.out).1,(kids_step HR.out H0Y.out (termF_err f) HRS.out HZ.out).2⟩
      ·
       skip;have d4:=HS.out.pat.cell 4;have f4:=HS.out.pat.frozen 4;go_simp;obtain ⟨w9,e9,huu,hsk⟩:=HS.out.kids (.slice (some ⟨g,0,none⟩) (j+1) c8);rw [e9];clear e9;have HS:=Lib.hid hsk;have HK2:=Lib.hid (HK2.out.near huu (by omega));have HQ8:=Lib.hid (PtK.upd huu (fun k _ r e=>by have:=r.1.1;omega) _ _ _ HQ8.out);clear hsk huu d4 f4 hc5 hf5
       obtain ⟨g',hg',hc5,hf5⟩:=HK2.out.some_
       injection hg' with hg';injection hg' with hg';subst hg'
       refine hK.out _ _ ?_ (fun hHeld=>?_)
       ·
        exact HS.out.box.cell 0
       clear hK K
       try simp only [put_y,put_z]
       have k0:=hc5 (j * 5) rfl 0 (by decide);have k1:=hc5 (j * 5) rfl 1 (by decide);have k2:=hc5 (j * 5) rfl 2 (by decide);have k3:=hc5 (j * 5) rfl 3 (by decide);have k4:=hc5 (j * 5) rfl 4 (by decide);rw [Nat.add_zero] at k0;unfold zs5 at k0 k1 k2 k3 k4;refine wpAnyH_ready (rs:=[8]) (by kernel_rfl) (by simp) ?_;refine AllReadyH.cons rfl (fun K hK=>?_) AllReadyH.nil;go_simp
       rw [set5o_eq];have HK9:=Lib.hid (HK2.out.fin HQ8.out rfl (o:=j * 5) rfl)
       have HS:=Lib.hid (HS.out.far (set5o_upd _ _ (j * 5) (.int .i64 q.v) (.int .i64 q.op) (.int .i64 q.imm) (.int .i64 q.iv) (.slice KA q.kids.length kc)) (fun k e=>HK2.out.2.2 k (At.some_.2 e)) (fun k e=>HS.out.rd.own_ne (Classical.choose_spec HK2.out.2.1).1 k (At.some_.2 e)) hpw)
       refine hK.out _ _ ?_ (fun hHeld=>?_)
       ·
        exact HS.out.box.cell 0
       clear hK K
       try simp only [put_y,put_z]
       clear k0 k1 k2 k3 k4 hc5 hf5;refine wpAnyH_done (by kernel_rfl) ?_ _
       go_wp2_with fail
       go_roundg (n - (j+1))
       case measure=>rw [Hg.out];omega
       case rel=>exact ⟨j+1,some ⟨g,0,none⟩,c8,ks++[q],y',rfl,by omega,by go_num,HS.out,HK9.out,HG2.out,HL2.out,(kids_step HR.out H0Y.out (termF_err f) HRS.out HZ.out).1,(kids_step HR.out H0Y.out (termF_err f) HRS.out HZ.out).2⟩
    ·
     go_simp
     have HLT0:Hid (∀k,At Ak k→k<_):=fun k r=>HK.out.1.lt r
     have HN1:=Lib.hid HS.out.le;have HLT:=HLT0;refine (HT.out HS.out.rd HG.out HYL.out H0Y.out HFU.out).mono ?_;rintro e w6 ⟨q,KA,kc,y',rfl,hq,hy',hg',hl',ho',hu',hres⟩;have HSO:=HS;have HS:=Lib.hid (HS.out.call hy' ho' hu');have HG2:=Lib.hid hg';have HL2:Hid (y'.left=left):=hl'.trans HYL.out;have HRS:=Lib.hid hres;have HQ:=Lib.hid hq
     have HK:=Lib.hid (HK.out.step HSO.out.rd hu' ho');clear hq hy' hg' hl' ho' hu' hres;unfold pv
     go_wp2_with fail
     refine hK.out _ _ ?_ (fun hHeld=>?_)
     ·
      exact HS.out.box.cell 0
     clear hK K
     try simp only [put_y,put_z]
     have d4:=HS.out.pat.cell 4
     refine wpAnyH_takeM (fun w'=>w'.cell? ⟨w.heap.size+2,4,none⟩=some (.slice Ak j ck)) (calm_cell _ _) [10,8,6,7,9] (i:=1) (v:=?_) rfl (by kernel_rfl) (by kernel_rfl) (by kernel_rfl) (by kernel_rfl) (fun _ _ _ h=>h) (Or.inl ⟨by rfl,?_⟩) (d4) (by assumption) ?_
     rotate_left
     ·
      intro w hSw;(try dsimp only at hSw);go_simp;try with_reducible rfl
     try simp only [put_y,put_z]
     clear d4;refine wpT 4 ?_
     try simp only [put_y,put_z]
     refine wpAnyH_ready (rs:=[5]) (by kernel_rfl) (by simp) ?_;refine AllReadyH.cons rfl (fun K hK=>?_) AllReadyH.nil;go_simp
     have HQ:=Lib.hid (PtK.upd (Upd.refl.alloc (.cells #[.int .i64 0,.int .i64 0,.int .i64 0,.int .i64 0,.slice none 0 0] 40) (S:=Non)) (fun _ _ _ f=>f) _ _ _ HQ.out)
     have HS:=Lib.hid (HS.out.non (Upd.refl.alloc (.cells #[.int .i64 0,.int .i64 0,.int .i64 0,.int .i64 0,.slice none 0 0] 40) (S:=Non)));have HK:=Lib.hid (HK.out.non (Upd.refl.alloc (.cells #[.int .i64 0,.int .i64 0,.int .i64 0,.int .i64 0,.slice none 0 0] 40) (S:=Non)));refine hK.out _ _ ?_ (fun hHeld=>?_)
     ·
      exact HS.out.box.cell 0
     clear hK K
     try simp only [put_y,put_z]
     refine wpAnyH_ready (rs:=[6]) (by kernel_rfl) (by simp) ?_;refine AllReadyH.cons rfl (fun K hK=>?_) AllReadyH.nil;obtain ⟨hkn,cs8,hko,hkc⟩:=id HK.out.1;have hjc:j≤ck:=hko.le;refine step_app rfl rfl T_pats rfl hko rfl (Sl.new _ _ _) rfl (by simp [Value.oneCell']) (by simp only [maxLen];omega) (by omega) ?_;intro A8 c8 w8 ho8 hu8 hat8
     have HK2:=Lib.hid (KO2.of hkn hkc HK.out.2 HS.out.le ho8 hu8 hat8);have HSP:=HS;have HS:=Lib.hid (HS.out.far hu8 HK.out.2 (HSP.out.rd.own_ne hko) hpw);have HQ8:=Lib.hid (PtK.past HQ.out HLT.out HN1.out hu8 hat8);clear hkn hko hkc ho8 hu8 hat8;refine hK.out _ _ ?_ (fun hHeld=>?_)
     ·
      exact HS.out.box.cell 0
     clear hK K
     try simp only [put_y,put_z]
     obtain ⟨g,rfl,hc5,hf5⟩:=HK2.out.some_
     have tj1:(j:Int)<(j:Int)+1:=by omega
     refine wpT 7 ?_
     try simp only [put_y,put_z]
     refine wpT 9 ?_
     try simp only [put_y,put_z]
     refine wpAnyH_ready (rs:=[8,10]) (by kernel_rfl) (by simp) ?_;refine AllReadyH.cons rfl (fun K hK=>?_) (AllReadyH.cons rfl (fun K hK=>?_) AllReadyH.nil)
     ·
      skip;have k0:=hc5 (j * 5) rfl 0 (by decide);have k1:=hc5 (j * 5) rfl 1 (by decide);have k2:=hc5 (j * 5) rfl 2 (by decide);have k3:=hc5 (j * 5) rfl 3 (by decide);have k4:=hc5 (j * 5) rfl 4 (by decide);rw [Nat.add_zero] at k0;unfold zs5 at k0 k1 k2 k3 k4;go_simp;rw [set5o_eq];have HK9:=Lib.hid (HK2.out.fin HQ8.out rfl (o:=j * 5) rfl)
      have HS:=Lib.hid (HS.out.far (set5o_upd _ _ (j * 5) (.int .i64 q.v) (.int .i64 q.op) (.int .i64 q.imm) (.int .i64 q.iv) (.slice KA q.kids.length kc)) (fun k e=>HK2.out.2.2 k (At.some_.2 e)) (fun k e=>HS.out.rd.own_ne (Classical.choose_spec HK2.out.2.1).1 k (At.some_.2 e)) hpw)
      refine hK.out _ _ ?_ (fun hHeld=>?_)
      ·
       exact HS.out.box.cell 0
      clear hK K
      try simp only [put_y,put_z]
      clear k0 k1 k2 k3 k4 hc5 hf5;refine wpAnyH_ready (rs:=[10]) (by kernel_rfl) (by simp) ?_;refine AllReadyH.cons rfl (fun K hK=>?_) AllReadyH.nil;have d4:=HS.out.pat.cell 4;have f4:=HS.out.pat.frozen 4;go_simp;obtain ⟨w9,e9,huu,hsk⟩:=HS.out.kids (.slice (some ⟨g,0,none⟩) (j+1) c8);rw [e9];clear e9;have HS:=Lib.hid hsk;have HK9:=Lib.hid (HK9.out.near huu (by omega))
      clear hsk huu d4 f4;refine hK.out _ _ ?_ (fun hHeld=>?_)
      ·
       exact HS.out.box.cell 0
      clear hK K
      try simp only [put_y,put_z]
      refine wpAnyH_done (by kernel_rfl) ?_ _
      go_wp2_with fail
      go_roundg (n - (j+1))
      case measure=>rw [Hg.out];omega
      case rel=>exact ⟨j+1,some ⟨g,0,none⟩,c8,ks++[q],y',rfl,by omega,by go_num,HS.out,HK9.out,HG2.out,HL2.out,(kids_step HR.out H0Y.out (termF_err f) HRS.out HZ.out).1,(kids_step HR.out H0Y.out (termF_err f) HRS.out HZ.out).2⟩
     ·
      skip;have d4:=HS.out.pat.cell 4;have f4:=HS.out.pat.frozen 4;go_simp;obtain ⟨w9,e9,huu,hsk⟩:=HS.out.kids (.slice (some ⟨g,0,none⟩) (j+1) c8);rw [e9];clear e9;have HS:=Lib.hid hsk;have HK2:=Lib.hid (HK2.out.near huu (by omega));have HQ8:=Lib.hid (PtK.upd huu (fun k _ r e=>by have:=r.1.1;omega) _ _ _ HQ8.out);clear hsk huu d4 f4 hc5 hf5
      obtain ⟨g',hg',hc5,hf5⟩:=HK2.out.some_
      injection hg' with hg';injection hg' with hg';subst hg'
      refine hK.out _ _ ?_ (fun hHeld=>?_)
      ·
       exact HS.out.box.cell 0
      clear hK K
      try simp only [put_y,put_z]
      have k0:=hc5 (j * 5) rfl 0 (by decide);have k1:=hc5 (j * 5) rfl 1 (by decide);have k2:=hc5 (j * 5) rfl 2 (by decide);have k3:=hc5 (j * 5) rfl 3 (by decide);have k4:=hc5 (j * 5) rfl 4 (by decide);rw [Nat.add_zero] at k0;unfold zs5 at k0 k1 k2 k3 k4;refine wpAnyH_ready (rs:=[8]) (by kernel_rfl) (by simp) ?_;refine AllReadyH.cons rfl (fun K hK=>?_) AllReadyH.nil;go_simp
      rw [set5o_eq];have HK9:=Lib.hid (HK2.out.fin HQ8.out rfl (o:=j * 5) rfl)
      have HS:=Lib.hid (HS.out.far (set5o_upd _ _ (j * 5) (.int .i64 q.v) (.int .i64 q.op) (.int .i64 q.imm) (.int .i64 q.iv) (.slice KA q.kids.length kc)) (fun k e=>HK2.out.2.2 k (At.some_.2 e)) (fun k e=>HS.out.rd.own_ne (Classical.choose_spec HK2.out.2.1).1 k (At.some_.2 e)) hpw)
      refine hK.out _ _ ?_ (fun hHeld=>?_)
      ·
       exact HS.out.box.cell 0
      clear hK K
      try simp only [put_y,put_z]
      clear k0 k1 k2 k3 k4 hc5 hf5;refine wpAnyH_done (by kernel_rfl) ?_ _
      go_wp2_with fail
      go_roundg (n - (j+1))
      case measure=>rw [Hg.out];omega
      case rel=>exact ⟨j+1,some ⟨g,0,none⟩,c8,ks++[q],y',rfl,by omega,by go_num,HS.out,HK9.out,HG2.out,HL2.out,(kids_step HR.out H0Y.out (termF_err f) HRS.out HZ.out).1,(kids_step HR.out H0Y.out (termF_err f) HRS.out HZ.out).2⟩
    ·
     go_simp
     have hlo:∀k,y.own p k→k<_:=fun k r=>HS.out.rd.lt r
     have HZS:=Lib.hid (Sl.new wD 40 [.int .i64 0,.int .i64 0,.int .i64 0,.int .i64 0,.slice none 0 0]);have HS:=Lib.hid (HS.out.non (Upd.refl.alloc (.cells #[.int .i64 0,.int .i64 0,.int .i64 0,.int .i64 0,.slice none 0 0] 40) (S:=Non)));have HK:=Lib.hid (HK.out.non (Upd.refl.alloc (.cells #[.int .i64 0,.int .i64 0,.int .i64 0,.int .i64 0,.slice none 0 0] 40) (S:=Non)))
     refine hK.out _ _ ?_ (fun hHeld=>?_)
     ·
      exact HS.out.box.cell 0
     clear hK K
     try simp only [put_y,put_z]
     refine wpAnyH_ready (rs:=[1,3]) (by kernel_rfl) (by simp) ?_;refine AllReadyH.cons rfl (fun K hK=>?_) (AllReadyH.cons rfl (fun K hK=>?_) AllReadyH.nil)
     ·
      have d4:=HS.out.pat.cell 4;go_simp;refine hK.out _ _ ?_ (fun hHeld=>?_)
      ·
       exact HS.out.box.cell 0
      clear hK K
      try simp only [put_y,put_z]
      clear d4;refine wpT 4 ?_
      try simp only [put_y,put_z]
      refine wpAnyH_ready (rs:=[3]) (by kernel_rfl) (by simp) ?_;refine AllReadyH.cons rfl (fun K hK=>?_) AllReadyH.nil;go_simp
      have HLT0:Hid (∀k,At Ak k→k<_):=fun k r=>HK.out.1.lt r
      have HN1:=Lib.hid HS.out.le;have HLT:=HLT0;refine (HT.out HS.out.rd HG.out HYL.out H0Y.out HFU.out).mono ?_;rintro e w6 ⟨q,KA,kc,y',rfl,hq,hy',hg',hl',ho',hu',hres⟩;have HSO:=HS;have HS:=Lib.hid (HS.out.call hy' ho' hu');have HG2:=Lib.hid hg';have HL2:Hid (y'.left=left):=hl'.trans HYL.out;have HRS:=Lib.hid hres;have HQ:=Lib.hid hq
      have HK:=Lib.hid (HK.out.step HSO.out.rd hu' ho');have HZS:=Lib.hid (HZS.out.upd hu' (fun k _ e r=>by subst e;exact Nat.lt_irrefl _ (hlo _ r)));clear hq hy' hg' hl' ho' hu' hres;unfold pv
      go_wp2_with fail
      refine hK.out _ _ ?_ (fun hHeld=>?_)
      ·
       exact HS.out.box.cell 0
      clear hK K
      try simp only [put_y,put_z]
      refine wpAnyH_ready (rs:=[6]) (by kernel_rfl) (by simp) ?_;refine AllReadyH.cons rfl (fun K hK=>?_) AllReadyH.nil;obtain ⟨hkn,cs8,hko,hkc⟩:=id HK.out.1;have hjc:j≤ck:=hko.le;refine step_app rfl rfl T_pats rfl hko rfl HZS.out rfl (by simp [Value.oneCell']) (by simp only [maxLen];omega) (by omega) ?_;intro A8 c8 w8 ho8 hu8 hat8
      have HK2:=Lib.hid (KO2.of hkn hkc HK.out.2 HS.out.le ho8 hu8 hat8);have HSP:=HS;have HS:=Lib.hid (HS.out.far hu8 HK.out.2 (HSP.out.rd.own_ne hko) hpw);have HQ8:=Lib.hid (PtK.past HQ.out HLT.out HN1.out hu8 hat8);clear hkn hko hkc ho8 hu8 hat8;refine hK.out _ _ ?_ (fun hHeld=>?_)
      ·
       exact HS.out.box.cell 0
      clear hK K
      try simp only [put_y,put_z]
      obtain ⟨g,rfl,hc5,hf5⟩:=HK2.out.some_
      have tj1:(j:Int)<(j:Int)+1:=by omega
      refine wpT 7 ?_
      try simp only [put_y,put_z]
      refine wpT 9 ?_
      try simp only [put_y,put_z]
      refine wpAnyH_ready (rs:=[8,10]) (by kernel_rfl) (by simp) ?_;refine AllReadyH.cons rfl (fun K hK=>?_) (AllReadyH.cons rfl (fun K hK=>?_) AllReadyH.nil)
      ·
       skip;have k0:=hc5 (j * 5) rfl 0 (by decide);have k1:=hc5 (j * 5) rfl 1 (by decide);have k2:=hc5 (j * 5) rfl 2 (by decide);have k3:=hc5 (j * 5) rfl 3 (by decide);have k4:=hc5 (j * 5) rfl 4 (by decide);rw [Nat.add_zero] at k0;unfold zs5 at k0 k1 k2 k3 k4;go_simp;rw [set5o_eq];have HK9:=Lib.hid (HK2.out.fin HQ8.out rfl (o:=j * 5) rfl)
       have HS:=Lib.hid (HS.out.far (set5o_upd _ _ (j * 5) (.int .i64 q.v) (.int .i64 q.op) (.int .i64 q.imm) (.int .i64 q.iv) (.slice KA q.kids.length kc)) (fun k e=>HK2.out.2.2 k (At.some_.2 e)) (fun k e=>HS.out.rd.own_ne (Classical.choose_spec HK2.out.2.1).1 k (At.some_.2 e)) hpw)
       refine hK.out _ _ ?_ (fun hHeld=>?_)
       ·
        exact HS.out.box.cell 0
       clear hK K
       try simp only [put_y,put_z]
       clear k0 k1 k2 k3 k4 hc5 hf5;refine wpAnyH_ready (rs:=[10]) (by kernel_rfl) (by simp) ?_;refine AllReadyH.cons rfl (fun K hK=>?_) AllReadyH.nil;have d4:=HS.out.pat.cell 4;have f4:=HS.out.pat.frozen 4;go_simp;obtain ⟨w9,e9,huu,hsk⟩:=HS.out.kids (.slice (some ⟨g,0,none⟩) (j+1) c8);rw [e9];clear e9;have HS:=Lib.hid hsk;have HK9:=Lib.hid (HK9.out.near huu (by omega))
       clear hsk huu d4 f4;refine hK.out _ _ ?_ (fun hHeld=>?_)
       ·
        exact HS.out.box.cell 0
       clear hK K
       try simp only [put_y,put_z]
       refine wpAnyH_done (by kernel_rfl) ?_ _
       go_wp2_with fail
       go_roundg (n - (j+1))
       case measure=>rw [Hg.out];omega
       case rel=>exact ⟨j+1,some ⟨g,0,none⟩,c8,ks++[q],y',rfl,by omega,by go_num,HS.out,HK9.out,HG2.out,HL2.out,(kids_step HR.out H0Y.out (termF_err f) HRS.out HZ.out).1,(kids_step HR.out H0Y.out (termF_err f) HRS.out HZ.out).2⟩
      ·
       skip;have d4:=HS.out.pat.cell 4;have f4:=HS.out.pat.frozen 4;go_simp;obtain ⟨w9,e9,huu,hsk⟩:=HS.out.kids (.slice (some ⟨g,0,none⟩) (j+1) c8);rw [e9];clear e9;have HS:=Lib.hid hsk;have HK2:=Lib.hid (HK2.out.near huu (by omega));have HQ8:=Lib.hid (PtK.upd huu (fun k _ r e=>by have:=r.1.1;omega) _ _ _ HQ8.out);clear hsk huu d4 f4 hc5 hf5
       obtain ⟨g',hg',hc5,hf5⟩:=HK2.out.some_
       injection hg' with hg';injection hg' with hg';subst hg'
       refine hK.out _ _ ?_ (fun hHeld=>?_)
       ·
        exact HS.out.box.cell 0
       clear hK K
       try simp only [put_y,put_z]
       have k0:=hc5 (j * 5) rfl 0 (by decide);have k1:=hc5 (j * 5) rfl 1 (by decide);have k2:=hc5 (j * 5) rfl 2 (by decide);have k3:=hc5 (j * 5) rfl 3 (by decide);have k4:=hc5 (j * 5) rfl 4 (by decide);rw [Nat.add_zero] at k0;unfold zs5 at k0 k1 k2 k3 k4;refine wpAnyH_ready (rs:=[8]) (by kernel_rfl) (by simp) ?_;refine AllReadyH.cons rfl (fun K hK=>?_) AllReadyH.nil;go_simp
       rw [set5o_eq];have HK9:=Lib.hid (HK2.out.fin HQ8.out rfl (o:=j * 5) rfl)
       have HS:=Lib.hid (HS.out.far (set5o_upd _ _ (j * 5) (.int .i64 q.v) (.int .i64 q.op) (.int .i64 q.imm) (.int .i64 q.iv) (.slice KA q.kids.length kc)) (fun k e=>HK2.out.2.2 k (At.some_.2 e)) (fun k e=>HS.out.rd.own_ne (Classical.choose_spec HK2.out.2.1).1 k (At.some_.2 e)) hpw)
       refine hK.out _ _ ?_ (fun hHeld=>?_)
       ·
        exact HS.out.box.cell 0
       clear hK K
       try simp only [put_y,put_z]
       clear k0 k1 k2 k3 k4 hc5 hf5;refine wpAnyH_done (by kernel_rfl) ?_ _
       go_wp2_with fail
       go_roundg (n - (j+1))
       case measure=>rw [Hg.out];omega
       case rel=>exact ⟨j+1,some ⟨g,0,none⟩,c8,ks++[q],y',rfl,by omega,by go_num,HS.out,HK9.out,HG2.out,HL2.out,(kids_step HR.out H0Y.out (termF_err f) HRS.out HZ.out).1,(kids_step HR.out H0Y.out (termF_err f) HRS.out HZ.out).2⟩
     ·
      go_simp
      have HLT0:Hid (∀k,At Ak k→k<_):=fun k r=>HK.out.1.lt r
      have HN1:=Lib.hid HS.out.le;have HLT:=HLT0;refine (HT.out HS.out.rd HG.out HYL.out H0Y.out HFU.out).mono ?_;rintro e w6 ⟨q,KA,kc,y',rfl,hq,hy',hg',hl',ho',hu',hres⟩;have HSO:=HS;have HS:=Lib.hid (HS.out.call hy' ho' hu');have HG2:=Lib.hid hg';have HL2:Hid (y'.left=left):=hl'.trans HYL.out;have HRS:=Lib.hid hres;have HQ:=Lib.hid hq
      have HK:=Lib.hid (HK.out.step HSO.out.rd hu' ho');have HZS:=Lib.hid (HZS.out.upd hu' (fun k _ e r=>by subst e;exact Nat.lt_irrefl _ (hlo _ r)));clear hq hy' hg' hl' ho' hu' hres;unfold pv
      go_wp2_with fail
      refine hK.out _ _ ?_ (fun hHeld=>?_)
      ·
       exact HS.out.box.cell 0
      clear hK K
      try simp only [put_y,put_z]
      have d4:=HS.out.pat.cell 4
      refine wpAnyH_takeM (fun w'=>w'.cell? ⟨w.heap.size+2,4,none⟩=some (.slice Ak j ck)) (calm_cell _ _) [10,8,6,7,9] (i:=1) (v:=?_) rfl (by kernel_rfl) (by kernel_rfl) (by kernel_rfl) (by kernel_rfl) (fun _ _ _ h=>h) (Or.inl ⟨by rfl,?_⟩) (d4) (by assumption) ?_
      rotate_left
      ·
       intro w hSw;(try dsimp only at hSw);go_simp;try with_reducible rfl
      try simp only [put_y,put_z]
      clear d4;refine wpT 4 ?_
      try simp only [put_y,put_z]
      refine wpAnyH_ready (rs:=[6]) (by kernel_rfl) (by simp) ?_;refine AllReadyH.cons rfl (fun K hK=>?_) AllReadyH.nil;obtain ⟨hkn,cs8,hko,hkc⟩:=id HK.out.1;have hjc:j≤ck:=hko.le;refine step_app rfl rfl T_pats rfl hko rfl HZS.out rfl (by simp [Value.oneCell']) (by simp only [maxLen];omega) (by omega) ?_;intro A8 c8 w8 ho8 hu8 hat8
      have HK2:=Lib.hid (KO2.of hkn hkc HK.out.2 HS.out.le ho8 hu8 hat8);have HSP:=HS;have HS:=Lib.hid (HS.out.far hu8 HK.out.2 (HSP.out.rd.own_ne hko) hpw);have HQ8:=Lib.hid (PtK.past HQ.out HLT.out HN1.out hu8 hat8);clear hkn hko hkc ho8 hu8 hat8;refine hK.out _ _ ?_ (fun hHeld=>?_)
      ·
       exact HS.out.box.cell 0
      clear hK K
      try simp only [put_y,put_z]
      obtain ⟨g,rfl,hc5,hf5⟩:=HK2.out.some_
      have tj1:(j:Int)<(j:Int)+1:=by omega
      refine wpT 7 ?_
      try simp only [put_y,put_z]
      refine wpT 9 ?_
      try simp only [put_y,put_z]
      refine wpAnyH_ready (rs:=[8,10]) (by kernel_rfl) (by simp) ?_;refine AllReadyH.cons rfl (fun K hK=>?_) (AllReadyH.cons rfl (fun K hK=>?_) AllReadyH.nil)
      ·
       skip;have k0:=hc5 (j * 5) rfl 0 (by decide);have k1:=hc5 (j * 5) rfl 1 (by decide);have k2:=hc5 (j * 5) rfl 2 (by decide);have k3:=hc5 (j * 5) rfl 3 (by decide);have k4:=hc5 (j * 5) rfl 4 (by decide);rw [Nat.add_zero] at k0;unfold zs5 at k0 k1 k2 k3 k4;go_simp;rw [set5o_eq];have HK9:=Lib.hid (HK2.out.fin HQ8.out rfl (o:=j * 5) rfl)
       have HS:=Lib.hid (HS.out.far (set5o_upd _ _ (j * 5) (.int .i64 q.v) (.int .i64 q.op) (.int .i64 q.imm) (.int .i64 q.iv) (.slice KA q.kids.length kc)) (fun k e=>HK2.out.2.2 k (At.some_.2 e)) (fun k e=>HS.out.rd.own_ne (Classical.choose_spec HK2.out.2.1).1 k (At.some_.2 e)) hpw)
       refine hK.out _ _ ?_ (fun hHeld=>?_)
       ·
        exact HS.out.box.cell 0
       clear hK K
       try simp only [put_y,put_z]
       clear k0 k1 k2 k3 k4 hc5 hf5;refine wpAnyH_ready (rs:=[10]) (by kernel_rfl) (by simp) ?_;refine AllReadyH.cons rfl (fun K hK=>?_) AllReadyH.nil;have d4:=HS.out.pat.cell 4;have f4:=HS.out.pat.frozen 4;go_simp;obtain ⟨w9,e9,huu,hsk⟩:=HS.out.kids (.slice (some ⟨g,0,none⟩) (j+1) c8);rw [e9];clear e9;have HS:=Lib.hid hsk;have HK9:=Lib.hid (HK9.out.near huu (by omega))
       clear hsk huu d4 f4;refine hK.out _ _ ?_ (fun hHeld=>?_)
       ·
        exact HS.out.box.cell 0
       clear hK K
       try simp only [put_y,put_z]
       refine wpAnyH_done (by kernel_rfl) ?_ _
       go_wp2_with fail
       go_roundg (n - (j+1))
       case measure=>rw [Hg.out];omega
       case rel=>exact ⟨j+1,some ⟨g,0,none⟩,c8,ks++[q],y',rfl,by omega,by go_num,HS.out,HK9.out,HG2.out,HL2.out,(kids_step HR.out H0Y.out (termF_err f) HRS.out HZ.out).1,(kids_step HR.out H0Y.out (termF_err f) HRS.out HZ.out).2⟩
      ·
       skip;have d4:=HS.out.pat.cell 4;have f4:=HS.out.pat.frozen 4;go_simp;obtain ⟨w9,e9,huu,hsk⟩:=HS.out.kids (.slice (some ⟨g,0,none⟩) (j+1) c8);rw [e9];clear e9;have HS:=Lib.hid hsk;have HK2:=Lib.hid (HK2.out.near huu (by omega));have HQ8:=Lib.hid (PtK.upd huu (fun k _ r e=>by have:=r.1.1;omega) _ _ _ HQ8.out);clear hsk huu d4 f4 hc5 hf5
       obtain ⟨g',hg',hc5,hf5⟩:=HK2.out.some_
       injection hg' with hg';injection hg' with hg';subst hg'
       refine hK.out _ _ ?_ (fun hHeld=>?_)
       ·
        exact HS.out.box.cell 0
       clear hK K
       try simp only [put_y,put_z]
       have k0:=hc5 (j * 5) rfl 0 (by decide);have k1:=hc5 (j * 5) rfl 1 (by decide);have k2:=hc5 (j * 5) rfl 2 (by decide);have k3:=hc5 (j * 5) rfl 3 (by decide);have k4:=hc5 (j * 5) rfl 4 (by decide);rw [Nat.add_zero] at k0;unfold zs5 at k0 k1 k2 k3 k4;refine wpAnyH_ready (rs:=[8]) (by kernel_rfl) (by simp) ?_;refine AllReadyH.cons rfl (fun K hK=>?_) AllReadyH.nil;go_simp
       rw [set5o_eq];have HK9:=Lib.hid (HK2.out.fin HQ8.out rfl (o:=j * 5) rfl)
       have HS:=Lib.hid (HS.out.far (set5o_upd _ _ (j * 5) (.int .i64 q.v) (.int .i64 q.op) (.int .i64 q.imm) (.int .i64 q.iv) (.slice KA q.kids.length kc)) (fun k e=>HK2.out.2.2 k (At.some_.2 e)) (fun k e=>HS.out.rd.own_ne (Classical.choose_spec HK2.out.2.1).1 k (At.some_.2 e)) hpw)
       refine hK.out _ _ ?_ (fun hHeld=>?_)
       ·
        exact HS.out.box.cell 0
       clear hK K
       try simp only [put_y,put_z]
       clear k0 k1 k2 k3 k4 hc5 hf5;refine wpAnyH_done (by kernel_rfl) ?_ _
       go_wp2_with fail
       go_roundg (n - (j+1))
       case measure=>rw [Hg.out];omega
       case rel=>exact ⟨j+1,some ⟨g,0,none⟩,c8,ks++[q],y',rfl,by omega,by go_num,HS.out,HK9.out,HG2.out,HL2.out,(kids_step HR.out H0Y.out (termF_err f) HRS.out HZ.out).1,(kids_step HR.out H0Y.out (termF_err f) HRS.out HZ.out).2⟩
   | false =>
    have HR2:=Lib.hid (kids_exit HR.out hj HD.out);have CE:=Lib.hid (rExpect_c HS1.out.rd hyi hLl [41])
    go_wp2_with fail
    refine CE.out.mono ?_;rintro e w6 ⟨rfl,hy6,hu6⟩;have HS6:=Lib.hid (HS1.out.call hy6 (fun k hk=>.inl ((exp_own _ _).1 hk)) (hu6.mono (fun _ _ e=>.inl e)));have HK6:=Lib.hid (HK.out.step HS1.out.rd (y':=y.exp L [41]) (hu6.mono (fun _ _ e=>.inl e)) (fun k hk=>.inl ((exp_own _ _).1 hk)));have v0:=HS6.out.pat.cell 0;have v1:=HS6.out.pat.cell 1;have v2:=HS6.out.pat.cell 2
    have v3:=HS6.out.pat.cell 3;have v4:=HS6.out.pat.cell 4;have hb6:=HS6.out.res;unfold p0 at hb6;have z0:=hb6.cell 0;have z1:=hb6.cell 1;have z2:=hb6.cell 2;have z3:=hb6.cell 3;have z4:=hb6.cell 4;have zf:=hb6.frozen;have HB6:=Lib.hid hb6;clear CE hb6 d0 hy6 hu6
    go_wp2_with fail
    rw [set5_eq];have us:=set5_upd w6 (w.heap.size+1) (.int .i64 q0.v) (.int .i64 q0.op) (.int .i64 q0.imm) (.int .i64 q0.iv) (.slice Ak j ck);have hkl:ks.length=j:=HK.out.1.1.symm;refine bodyPost_ret (results_cell_row rfl _ _ (w.heap.size+1) 40 _ (0,0) _ rfl (set5_blk HB6.out _ _ _ _ _) Tryz.underlying40 rfl (by kernel_rfl)) rfl ?_
    refine ⟨.mk q0.v q0.op q0.imm q0.iv ks,Ak,ck,y.exp L [41],by unfold pv;rw [←hkl];rfl,?_,HS6.out.rd.upd us (fun k _ e=>?_),exp_good hL HG1.out,?_,fun k hk=>?_,?_,?_⟩
    ·
     have hne:=HS6.out.rd.own_ne (Classical.choose_spec HK6.out.1.2).1
     have hpt:PtK w6 (fun k=>w.heap.size+3≤k∧¬(y.exp L [41]).own p k) (.mk q0.v q0.op q0.imm q0.iv ks) Ak ck:=HK6.out.1.view (fun k hk=>⟨HK6.out.2 k hk,hne k hk⟩) (fun k _ q=>q) _ _ _ _
     exact PtK.mono (fun k _ q=>⟨Nat.le_trans (Nat.le_add_right _ _) q.1,q.2⟩) _ _ _ (PtK.upd us (fun k _ q e=>by have:=q.1;omega) _ _ _ hpt)
    ·
     subst e
     have hn:¬(y.exp L [41]).own p (w.heap.size+1):=fun q=>by
      rcases HS6.out.own _ q with r | r
      ·
       have:=hown _ r;omega
      ·
       omega
     exact ⟨by omega,fun q=>hn (.inr (.inl q)),fun q=>hn (.inr (.inr q))⟩
    ·
     rw [exp_left,HL1.out,hl]
    ·
     exact (HS6.out.own k hk).imp_right (fun r=>by omega)
    ·
     exact HS6.out.upd.trans us (fun k hk e=>by omega)
    ·
     exact app_fin hL h0 HG1.out HR0.out Hn.out.symm HR2.out HZ.out
theorem rTerm_rec {L:List Tok} {T:List (Bs×Nat)} {fin:Nat} (hL:LOk L T fin) (left:Bool):∀(f:Nat) {w:World} {p:Nat} {A:Option Addr} {c:Nat} {x:St},RdS w p A c L x→Good T x→x.left=left→x.why=0→T.length<x.i+f→Calls Tryz.prog 64 #[.pointer (some ⟨p,0,none⟩)] w (TermP T w p A c L x (termF T fin left f (psOf x)))
 | 0,_,_,_,_,x,_,hx,_,_,hf=>by have:=hx.1;omega
 | f+1,_,_,_,_,_,h,hx,hl,_,hf=>rTerm_c hL left f (fun h1 h2 h3 h4 h5=>rApplication_c hL left f (fun g1 g2 g3 g4 g5=>rTerm_rec hL left f g1 g2 g3 g4 g5) h1 h2 h3 h4 h5) h hx hl (fun _=>hf)
theorem rTerm_any {L:List Tok} {T:List (Bs×Nat)} {fin:Nat} (hL:LOk L T fin) (left:Bool) (f:Nat) {w:World} {p:Nat} {A:Option Addr} {c:Nat} {x:St} (h:RdS w p A c L x) (hx:Good T x) (hl:x.left=left) (hf:x.why=0→T.length<x.i+(f+1)):Calls Tryz.prog 64 #[.pointer (some ⟨p,0,none⟩)] w (TermP T w p A c L x (termF T fin left (f+1) (psOf x))) :=
 rTerm_c hL left f (fun h1 h2 h3 h4 h5=>rApplication_c hL left f (fun g1 g2 g3 g4 g5=>rTerm_rec hL left f g1 g2 g3 g4 g5) h1 h2 h3 h4 h5) h hx hl hf
end Go.Proofs.YtblkgjdhaibhgaaGreat
namespace Go.Proofs.YtblkgjdhaibhgaaGreat
open Go.RowKit
def WrdP {α β:Type} (T:List (Bs×Nat)) (w:World) (p g:Nat) (t:TypeId) (val:β→Array Value) (A:Option Addr) (c:Nat) (L:List Tok) (x:St) (P:α→β→Prop) (r:Except Er (α×PS)) (e:Ending) (w':World):Prop :=
 ∃(k:β) (y:St) (ts:Bs) (tp:Nat),e=.returned (tokVal ts tp)∧(y.why=0→tkF T x.i=some ts∧tp=posT L x.i)∧Blk w' g t (val k)∧RdS w' p A c L y∧Good T y∧y.left=x.left∧(∀k,y.own p k→x.own p k∨w.heap.size≤k)∧Upd (fun k=>x.own p k∨k=g) w w'∧ResS x y r (fun v=>P v k∧x.i+1≤y.i)
theorem rWordG_c {α β:Type} {L:List Tok} {T:List (Bs×Nat)} {fin:Nat} (hL:LOk L T fin) {w:World} {p:Nat} {A:Option Addr} {c:Nat} {x:St} (h:RdS w p A c L x) (hx:Good T x) (f:FuncId) (cap:Array Value) (hcf:∀(args:Array Value) (w:World),(callFunc f args).run Tryz.prog w=.ok (.enter f args) w)
  {g:Nat} {t:TypeId} (val:β→Array Value) (b0:β) (hg:Blk w g t (val b0)) (hpg:p<g) (F:Bs→PS→Option (α×PS)) (P:α→β→Prop)
  (hF:∀s ps v y,F s ps=some (v,y)→y.vs.length≤ps.vs.length+1∧y.ms.length≤ps.ms.length+1)
  (HF:∀s w1,s≠[]→s.length≤20000→x.why=0→Upd Non w w1→Calls Tryz.prog f (#[.string (kstr s)]++cap) w1 (fun e w2=>∃(b:Bool) (k:β) (x2:St),e=.returned (.bool b)∧Blk w2 g t (val k)∧RdS w2 p A c L x2∧Keeps w1 p x x2∧Upd (fun k=>x.own p k∨k=g) w1 w2∧(b=true→∃v ps,F s (psOf x)=some (v,ps)∧P v k∧x2.vs=ps.vs∧x2.ms=ps.ms)∧(b=false→F s (psOf x)=none))) :
  Calls Tryz.prog 62 #[.pointer (some ⟨p,0,none⟩),.func (.func f) #[] cap] w (WrdP T w p g t val A c L x P (wrdF T fin F (psOf x))):=by
 have hiL:x.i<L.length:=by have:=hL.lt;have:=hx.1;omega
 have hpos:=hL.pos hx.1;have hgw:=hg.lt
 have hown:∀j,x.own p j→j<w.heap.size:=fun j hj=>h.lt hj
 refine (rWord_c h hiL hL.len (hL.ne' hiL hx.1) f cap hcf
  (fun bb x2 w1 w2=>∃k,Blk w2 g t (val k)∧(∀k,x2.own p k→x.own p k∨w1.heap.size≤k)∧x2.left=x.left∧Upd (fun k=>x.own p k∨k=g) w1 w2∧(bb=true→∃v ps,F L[x.i].s (psOf x)=some (v,ps)∧P v k∧x2.vs=ps.vs∧x2.ms=ps.ms)∧(bb=false→F L[x.i].s (psOf x)=none))
  (fun hok w1 u01=>by
   rw [hL.word hx.1,Bool.and_eq_true,beq_iff_eq] at hok;obtain ⟨sw,hsw⟩:=Option.isSome_iff_exists.1 hok.2;obtain ⟨f1,f2,f3,f4,f5,f6,f7⟩:=hL.at_ hiL hsw;refine (HF L[x.i].s w1 (by rw [f1];exact f3) (by rw [f1];exact f4) hok.1 u01).mono ?_;rintro e w2 ⟨b,k,y,rfl,k2,k3,k4,k5,k6,k7⟩
   exact ⟨b,y,rfl,k3,k4.i,k4.why.trans hok.1,k5.mono (fun j _ r=>by rcases r with r | r;exact hown _ r;rw [r];exact hgw),k4.own,k,k2,k4.own,k4.left,k5,k6,k7⟩)).mono ?_
 rintro e w5 hwd
 rcases hwd with ⟨hok,bb,x2,w1,w2,u01,⟨k,hqb,hqo,hql,hqu,ht,hff⟩,hi2,hw2,_,u2,rfl,hR⟩ | ⟨hok,rfl,hR,hu⟩
 ·
  rw [hL.word hx.1,Bool.and_eq_true,beq_iff_eq] at hok;obtain ⟨sw,hsw⟩:=Option.isSome_iff_exists.1 hok.2;obtain ⟨f1,f2,f3,f4,f5,f6,f7⟩:=hL.at_ hiL hsw;rw [f1] at ht hff
  have hwr:wrdF T fin F (psOf x)=match F sw (psOf x) with | some (a,y)=>.ok (a,{ y with i:=x.i+1 }) | none=>.error (serr T fin x.i):=by
   rw [wrd_eq,show (psOf x).i=x.i from rfl,hsw];rfl
  have hqb5:Blk w5 g t (val k):=hqb.upd u2 (by omega)
  have hu4:Upd (fun k=>x.own p k∨k=g∨k=w.heap.size) w1 w5:=(hqu.mono (T:=fun k=>x.own p k∨k=g∨k=w.heap.size) (fun _ _ h=>by rcases h with h | h;exact .inl h;exact .inr (.inl h))).trans u2 (fun _ _ h=>by rcases h with h | h;exact .inl (.inl h);exact .inr (.inr h))
  have hu5:Upd (fun k=>x.own p k∨k=g) w w5:=(u01.mono (fun _ _ f=>f.elim)).trans hu4 (fun k hk q=>by
   rcases q with q | q | q
   ·
    exact .inl q
   ·
    exact .inr q
   ·
    omega)
  have ho5:∀k,x2.own p k→x.own p k∨w.heap.size≤k:=fun k hk=>(hqo k hk).imp_right (fun r=>Nat.le_trans u01.size r)
  cases bb with
  | true =>
   obtain ⟨v,ps,ha,hP,hvs,hms⟩:=ht rfl;rw [ha] at hwr;have hgx:=hx.2 hok.1;have hol:=hF _ _ _ _ ha
   refine ⟨k,{ x2 with i:=x.i+1 },_,_,rfl,fun _=>⟨by rw [f1];exact f6,posT_eq hiL |>.symm⟩,hqb5,hR,⟨f5,fun _=>?_⟩,hql,ho5,hu5,fun _=>?_,fun q=>absurd hok.1 q⟩
   ·
    show x2.vs.length≤x.i+1∧x2.ms.length≤x.i+1;rw [hvs,hms];have : (psOf x).vs.length=x.vs.length:=rfl;have : (psOf x).ms.length=x.ms.length:=rfl;omega
   ·
    rw [hwr];refine ⟨hw2,?_,hP,Nat.le_refl _⟩;show (⟨x.i+1,x2.vs,x2.ms⟩:PS)=⟨x.i+1,ps.vs,ps.ms⟩;rw [hvs,hms]
  | false =>
   rw [hff rfl] at hwr
   refine ⟨k,x2.fail 2 (posT L x.i),[],0,rfl,fun q=>?_,hqb5,hR,Good.fail (by rw [hi2];omega) (by decide),by rw [fail_left];exact hql,fun k hk=>ho5 k ((fail_own _ _ _ _ _).1 hk),hu5,fun _=>?_,fun q=>absurd hok.1 q⟩
   ·
    rw [fail_zero hw2] at q;exact absurd (show (2:Int)=0 from q) (by decide)
   ·
    rw [hwr,fail_zero hw2,hpos];exact ⟨rfl,rfl⟩
 ·
  refine ⟨b0,x.fail 2 (posT L x.i),[],0,rfl,fun q=>?_,hg.upd hu (by omega),hR,Good.fail hx.1 (by decide),fail_left _ _ _,fun k hk=>.inl ((fail_own _ _ _ _ _).1 hk),hu.mono (fun _ _ h=>.inl (.inl h)),fun h0=>?_,fun h1=>by rw [fail_why h1];exact ⟨rfl,rfl⟩⟩
  ·
   by_cases h0:x.why=0
   ·
    rw [fail_zero h0] at q;exact absurd (show (2:Int)=0 from q) (by decide)
   ·
    rw [fail_why h0] at q;exact absurd q h0
  ·
   rw [hL.word hx.1,h0] at hok;rw [wrd_eq,show (psOf x).i=x.i from rfl]
   cases hk:wkF T x.i with
   | none =>
    rw [fail_zero h0,hpos];exact ⟨rfl,rfl⟩
   | some sw=>rw [hk] at hok;cases hok
def ClsI {α:Type} (w:World) (p g:Nat) (t:TypeId) (A:Option Addr) (c:Nat) (L:List Tok) (x:St) (o:Option (α×PS)) (P:α→Int→Prop) (e:Ending) (w':World):Prop :=
 ∃(b:Bool) (k:Int) (x2:St),e=.returned (.bool b)∧Blk w' g t #[.int .i64 k]∧RdS w' p A c L x2∧Keeps w p x x2∧Upd (fun k=>x.own p k∨k=g) w w'∧(b=true→∃v ps,o=some (v,ps)∧P v k∧x2.vs=ps.vs∧x2.ms=ps.ms)∧(b=false→o=none)
set_option maxRecDepth 100000 in
set_option maxHeartbeats 4000000 in
theorem rNumber1_c {w:World} {p g:Nat} {A:Option Addr} {c:Nat} {L:List Tok} {x:St} (h:RdS w p A c L x) (s:Bs) (hs:s.length≤1000000) (k0:Int) (hg:Blk w g 2 #[.int .i64 k0]) (hgo:¬x.own p g) (hpg:p<g) :
  Calls Tryz.prog 123 #[.string (kstr s),.pointer (some ⟨g,0,none⟩)] w (ClsI w p g 2 A c L x ((decF s).map fun n=>(n,psOf x)) (fun v k=>v=k)):=by
 have CW:=Lib.hid (wParse_c s w hs);obtain ⟨o,Ho⟩:=nm (decF s);rw [Ho.out] at CW ⊢;obtain ⟨str,Hstr⟩:=nm (kstr s);rw [Hstr.out] at CW ⊢;obtain ⟨n,Hn⟩:=nm (o.getD 0);obtain ⟨b,Hb⟩:=nm o.isSome;rw [Hn.out,Hb.out] at CW;have y0:=hg.cell 0;have f0:=hg.frozen 0;have H:=Lib.hid h;have HG:=Lib.hid hg;clear h hg;go_enter Tryz.func123,Tryz.ntmps123
 go_wp2_with fail
 refine CW.out.mono ?_;rintro e w1 ⟨rfl,rfl⟩
 go_wp2_with fail
 go_ret;have us:=updCell w1 g 0 (.int .i64 n)
 refine ⟨b,n,x,rfl,by simpa using HG.out.set_ 0 (.int .i64 n),H.out.upd us (fun k _ e=>by subst e;exact ⟨hpg,fun r=>hgo (.inr (.inl r)),fun r=>hgo (.inr (.inr r))⟩),Keeps.refl,us.mono (fun _ _ q=>.inr q),fun q=>?_,fun q=>?_⟩
 ·
  cases o with
  | none=>rw [←Hb.out] at q;cases q
  | some m=>exact ⟨m,psOf x,rfl,Hn.out,rfl,rfl⟩
 ·
  cases o with
  | none=>rfl
  | some m=>rw [←Hb.out] at q;cases q
theorem varF_right (s:Bs) (c:Nat) (l:Bs):(varF s c l false).2=l:=by
 unfold varF
 split
 ·
  split
  ·
   unfold lookF
   split
   ·
    rfl
   ·
    split
    ·
     rename_i h;cases h
    ·
     rfl
  ·
   rfl
 ·
  rfl
set_option maxRecDepth 100000 in
set_option maxHeartbeats 4000000 in
theorem rPatternVar1_c {w:World} {p g bx:Nat} {A:Option Addr} {c:Nat} {L:List Tok} {x:St} (h:RdS w p A c L x) (hl:x.left=false) (hv:x.vs.length≤100000) (s:Bs) (hs:s.length≤1000000) (k0:Int) (hg:Blk w g 3 #[.int .i64 k0]) (hx:Blk w bx 54 #[.pointer (some ⟨p,0,none⟩)]) (hgo:¬x.own p g) (hxo:¬x.own p bx) (hpg:p<g) :
  Calls Tryz.prog 122 #[.string (kstr s),.pointer (some ⟨bx,0,none⟩),.pointer (some ⟨g,0,none⟩)] w (ClsI w p g 3 A c L x (if 0<(varF s 63 (psOf x).vs false).1 then some ((varF s 63 (psOf x).vs false).1,psOf x) else none) (fun (v:Nat) k=>k=(v:Int))):=by
 have CV:=Lib.hid (fun w' (hy:RdS w' p A c L x)=>rVarV_c hy hv s 63 hs);rw [show ((63:UInt8).toNat:Int)=63 from rfl,show (63:UInt8).toNat=63 from rfl,hl,varF_right] at CV;rw [show (psOf x).vs=x.vs from rfl];obtain ⟨V,HV⟩:=nm (varF s 63 x.vs false).1;rw [HV.out] at CV ⊢;obtain ⟨str,Hstr⟩:=nm (kstr s);rw [Hstr.out] at CV ⊢;have d0:=hx.cell 0;have HX:=Lib.hid hx
 have HG:=Lib.hid hg;obtain ⟨wD,HwD⟩:=nm w.drew
 have uD:Upd Non w wD:=by rw [←HwD.out];exact Upd.refl.drew
 have C1:=Lib.hid (CV.out wD (h.non uD));clear h hg hx;go_enter Tryz.func122,Tryz.ntmps122
 go_upto_region 1 with fail
 refine wp_region_held_drew (S:=fun w'=>w'.cell? ⟨bx,0,none⟩=some (.pointer (some ⟨p,0,none⟩))) (by kernel_rfl) (by rw [HwD.out];exact cell_upd d0 uD (fun f=>f)) (fun hHeld=>?_)
 rw [HwD.out] at hHeld ⊢;refine wpT 0 ?_
 try simp only [put_y,put_z]
 refine wpT 1 ?_
 try simp only [put_y,put_z]
 refine wpT 2 ?_
 try simp only [put_y,put_z]
 refine wpT 3 ?_
 try simp only [put_y,put_z]
 refine wpT 4 ?_
 try simp only [put_y,put_z]
 refine wpAnyH_ready (rs:=[5]) (by kernel_rfl) (by simp) ?_;refine AllReadyH.cons rfl (fun K hK=>?_) AllReadyH.nil;go_simp;refine C1.out.mono ?_;rintro e w2 ⟨rfl,y,hy,hy1,hy2,hk,hu⟩
 go_wp2_with fail
 have d2:=cell_upd (cell_upd d0 uD (fun f=>f)) hu hxo;refine hK.out _ _ ?_ (fun hHeld=>?_)
 ·
  exact d2
 clear hK K
 try simp only [put_y,put_z]
 have hg2:=(HG.out.upd uD (fun f=>f)).upd hu hgo;have y0:=hg2.cell 0;have f0:=hg2.frozen 0;have HY:=Lib.hid hy;have HK:=Lib.hid hk;have HU:=Lib.hid hu;have HG2:=Lib.hid hg2;have H1:=Lib.hid hy1;have H2:=Lib.hid hy2;clear hy hk hu hg2 hy1 hy2;refine wpAnyH_ready (rs:=[6]) (by kernel_rfl) (by simp) ?_;refine AllReadyH.cons rfl (fun K hK=>?_) AllReadyH.nil;go_simp
 have us:=updCell w2 g 0 (.int .i64 (V:Int))
 have hb3:Blk (w2.setCell ⟨g,0,none⟩ (.int .i64 (V:Int))) g 3 #[.int .i64 (V:Int)]:=by simpa using HG2.out.set_ 0 (.int .i64 (V:Int))
 have hgb:bx≠g:=(((HX.out.upd uD (fun f=>f)).upd HU.out hxo).ne_ HG2.out (by decide));refine hK.out _ _ ?_ (fun hHeld=>?_)
 ·
  exact cell_upd d2 us hgb
 clear hK K
 try simp only [put_y,put_z]
 refine wpAnyH_done (by kernel_rfl) ?_ _;have y1:=hb3.cell 0;have HB3:=Lib.hid hb3;clear hb3 y0 f0 d2 d0 hHeld
 have hyo:¬y.own p g:=fun q=>by
  rcases HK.out.own g q with r | r
  ·
   exact hgo r
  ·
   have:=HG.out.lt;have:=uD.size;omega
 have HYO:=Lib.hid hyo;clear hyo
 by_cases hp:0<V
 ·
  have fp:decide ((0:Int)<(V:Int))=true:=decide_eq_true (by omega)
  go_wp2_with fail
  go_ret
  refine ⟨_,V,y,rfl,HB3.out,HY.out.upd us (fun k _ e=>by subst e;exact ⟨hpg,fun r=>HYO.out (.inr (.inl r)),fun r=>HYO.out (.inr (.inr r))⟩),⟨HK.out.i,HK.out.why,HK.out.ea,HK.out.left,fun j hj=>(HK.out.own j hj).imp_right (fun q=>Nat.le_trans uD.size q)⟩,((uD.mono (fun _ _ f=>f.elim)).trans HU.out (fun _ _ q=>.inl q)).trans us (fun _ _ q=>.inr q),fun q=>?_,fun q=>?_⟩
  ·
   exact ⟨V,psOf x,rfl,rfl,H1.out,H2.out⟩
  ·
   cases q
 ·
  have fp:decide ((0:Int)<(V:Int))=false:=decide_eq_false (by omega);have HP:=Lib.hid hp;clear hp
  go_wp2_with fail
  go_ret
  refine ⟨_,V,y,rfl,HB3.out,HY.out.upd us (fun k _ e=>by subst e;exact ⟨hpg,fun r=>HYO.out (.inr (.inl r)),fun r=>HYO.out (.inr (.inr r))⟩),⟨HK.out.i,HK.out.why,HK.out.ea,HK.out.left,fun j hj=>(HK.out.own j hj).imp_right (fun q=>Nat.le_trans uD.size q)⟩,((uD.mono (fun _ _ f=>f.elim)).trans HU.out (fun _ _ q=>.inl q)).trans us (fun _ _ q=>.inr q),fun q=>?_,fun q=>?_⟩
  ·
   cases q
  ·
   rfl
def IntP {α:Type} (T:List (Bs×Nat)) (w:World) (p:Nat) (A:Option Addr) (c:Nat) (L:List Tok) (x:St) (r:Except Er (α×PS)) (P:α→Int→Prop) (e:Ending) (w':World):Prop :=
 ∃(k:Int) (y:St),e=.returned (.int .i64 k)∧RdS w' p A c L y∧Good T y∧y.left=x.left∧(∀k,y.own p k→x.own p k∨w.heap.size≤k)∧Upd (x.own p) w w'∧ResS x y r (fun v=>P v k∧x.i+1≤y.i)
theorem hcfN:∀(args:Array Value) (w:World),(callFunc 123 args).run Tryz.prog w=.ok (.enter 123 args) w:=fun args w=>by
 simp [callFunc,Tryz.func123,Tryz.f123]
theorem hcfV:∀(args:Array Value) (w:World),(callFunc 122 args).run Tryz.prog w=.ok (.enter 122 args) w:=fun args w=>by
 simp [callFunc,Tryz.func122,Tryz.f122]
set_option maxRecDepth 100000 in
set_option maxHeartbeats 4000000 in
theorem rNumber_c {L:List Tok} {T:List (Bs×Nat)} {fin:Nat} (hL:LOk L T fin) {w:World} {p:Nat} {A:Option Addr} {c:Nat} {x:St} (h:RdS w p A c L x) (hx:Good T x) :
  Calls Tryz.prog 101 #[.pointer (some ⟨p,0,none⟩)] w (IntP T w p A c L x (numbF T fin (psOf x)) (fun v k=>v=k)):=by
 obtain ⟨W1,HW1⟩:=nm (w.alloc (.cells #[.int .i64 0] 2))
 have u1:Upd Non w W1:=by rw [←HW1.out];exact Upd.refl.alloc _
 have b1:Blk W1 w.heap.size 2 #[.int .i64 0]:=by rw [←HW1.out];exact Blk.new _ _ _
 have hpw:p<w.heap.size:=h.blk.lt
 have hown:∀j,x.own p j→j<w.heap.size:=fun j hj=>h.lt hj
 have y0:=b1.cell 0;have f0:=b1.frozen 0;obtain ⟨W2,HW2⟩:=nm (W1.setCell ⟨w.heap.size,0,none⟩ (.int .i64 0))
 have b2:Blk W2 w.heap.size 2 #[.int .i64 0]:=by rw [←HW2.out];simpa using b1.set_ 0 (.int .i64 0)
 have u2:Upd Non w W2:=u1.trans (by rw [←HW2.out];exact updCell _ _ _ _) (fun i hi e=>by omega);have e1:=HW1.out;have e2:=HW2.out;have s2:=u2.size;have h1:=h.non u2
 have CW:=Lib.hid (rWordG_c hL h1 hx 123 #[.pointer (some ⟨w.heap.size,0,none⟩)] hcfN (fun k:Int=>#[.int .i64 k]) 0 b2 hpw (fun s y=>(decF s).map fun n=>(n,y)) (fun v k=>v=k)
  (fun s ps v y q=>by
   cases hd:decF s with
   | none=>rw [hd] at q;cases q
   | some n=>rw [hd] at q;simp only [Option.map_some] at q;injection q with q;injection q with _ q;subst q;exact ⟨Nat.le_succ _,Nat.le_succ _⟩)
  (fun s w1 _ hs _ u01=>rNumber1_c (h1.non u01) s (by omega) 0 (b2.upd u01 (fun f=>f)) (fun q=>by have:=hown _ q;omega) hpw))
 have HU2:=Lib.hid u2;clear h h1 b1 b2 u1 u2;go_enter Tryz.func101,Tryz.ntmps101
 go_wp2_with fail
 refine CW.out.mono ?_;rintro e w3 hw3;have HW3:=Lib.hid hw3;clear hw3 CW y0 f0 e1 e2;obtain ⟨k,y,ts,tp,ev,_,hb3,hy3,hg3,hl3,ho3,hu3,hr3⟩:=HW3.out;subst ev;have y1:=hb3.cell 0;have HY:=Lib.hid hy3;have HG:=Lib.hid hg3;have HL:=Lib.hid hl3;have HO:=Lib.hid ho3;have HU:=Lib.hid hu3;have HR:=Lib.hid hr3;clear hb3 hy3 hg3 hl3 ho3 hu3 hr3 HW3
 go_wp2_with fail
 go_ret
 exact ⟨k,y,rfl,HY.out,HG.out,HL.out,fun j hj=>(HO.out j hj).imp_right (fun q=>by omega),(HU2.out.mono (fun _ _ f=>f.elim)).trans HU.out (fun j hj q=>by rcases q with q | q;exact q;omega),HR.out⟩
set_option maxRecDepth 100000 in
set_option maxHeartbeats 4000000 in
theorem rPatternVar_c {L:List Tok} {T:List (Bs×Nat)} {fin:Nat} (hL:LOk L T fin) {w:World} {p:Nat} {A:Option Addr} {c:Nat} {x:St} (h:RdS w p A c L x) (hx:Good T x) (hlf:x.left=false) :
  Calls Tryz.prog 100 #[.pointer (some ⟨p,0,none⟩)] w (IntP T w p A c L x (pvarF T fin (psOf x)) (fun (v:Nat) k=>k=(v:Int))):=by
 obtain ⟨W0,HW0⟩:=nm (w.alloc (.cells #[.pointer (some ⟨p,0,none⟩)] 54))
 have u0:Upd Non w W0:=by rw [←HW0.out];exact Upd.refl.alloc _
 have b0:Blk W0 w.heap.size 54 #[.pointer (some ⟨p,0,none⟩)]:=by rw [←HW0.out];exact Blk.new _ _ _
 have s0:W0.heap.size=w.heap.size+1:=by rw [←HW0.out];simp
 obtain ⟨W1,HW1⟩:=nm (W0.alloc (.cells #[.int .i64 0] 3))
 have u1:Upd Non W0 W1:=by rw [←HW1.out];exact Upd.refl.alloc _
 have b1:Blk W1 (w.heap.size+1) 3 #[.int .i64 0]:=by rw [←HW1.out,←s0];exact Blk.new _ _ _
 have s1:W1.heap.size=w.heap.size+2:=by rw [←HW1.out];simp [s0]
 have hpw:p<w.heap.size:=h.blk.lt
 have hown:∀j,x.own p j→j<w.heap.size:=fun j hj=>h.lt hj
 have y0:=b1.cell 0;have f0:=b1.frozen 0;obtain ⟨W2,HW2⟩:=nm (W1.setCell ⟨w.heap.size+1,0,none⟩ (.int .i64 0))
 have b2:Blk W2 (w.heap.size+1) 3 #[.int .i64 0]:=by rw [←HW2.out];simpa using b1.set_ 0 (.int .i64 0)
 have u2:Upd (·=w.heap.size+1) W1 W2:=by rw [←HW2.out];exact updCell _ _ _ _
 have bb:Blk W2 w.heap.size 54 #[.pointer (some ⟨p,0,none⟩)]:=(b0.upd u1 (fun f=>f)).upd u2 (by omega);have u2:Upd Non w W2:=(u0.then_non u1).trans u2 (fun i hi e=>by omega);have e0:=HW0.out;have e1:=HW1.out;have e2:=HW2.out;have s2:=u2.size;have h1:=h.non u2;have d0:=bb.cell 0
 have CW:Hid (x.why=0→x.vs.length≤100000):=fun q=>by have:=hx.2 q;have:=hx.1;have:=hL.lt;have:=hL.len;omega
 have CW:=Lib.hid (rWordG_c hL h1 hx 122 #[.pointer (some ⟨w.heap.size,0,none⟩),.pointer (some ⟨w.heap.size+1,0,none⟩)] hcfV (fun k:Int=>#[.int .i64 k]) 0 b2 (by omega) (fun s y=>if 0<(varF s 63 y.vs false).1 then some ((varF s 63 y.vs false).1,y) else none) (fun (v:Nat) k=>k=(v:Int))
  (fun s ps v y q=>by
   split at q
   ·
    injection q with q;injection q with _ q;subst q;exact ⟨Nat.le_succ _,Nat.le_succ _⟩
   ·
    cases q)
  (fun s w1 _ hs h00 u01=>rPatternVar1_c (h1.non u01) hlf (CW.out h00) s (by omega) 0 (b2.upd u01 (fun f=>f)) (bb.upd u01 (fun f=>f)) (fun q=>by have:=hown _ q;omega) (fun q=>by have:=hown _ q;omega) (by omega)))
 have HU2:=Lib.hid u2;clear h h1 b0 b1 b2 bb u0 u1 u2;go_enter Tryz.func100,Tryz.ntmps100
 go_wp2_with fail
 refine CW.out.mono ?_;rintro e w3 hw3;have HW3:=Lib.hid hw3;clear hw3 CW y0 f0 e0 e1 e2 d0;obtain ⟨k,y,ts,tp,ev,_,hb3,hy3,hg3,hl3,ho3,hu3,hr3⟩:=HW3.out;subst ev;have y1:=hb3.cell 0;have HY:=Lib.hid hy3;have HG:=Lib.hid hg3;have HL:=Lib.hid hl3;have HO:=Lib.hid ho3;have HU:=Lib.hid hu3;have HR:=Lib.hid hr3;clear hb3 hy3 hg3 hl3 ho3 hu3 hr3 HW3
 go_wp2_with fail
 go_ret
 exact ⟨k,y,rfl,HY.out,HG.out,HL.out,fun j hj=>(HO.out j hj).imp_right (fun q=>by omega),(HU2.out.mono (fun _ _ f=>f.elim)).trans HU.out (fun j hj q=>by rcases q with q | q;exact q;omega),HR.out⟩
theorem lookF_right (l:Bs) (c:UInt8):(lookF l c false).2=l:=by
 unfold lookF
 split
 ·
  rfl
 ·
  split
  ·
   rename_i h;cases h
  ·
   rfl
def ivF (s:Bs) (x:PS):Option (Nat×PS):=match s with
 | [c]=>if isLw c=true∧0<(lookF x.ms c false).1 then some ((lookF x.ms c false).1,x) else none
 | _=>none
theorem ivF_none {s:Bs} (h:s.length≠1) (x:PS):ivF s x=none:=by
 unfold ivF
 split
 ·
  simp at h
 ·
  rfl
set_option maxRecDepth 100000 in
set_option maxHeartbeats 4000000 in
theorem rImmVar1_c {w:World} {p g bx:Nat} {A:Option Addr} {c:Nat} {L:List Tok} {x:St} (h:RdS w p A c L x) (hv:x.ms.length≤100000) (s:Bs) (hs:s.length≤1000000) (hg:Blk w g 3 #[.int .i64 0]) (hx:Blk w bx 54 #[.pointer (some ⟨p,0,none⟩)]) (hgo:¬x.own p g) (hxo:¬x.own p bx) (hpg:p<g) :
  Calls Tryz.prog 121 #[.string (kstr s),.pointer (some ⟨bx,0,none⟩),.pointer (some ⟨g,0,none⟩)] w (ClsI w p g 3 A c L x (ivF s (psOf x)) (fun (v:Nat) k=>k=(v:Int))):=by
 have hz:(kstr s).size=s.length:=kstr_size s;have d0:=hx.cell 0;have y0:=hg.cell 0;have f0:=hg.frozen 0;have HX:=Lib.hid hx;have HG:=Lib.hid hg;have H:=Lib.hid h
 have fz:decide ((0:Int)<0)=false:=by decide
 clear h hx hg
 by_cases h1:s.length=1
 ·
  match s,h1 with
  | [ch],_ =>
   have i0:=fun W=>run_at_str hz (show 0<1 by omega) W
   rw [kx_kstr,show ([ch]:Bs).getD 0 0=ch from rfl,show ((0:Nat):Int)=0 from rfl] at i0;rw [show ([ch]:Bs).length=1 from rfl] at hz;have HV:Hid (ivF [ch] (psOf x)=if isLw ch=true∧0<(lookF x.ms ch false).1 then some ((lookF x.ms ch false).1,psOf x) else none):=rfl;obtain ⟨str,Hstr⟩:=nm (kstr [ch]);rw [Hstr.out] at hz i0 ⊢;rw [HV.out]
   have CL:=Lib.hid (rIsLower_c ch w);obtain ⟨lw,Hlw⟩:=nm (isLw ch);rw [Hlw.out] at CL ⊢
   cases lw with
   | false =>
    rw [if_neg (fun q=>by cases q.1)];clear HV;go_enter Tryz.func121,Tryz.ntmps121
    go_wp2_with fail
    refine CL.out.mono ?_;rintro e w1 ⟨rfl,rfl⟩
    go_wp2_with fail
    go_ret;exact ⟨false,0,x,rfl,HG.out,H.out,Keeps.refl,Upd.refl,(fun q=>by cases q),(fun _=>rfl)⟩
   | true =>
    obtain ⟨V,HVV⟩:=nm (lookF x.ms ch false).1;have hnv:=lookF_right x.ms ch;obtain ⟨wD,HwD⟩:=nm w.drew
    have uD:Upd Non w wD:=by rw [←HwD.out];exact Upd.refl.drew
    have C1:=Lib.hid (rLookM_c (H.out.non uD) hv ch false);rw [HVV.out,hnv] at C1;rw [HVV.out];obtain ⟨o,Ho⟩:=nm (if true=true∧0<V then some (V,psOf x) else none);rw [Ho.out];clear HV hnv;go_enter Tryz.func121,Tryz.ntmps121
    go_wp2_with fail
    refine CL.out.mono ?_;rintro e w1 ⟨rfl,rfl⟩
    go_upto_region 2 with fail
    refine wp_region_held_drew (S:=fun w'=>w'.cell? ⟨bx,0,none⟩=some (.pointer (some ⟨p,0,none⟩))) (by kernel_rfl) (by rw [HwD.out];exact cell_upd d0 uD (fun f=>f)) (fun hHeld=>?_)
    rw [HwD.out] at hHeld ⊢;refine wpT 0 ?_
    try simp only [put_y,put_z]
    refine wpT 1 ?_
    try simp only [put_y,put_z]
    refine wpT 2 ?_
    try simp only [put_y,put_z]
    refine wpT 3 ?_
    try simp only [put_y,put_z]
    refine wpT 4 ?_
    try simp only [put_y,put_z]
    refine wpAnyH_ready (rs:=[5]) (by kernel_rfl) (by simp) ?_;refine AllReadyH.cons rfl (fun K hK=>?_) AllReadyH.nil;go_simp;refine C1.out.mono ?_;rintro e w2 ⟨rfl,y,hy,hy1,hy2,hk,hu⟩
    go_wp2_with fail
    have d2:=cell_upd (cell_upd d0 uD (fun f=>f)) hu hxo;refine hK.out _ _ ?_ (fun hHeld=>?_)
    ·
     exact d2
    clear hK K
    try simp only [put_y,put_z]
    have hg2:=(HG.out.upd uD (fun f=>f)).upd hu hgo;have k0:=hg2.cell 0;have f2:=hg2.frozen 0;have HY:=Lib.hid hy;have HK:=Lib.hid hk;have HU:=Lib.hid hu;have HG2:=Lib.hid hg2;have H1:=Lib.hid hy1;have H2:=Lib.hid hy2;clear hy hk hu hg2 hy1 hy2 y0 f0;refine wpAnyH_ready (rs:=[6]) (by kernel_rfl) (by simp) ?_;refine AllReadyH.cons rfl (fun K hK=>?_) AllReadyH.nil;go_simp
    have us:=updCell w2 g 0 (.int .i64 (V:Int))
    have hb3:Blk (w2.setCell ⟨g,0,none⟩ (.int .i64 (V:Int))) g 3 #[.int .i64 (V:Int)]:=by simpa using HG2.out.set_ 0 (.int .i64 (V:Int))
    have hgb:bx≠g:=(((HX.out.upd uD (fun f=>f)).upd HU.out hxo).ne_ HG2.out (by decide));refine hK.out _ _ ?_ (fun hHeld=>?_)
    ·
     exact cell_upd d2 us hgb
    clear hK K
    try simp only [put_y,put_z]
    refine wpAnyH_done (by kernel_rfl) ?_ _;have y1:=hb3.cell 0;have HB3:=Lib.hid hb3;clear hb3 k0 f2 d2 d0 hHeld
    have hyo:¬y.own p g:=fun q=>by
     rcases HK.out.own g q with r | r
     ·
      exact hgo r
     ·
      have:=HG.out.lt;have:=uD.size;omega
    have HYO:=Lib.hid hyo;clear hyo
    by_cases hp:0<V
    ·
     have fp:decide ((0:Int)<(V:Int))=true:=decide_eq_true (by omega)
     go_wp2_with fail
     go_ret
     refine ⟨_,V,y,rfl,HB3.out,HY.out.upd us (fun k _ e=>by subst e;exact ⟨hpg,fun r=>HYO.out (.inr (.inl r)),fun r=>HYO.out (.inr (.inr r))⟩),⟨HK.out.i,HK.out.why,HK.out.ea,HK.out.left,fun j hj=>(HK.out.own j hj).imp_right (fun q=>Nat.le_trans uD.size q)⟩,((uD.mono (fun _ _ f=>f.elim)).trans HU.out (fun _ _ q=>.inl q)).trans us (fun _ _ q=>.inr q),fun q=>?_,fun q=>?_⟩
     ·
      exact ⟨V,psOf x,by rw [←Ho.out,if_pos ⟨trivial,hp⟩],rfl,H2.out,H1.out⟩
     ·
      cases q
    ·
     have fp:decide ((0:Int)<(V:Int))=false:=decide_eq_false (by omega);have HP:=Lib.hid hp;clear hp
     go_wp2_with fail
     go_ret
     refine ⟨false,V,y,by rw [decide_eq_false HP.out];rfl,HB3.out,HY.out.upd us (fun k _ e=>by subst e;exact ⟨hpg,fun r=>HYO.out (.inr (.inl r)),fun r=>HYO.out (.inr (.inr r))⟩),⟨HK.out.i,HK.out.why,HK.out.ea,HK.out.left,fun j hj=>(HK.out.own j hj).imp_right (fun q=>Nat.le_trans uD.size q)⟩,((uD.mono (fun _ _ f=>f.elim)).trans HU.out (fun _ _ q=>.inl q)).trans us (fun _ _ q=>.inr q),fun q=>?_,fun q=>?_⟩
     ·
      cases q
     ·
      rw [←Ho.out,if_neg (fun q=>HP.out q.2)]
 ·
  rw [ivF_none h1]
  have fl:(((s.length:Nat):Int)==1)=false:=by simp;omega
  obtain ⟨str,Hstr⟩:=nm (kstr s);rw [Hstr.out] at hz ⊢;obtain ⟨n,Hn⟩:=nm s.length;rw [Hn.out] at hz fl;have HN:=Lib.hid h1;clear h1;go_enter Tryz.func121,Tryz.ntmps121
  go_wp2_with fail
  go_ret;exact ⟨false,0,x,rfl,HG.out,H.out,Keeps.refl,Upd.refl,(fun q=>by cases q),(fun _=>rfl)⟩
theorem hcfI:∀(args:Array Value) (w:World),(callFunc 121 args).run Tryz.prog w=.ok (.enter 121 args) w:=fun args w=>by
 simp [callFunc,Tryz.func121,Tryz.f121]
set_option maxRecDepth 100000 in
set_option maxHeartbeats 4000000 in
theorem rImmVar_c {L:List Tok} {T:List (Bs×Nat)} {fin:Nat} (hL:LOk L T fin) {w:World} {p:Nat} {A:Option Addr} {c:Nat} {x:St} (h:RdS w p A c L x) (hx:Good T x) :
  Calls Tryz.prog 99 #[.pointer (some ⟨p,0,none⟩)] w (IntP T w p A c L x (ivarF T fin (psOf x)) (fun (v:Nat) k=>k=(v:Int))):=by
 obtain ⟨W0,HW0⟩:=nm (w.alloc (.cells #[.pointer (some ⟨p,0,none⟩)] 54))
 have u0:Upd Non w W0:=by rw [←HW0.out];exact Upd.refl.alloc _
 have b0:Blk W0 w.heap.size 54 #[.pointer (some ⟨p,0,none⟩)]:=by rw [←HW0.out];exact Blk.new _ _ _
 have s0:W0.heap.size=w.heap.size+1:=by rw [←HW0.out];simp
 obtain ⟨W1,HW1⟩:=nm (W0.alloc (.cells #[.int .i64 0] 3))
 have u1:Upd Non W0 W1:=by rw [←HW1.out];exact Upd.refl.alloc _
 have b1:Blk W1 (w.heap.size+1) 3 #[.int .i64 0]:=by rw [←HW1.out,←s0];exact Blk.new _ _ _
 have s1:W1.heap.size=w.heap.size+2:=by rw [←HW1.out];simp [s0]
 have hpw:p<w.heap.size:=h.blk.lt
 have hown:∀j,x.own p j→j<w.heap.size:=fun j hj=>h.lt hj
 have y0:=b1.cell 0;have f0:=b1.frozen 0;obtain ⟨W2,HW2⟩:=nm (W1.setCell ⟨w.heap.size+1,0,none⟩ (.int .i64 0))
 have b2:Blk W2 (w.heap.size+1) 3 #[.int .i64 0]:=by rw [←HW2.out];simpa using b1.set_ 0 (.int .i64 0)
 have u2:Upd (·=w.heap.size+1) W1 W2:=by rw [←HW2.out];exact updCell _ _ _ _
 have bb:Blk W2 w.heap.size 54 #[.pointer (some ⟨p,0,none⟩)]:=(b0.upd u1 (fun f=>f)).upd u2 (by omega);have u2:Upd Non w W2:=(u0.then_non u1).trans u2 (fun i hi e=>by omega);have e0:=HW0.out;have e1:=HW1.out;have e2:=HW2.out;have s2:=u2.size;have h1:=h.non u2;have d0:=bb.cell 0
 have CW:Hid (x.why=0→x.ms.length≤100000):=fun q=>by have:=hx.2 q;have:=hx.1;have:=hL.lt;have:=hL.len;omega
 have CW:=Lib.hid (rWordG_c hL h1 hx 121 #[.pointer (some ⟨w.heap.size,0,none⟩),.pointer (some ⟨w.heap.size+1,0,none⟩)] hcfI (fun k:Int=>#[.int .i64 k]) 0 b2 (by omega) ivF (fun (v:Nat) k=>k=(v:Int))
  (fun s ps v y q=>by
   unfold ivF at q
   split at q
   ·
    split at q
    ·
     injection q with q;injection q with _ q;subst q;exact ⟨Nat.le_succ _,Nat.le_succ _⟩
    ·
     cases q
   ·
    cases q)
  (fun s w1 _ hs h00 u01=>rImmVar1_c (h1.non u01) (CW.out h00) s (by omega) (b2.upd u01 (fun f=>f)) (bb.upd u01 (fun f=>f)) (fun q=>by have:=hown _ q;omega) (fun q=>by have:=hown _ q;omega) (by omega)))
 have HU2:=Lib.hid u2;clear h h1 b0 b1 b2 bb u0 u1 u2;go_enter Tryz.func99,Tryz.ntmps99
 go_wp2_with fail
 refine CW.out.mono ?_;rintro e w3 hw3;have HW3:=Lib.hid hw3;clear hw3 CW y0 f0 e0 e1 e2 d0;obtain ⟨k,y,ts,tp,ev,_,hb3,hy3,hg3,hl3,ho3,hu3,hr3⟩:=HW3.out;subst ev;have y1:=hb3.cell 0;have HY:=Lib.hid hy3;have HG:=Lib.hid hg3;have HL:=Lib.hid hl3;have HO:=Lib.hid ho3;have HU:=Lib.hid hu3;have HR:=Lib.hid hr3;clear hb3 hy3 hg3 hl3 ho3 hu3 hr3 HW3
 go_wp2_with fail
 go_ret
 exact ⟨k,y,rfl,HY.out,HG.out,HL.out,fun j hj=>(HO.out j hj).imp_right (fun q=>by omega),(HU2.out.mono (fun _ _ f=>f.elim)).trans HU.out (fun j hj q=>by rcases q with q | q;exact q;omega),HR.out⟩
theorem condL_len:condL.length=6:=rfl
set_option maxRecDepth 100000 in
theorem condNames_c (w:World):Calls Tryz.prog 77 #[] w fun e w'=>e=.returned (.slice (some ⟨w.heap.size,0,none⟩) 6 6)∧Sl w' (fun _=>True) (some ⟨w.heap.size,0,none⟩) (sCells condL)∧Sl w' (fun k=>k=w.heap.size) (some ⟨w.heap.size,0,none⟩) (sCells condL)∧Upd Non w w':=by
 go_enter Tryz.func77,Tryz.ntmps77
 go_wp2_with fail
 go_ret;exact ⟨rfl,Sl.new' w _ _ rfl,Sl.new w _ (sCells condL),Upd.refl.alloc _⟩
def kndF:List Bs→Bs→Nat→Nat→Nat
 | [],_,_,a=>a
 | n::l,s,i,a=>kndF l s (i+1) (if n=s then i+1 else a)
theorem kndF_step {l:List Bs} {k:Nat} (h:k<l.length) (s:Bs) (i a:Nat):kndF (l.drop k) s i a=kndF (l.drop (k+1)) s (i+1) (if l[k]=s then i+1 else a):=by
 rw [List.drop_eq_getElem_cons h];rfl
theorem knd_eq (s:Bs):kndF condL s 0 0=((findL condL s 0).map (·+1)).getD 0:=by
 by_cases h:s∈condL
 ·
  have h2:∀x∈condL,kndF condL x 0 0=((findL condL x 0).map (·+1)).getD 0:=by decide +kernel
  exact h2 s h
 ·
  have h1:∀(l:List Bs) (i:Nat),s ∉ l→kndF l s i 0=0∧findL l s i=none:=by
   intro l
   induction l with
   | nil=>intro i _;exact ⟨rfl,rfl⟩
   | cons n l ih =>
    intro i hn
    have hne:¬n=s:=fun e=>hn (by rw [e];exact List.mem_cons_self)
    have:=ih (i+1) (fun q=>hn (List.mem_cons_of_mem _ q));simp only [kndF,findL,if_neg hne];exact this
  obtain ⟨e1,e2⟩:=h1 condL 0 h;rw [e1,e2];rfl
def knF (s:Bs) (x:PS):Option (Nat×PS):=(findL condL s 0).map fun i=>(i+1,x)
def cdc (k:Int):Array Value:=#[.int .i64 k,.int .i64 0,.int .i64 0,.int .i64 0]
def ClsK (w:World) (p g:Nat) (A:Option Addr) (c:Nat) (L:List Tok) (x:St) (o:Option (Nat×PS)) (e:Ending) (w':World):Prop :=
 ∃(b:Bool) (k:Int) (x2:St),e=.returned (.bool b)∧Blk w' g 69 (cdc k)∧RdS w' p A c L x2∧Keeps w p x x2∧Upd (fun k=>x.own p k∨k=g) w w'∧(b=true→∃v ps,o=some (v,ps)∧k=(v:Int)∧x2.vs=ps.vs∧x2.ms=ps.ms)∧(b=false→o=none)
set_option maxRecDepth 100000 in
set_option maxHeartbeats 4000000 in
theorem rCond1_c {w:World} {p g:Nat} {A:Option Addr} {c:Nat} {L:List Tok} {x:St} (h:RdS w p A c L x) (s:Bs) (hg:Blk w g 69 (cdc 0)) (hgo:¬x.own p g) (hpg:p<g) :
  Calls Tryz.prog 98 #[.string (kstr s),.pointer (some ⟨g,0,none⟩)] w (ClsK w p g A c L x (knF s (psOf x))):=by
 have C:=Lib.hid (condNames_c w);obtain ⟨o,Ho⟩:=nm (knF s (psOf x));rw [Ho.out];obtain ⟨V,HV⟩:=nm (kndF condL s 0 0);have H:=Lib.hid h;have HG:=Lib.hid hg;have hgw:=hg.lt;obtain ⟨str,Hstr⟩:=nm (kstr s);rw [Hstr.out];clear h hg;go_enter Tryz.func98,Tryz.ntmps98
 go_wp2_with fail
 refine C.out.mono ?_;rintro e W ⟨rfl,_,hs,hu⟩;clear C;have HG1:=Lib.hid (HG.out.upd hu (fun f=>f));have HU:=Lib.hid hu
 go_wp2_with fail
 obtain ⟨A',HA⟩:=nm (some (⟨w.heap.size,0,none⟩:Addr));rw [HA.out] at hs ⊢;clear hu
 go_loopg [8] 6 (fun g1 i wr=>∃(k a:Nat),Hid (g1=6 - k)∧k≤6∧i=.int .i64 k∧Hid (V=kndF (condL.drop k) s k a)∧Hid (Blk wr g 69 (cdc a))∧Upd (·=g) W wr)
 case atStart=>exact ⟨0,0,rfl,by omega,rfl,HV.out.symm,HG1.out,Upd.refl⟩
 case round =>
  obtain ⟨k,a,Hg,hk,rfl,HK,HB,hu1⟩:=hrel
  by_cases hlt:k<6
  ·
   have ti:decide ((k:Int)<6)=true:=decide_eq_true (by omega);have hkl:k<condL.length:=hlt;have hs1:=hs.upd hu1 (fun j _ e q=>by omega);obtain ⟨b,o',rfl,hFb,_,hc⟩:=hs1.at_ (k:=k) (by simpa [sCells] using hkl);have HF:=Lib.hid (kndF_step hkl s k a)
   have hc2:wr.cell? ⟨b,o'+k,none⟩=some (.string (kstr condL[k])):=by rw [hc];simp [sCells]
   generalize condL[k]=nk at hc2 HF
   have hq:((kstr nk).toList==str.toList)=decide (nk=s):=by rw [←Hstr.out,str_beq]
   obtain ⟨nks,Hnks⟩:=nm (kstr nk);rw [Hnks.out] at hc2 hq;have hb:=HB.out;unfold cdc at hb;have y0:=hb.cell 0;have f0:=hb.frozen 0;have hw1:IntKind.i64.wrap (1+(k:Int))=1+(k:Int):=i64w_of (by unfold I64;omega);have hw2:wrap64 (1+(k:Int))=1+(k:Int):=wrap64_of (by unfold I64;omega);clear hc hs1 hb hFb
   by_cases he:nk=s
   ·
    rw [decide_eq_true he] at hq
    have HK2:Hid (V=kndF (condL.drop (k+1)) s (k+1) (k+1)):=by show _=_;rw [HK.out,HF.out,if_pos he]
    clear he HF HK
    go_wp2_with fail
    go_roundg (6 - (k+1))
    case measure=>rw [Hg.out];omega
    case rel=>exact ⟨k+1,k+1,rfl,by omega,by go_num,HK2,by have:=HB.out.set_ 0 (.int .i64 (1+(k:Int)));rw [show ((k+1:Nat):Int)=1+(k:Int) by omega];exact (by simpa [cdc] using this : Blk _ _ _ _),hu1.trans (updCell _ _ _ _) (fun _ _ q=>q)⟩
   ·
    rw [decide_eq_false he] at hq
    have HK2:Hid (V=kndF (condL.drop (k+1)) s (k+1) a):=by show _=_;rw [HK.out,HF.out,if_neg he]
    clear he HF HK
    go_wp2_with fail
    go_roundg (6 - (k+1))
    case measure=>rw [Hg.out];omega
    case rel=>exact ⟨k+1,a,rfl,by omega,by go_num,HK2,HB.out,hu1⟩
  ·
   obtain rfl:k=6:=by omega
   have HR:Hid (V=a):=by show _=_;rw [HK.out,List.drop_of_length_le (by rw [condL_len];exact Nat.le_refl _)];rfl
   have HE:=Lib.hid (knd_eq s);have hb:=HB.out;unfold cdc at hb;have y0:=hb.cell 0;have HU1:=Lib.hid hu1;clear HK hb hu1
   by_cases ha:0<a
   ·
    have fp:decide ((0:Int)<(a:Int))=true:=decide_eq_true (by omega)
    go_wp2_with fail
    go_ret
    refine ⟨true,a,x,rfl,HB.out,(H.out.non HU.out).upd HU1.out (fun k _ e=>by subst e;exact ⟨hpg,fun r=>hgo (.inr (.inl r)),fun r=>hgo (.inr (.inr r))⟩),Keeps.refl,(HU.out.mono (fun _ _ f=>f.elim)).trans HU1.out (fun _ _ q=>.inr q),fun _=>?_,fun q=>by cases q⟩
    have h1:=HE.out;rw [HV.out,HR.out] at h1
    cases hf:findL condL s 0 with
    | none=>rw [hf] at h1;simp at h1;omega
    | some i =>
     rw [hf] at h1;exact ⟨i+1,psOf x,by rw [←Ho.out];unfold knF;rw [hf];rfl,by rw [h1];rfl,rfl,rfl⟩
   ·
    have HP:=Lib.hid ha
    obtain rfl:a=0:=by omega
    have fp:decide ((0:Int)<((0:Nat):Int))=false:=by decide
    go_wp2_with fail
    go_ret
    refine ⟨false,0,x,rfl,HB.out,(H.out.non HU.out).upd HU1.out (fun k _ e=>by subst e;exact ⟨hpg,fun r=>hgo (.inr (.inl r)),fun r=>hgo (.inr (.inr r))⟩),Keeps.refl,(HU.out.mono (fun _ _ f=>f.elim)).trans HU1.out (fun _ _ q=>.inr q),fun q=>(by cases q),fun _=>?_⟩
    have h1:=HE.out;rw [HV.out,HR.out] at h1
    cases hf:findL condL s 0 with
    | none=>rw [←Ho.out];unfold knF;rw [hf];rfl
    | some i=>rw [hf] at h1;simp at h1
structure LocS (m:Nat) (w0 w:World) (p:Nat) (A:Option Addr) (c:Nat) (L:List Tok) (x y:St):Prop where
 rd:RdS w p A c L y
 own:∀k,y.own p k→x.own p k∨w0.heap.size+m≤k
 xlt:∀k,x.own p k→k<w0.heap.size
 upd:Upd (x.own p) w0 w
 le:w0.heap.size+m≤w.heap.size
section
variable {m:Nat} {w0 w w':World} {p:Nat} {A:Option Addr} {c:Nat} {L:List Tok} {x y y':St}
theorem LocS.not (h:LocS m w0 w p A c L x y) {b:Nat} (h1:w0.heap.size≤b) (h2:b<w0.heap.size+m):¬y.own p b:=fun q=>by
 rcases h.own b q with r | r
 ·
  have:=h.xlt b r;omega
 ·
  omega
theorem LocS.call (h:LocS m w0 w p A c L x y) (hr:RdS w' p A c L y') (ho:∀k,y'.own p k→y.own p k∨w.heap.size≤k) (u:Upd (y.own p) w w'):LocS m w0 w' p A c L x y':=by
 have hl:=h.le;refine ⟨hr,fun k q=>?_,h.xlt,h.upd.trans u (fun k hk q=>?_),Nat.le_trans hl u.size⟩
 ·
  rcases ho k q with r | r
  ·
   exact h.own k r
  ·
   exact .inr (by omega)
 ·
  rcases h.own k q with r | r
  ·
   exact r
  ·
   omega
theorem LocS.keep (h:LocS m w0 w p A c L x y) (u:Upd (y.own p) w w') {b:Nat} (h1:w0.heap.size≤b) (h2:b<w0.heap.size+m) {t:TypeId} {cs:Array Value} (hb:Blk w b t cs):Blk w' b t cs:=hb.upd u (h.not h1 h2)
theorem LocS.loc (h:LocS m w0 w p A c L x y) {b:Nat} (u:Upd (·=b) w w') (h1:w0.heap.size≤b) (h2:b<w0.heap.size+m):LocS m w0 w' p A c L x y:=by
 have hn:=h.not h1 h2;have hp:=h.xlt p (.inl rfl)
 exact ⟨h.rd.upd u (fun k _ e=>by subst e;exact ⟨by omega,fun r=>hn (.inr (.inl r)),fun r=>hn (.inr (.inr r))⟩),h.own,h.xlt,h.upd.trans u (fun k hk e=>by omega),Nat.le_trans h.le u.size⟩
end
def set4 (w:World) (g:Nat) (a b c d:Value):World:=(((w.setCell ⟨g,0,none⟩ a).setCell ⟨g,1,none⟩ b).setCell ⟨g,2,none⟩ c).setCell ⟨g,3,none⟩ d
theorem set4_blk {w:World} {g:Nat} {t:TypeId} {x0 x1 x2 x3:Value} (h:Blk w g t #[x0,x1,x2,x3]) (a b c d:Value):Blk (set4 w g a b c d) g t #[a,b,c,d]:=by
 have h1:=(((h.set_ 0 a).set_ 1 b).set_ 2 c).set_ 3 d
 simpa [set4] using h1
theorem set4_upd (w:World) (g:Nat) (a b c d:Value):Upd (·=g) w (set4 w g a b c d) :=
 (((Upd.refl.setCell (S:=(·=g)) (p:=⟨g,0,none⟩) (.inl rfl) _).setCell (p:=⟨g,1,none⟩) (.inl rfl) _).setCell (p:=⟨g,2,none⟩) (.inl rfl) _).setCell (p:=⟨g,3,none⟩) (.inl rfl) _
theorem set4_eq (w:World) (g:Nat) (a b c d:Value):(((w.setCell ⟨g,0,none⟩ a).setCell ⟨g,1,none⟩ b).setCell ⟨g,2,none⟩ c).setCell ⟨g,3,none⟩ d=set4 w g a b c d:=rfl
def CdR (T:List (Bs×Nat)) (fin:Nat) (z u:St) (k b n:Int):Prop :=
 (k=2∨k=3→b=0∧ResS z u (numbF T fin (psOf z)) (fun v=>v=n∧z.i+1≤u.i))∧(k=4→n=0∧ResS z u (pvarF T fin (psOf z)) (fun (v:Nat)=>b=(v:Int)∧z.i+1≤u.i)) ∧
 (k=5∨k=6→n=0∧ResS z u (ivarF T fin (psOf z)) (fun (v:Nat)=>b=(v:Int)∧z.i+1≤u.i))∧(k=1→b=0∧n=0∧u=z)∧(z.why≠0→u.why=z.why∧u.ea=z.ea)
theorem kind_le {T:List (Bs×Nat)} {fin:Nat} {x y:PS} {v:Nat} (h:kindF T fin x=.ok (v,y)):1≤v∧v≤6:=by
 have hf:∀(l:List Bs) (s:Bs) (i j:Nat),findL l s i=some j→i≤j∧j<i+l.length:=by
  intro l
  induction l with
  | nil=>intro s i j h;cases h
  | cons n l ih =>
   intro s i j h;simp only [findL] at h
   split at h
   ·
    injection h with h;subst h;simp
   ·
    have:=ih s (i+1) j h;simp only [List.length_cons];omega
 unfold kindF at h;rw [wrd_eq] at h
 split at h
 ·
  split at h
  ·
   rename_i a y' h2
   injection h with h;injection h with h _;subst h
   cases hd:findL condL _ 0 with
   | none=>rw [hd] at h2;cases h2
   | some j =>
    rw [hd] at h2;simp only [Option.map_some] at h2
    injection h2 with h2;injection h2 with h2 _;subst h2
    have:=hf _ _ _ _ hd;rw [condL_len] at this;omega
  ·
   cases h
 ·
  cases h
theorem pcond_fin {T:List (Bs×Nat)} {fin:Nat} {x y z u:St} {k a b n:Int} (h1:ResS x y (kindF T fin (psOf x)) (fun (v:Nat)=>k=(v:Int)∧x.i+1≤y.i))
  (h2:ResS y z (if k=6 then ivarF T fin (psOf y) else pvarF T fin (psOf y)) (fun (v:Nat)=>a=(v:Int)∧y.i+1≤z.i)) (h3:CdR T fin z u k b n) :
  ResS x u (pcondF T fin (psOf x)) (fun v=>v=⟨k,a,b,n⟩∧x.i+1≤u.i):=by
 obtain ⟨g1,g2,g3,g4,he⟩:=h3
 have he1:y.why≠0→u.why=y.why∧u.ea=y.ea:=fun q=>by
  have e1:=h2.2 q;have e2:=he (by rw [e1.1];exact q);exact ⟨e2.1.trans e1.1,e2.2.trans e1.2⟩
 refine ⟨fun h0=>?_,fun h0=>?_⟩
 ·
  have k1:=h1.1 h0;unfold pcondF
  cases hk:kindF T fin (psOf x) with
  | error e =>
   rw [hk] at k1
   have hn:y.why≠0:=by rw [k1.1];exact wrdF_err hk
   exact ⟨(he1 hn).1.trans k1.1,(he1 hn).2.trans k1.2⟩
  | ok v =>
   obtain ⟨v,ps⟩:=v;have hv:=kind_le hk;rw [hk] at k1;obtain ⟨hy0,rfl,rfl,hi1⟩:=k1;dsimp only;have k2:=h2.1 hy0
   have e6:(if ((v:Nat):Int)=6 then ivarF T fin (psOf y) else pvarF T fin (psOf y))=(if v=6 then ivarF T fin (psOf y) else pvarF T fin (psOf y)):=by
    by_cases q:v=6
    ·
     rw [if_pos q,if_pos (by omega)]
    ·
     rw [if_neg q,if_neg (by omega)]
   rw [e6] at k2
   cases hA:(if v=6 then ivarF T fin (psOf y) else pvarF T fin (psOf y)) with
   | error e =>
    rw [hA] at k2
    have hn:z.why≠0:=by
     rw [k2.1]
     split at hA
     ·
      exact wrdF_err hA
     ·
      exact wrdF_err hA
    exact ⟨(he hn).1.trans k2.1,(he hn).2.trans k2.2⟩
   | ok va =>
    obtain ⟨va,ps⟩:=va;rw [hA] at k2;obtain ⟨hz0,rfl,rfl,hi2⟩:=k2;dsimp only
    by_cases c1:v=1
    ·
     obtain ⟨rfl,rfl,rfl⟩:=g4 (by omega);subst c1;rw [if_pos rfl];exact ⟨hz0,rfl,rfl,by omega⟩
    ·
     rw [if_neg c1]
     by_cases c2:v=2∨v=3
     ·
      obtain ⟨rfl,r⟩:=g1 (by omega);have r:=r.1 hz0;rw [if_pos c2]
      cases hN:numbF T fin (psOf z) with
      | error e=>rw [hN] at r;exact r
      | ok v2=>rw [hN] at r;obtain ⟨r0,r1,r2,r3⟩:=r;exact ⟨r0,r1,by rw [r2],by omega⟩
     ·
      rw [if_neg c2]
      by_cases c4:v=4
      ·
       obtain ⟨rfl,r⟩:=g2 (by omega);have r:=r.1 hz0;rw [if_pos c4]
       cases hN:pvarF T fin (psOf z) with
       | error e=>rw [hN] at r;exact r
       | ok v2=>rw [hN] at r;obtain ⟨r0,r1,r2,r3⟩:=r;exact ⟨r0,r1,by rw [r2,c4];rfl,by omega⟩
      ·
       obtain ⟨rfl,r⟩:=g3 (by omega);have r:=r.1 hz0;rw [if_neg c4]
       cases hN:ivarF T fin (psOf z) with
       | error e=>rw [hN] at r;exact r
       | ok v2=>rw [hN] at r;obtain ⟨r0,r1,r2,r3⟩:=r;exact ⟨r0,r1,by rw [r2],by omega⟩
 ·
  have k1:=h1.2 h0
  have hn:y.why≠0:=by rw [k1.1];exact h0
  exact ⟨(he1 hn).1.trans k1.1,(he1 hn).2.trans k1.2⟩
structure CdFm (c:Cd):Prop where
 k0:1≤c.kind
 k1:c.kind≤6
 a0:0<c.a
 a1:c.a≤100
 b0:4≤c.kind→0<c.b
 b1:4≤c.kind→c.b≤100
 n0:-9223372036854775808≤c.n
 n1:c.n≤9223372036854775807
theorem fmtC_len {c:Cd} (h:CdFm c):(fmtC c).length≤40:=by
 have e1:=condNm_len c.kind;have e2:=textF_len ⟨h.n0,h.n1⟩;unfold fmtC;simp only [List.length_append,List.length_singleton]
 have : (if c.kind=1 then vnF c.a else if c.kind=4 then vnF c.a++[32]++vnF c.b else if c.kind=5 then vnF c.a++[32]++inF c.b else if c.kind=6 then inF c.a++[32]++inF c.b else vnF c.a++[32]++textF c.n).length≤24:=by
  repeat' split
  all_goals simp [vnF,inF]
  all_goals omega
 omega
theorem catF {a b c:Bs}:(kstr a++kstr b++({ data:=#[32] }:ByteArray))++kstr c=kstr (a++(b++[32]++c)):=by
 rw [show ({ data:=#[32] }:ByteArray)=kstr [32] from rfl,kstr_app,kstr_app,kstr_app];simp
set_option maxRecDepth 100000 in
set_option maxHeartbeats 2000000 in
theorem rFormatCond_c (c:Cd) (h:CdFm c) (w:World):Calls Tryz.prog 33 #[.agg #[.int .i64 c.kind,.int .i64 c.a,.int .i64 c.b,.int .i64 c.n]] w fun e w'=>e=.returned (.string (kstr (fmtC c)))∧Upd Non w w':=by
 obtain ⟨W,HW⟩:=nm (w.alloc (.cells #[.int .i64 c.kind,.int .i64 c.a,.int .i64 c.b,.int .i64 c.n] 69))
 have hU:Upd Non w W:=by rw [←HW.out];exact Upd.refl.alloc _
 have hb:Blk W w.heap.size 69 #[.int .i64 c.kind,.int .i64 c.a,.int .i64 c.b,.int .i64 c.n]:=by rw [←HW.out];exact Blk.new _ _ _
 have e0:=HW.out;have HU:=Lib.hid hU;have HB:=Lib.hid hb;have H:=Lib.hid h;have c0:=hb.cell 0;have C:=Lib.hid (fun W=>condNames_c W);have hk0:=h.k0;have hk1:=h.k1
 have HF:Hid (fmtC c=(condNm c.kind++[32])++(if c.kind=1 then vnF c.a else if c.kind=4 then vnF c.a++[32]++vnF c.b else if c.kind=5 then vnF c.a++[32]++inF c.b else if c.kind=6 then inF c.a++[32]++inF c.b else vnF c.a++[32]++textF c.n)):=rfl
 obtain ⟨res,Hres⟩:=nm (fmtC c);rw [Hres.out] at HF ⊢;have hzn:(kstr (condNm c.kind)).size≤7:=ksz (condNm_len _);have hz3:(kstr (condNm c.kind++[32])).size≤8:=ksz (by have:=condNm_len c.kind;simp;omega);have h3:kstr (condNm c.kind)++({ data:=#[32] }:ByteArray)=kstr (condNm c.kind++[32]):=kstr_app _ [32]
 obtain ⟨j,hj⟩:∃j:Nat,c.kind=1+j:=⟨(c.kind - 1).toNat,by omega⟩
 have hj6:j<6:=by omega
 have hjl:j<condL.length:=hj6
 have HN:Hid (condNm c.kind=condL[j]):=by
  show _=_;unfold condNm;rw [show (c.kind - 1).toNat=j by omega,List.getD,List.getElem?_eq_getElem hjl,Option.getD_some]
 have tj:1+(j:Int) - 1=(j:Int):=by omega
 have hwj:IntKind.i64.wrap (j:Int)=(j:Int):=by
  simp [IntKind.wrap,IntKind.bits,IntKind.signed];omega
 have hlt6:(j:Int)<6:=by omega
 have HJ:=Lib.hid hj;obtain ⟨ns,Hns⟩:=nm (kstr (condNm c.kind));obtain ⟨s3,Hs3⟩:=nm (kstr (condNm c.kind++[32]));rw [Hns.out] at hzn h3;rw [Hs3.out] at hz3 h3;rw [hj] at c0 e0;rw [hj];clear hU hb h hj hk0 hk1;go_enter Tryz.func33,Tryz.ntmps33
 go_upto_region 1 with fail
 go_cut [3] (fun s wx=>s=.string s3∧Upd Non W wx)
 case first =>
  obtain ⟨wD,HwD⟩:=nm W.drew
  have uD:Upd Non W wD:=by rw [←HwD.out];exact Upd.refl.drew
  refine wp_region_held_drew (S:=fun w'=>w'.cell? ⟨w.heap.size,0,none⟩=some (.int .i64 (1+(j:Int)))) (by kernel_rfl) (by rw [HwD.out];exact cell_upd c0 uD (fun f=>f)) (fun hHeld=>?_)
  rw [HwD.out] at hHeld ⊢
  have hq1:¬(9223372036854775807<ns.size+1):=by omega
  refine wpT 1 ?_
  try simp only [put_y,put_z]
  refine wpT 2 ?_
  try simp only [put_y,put_z]
  refine wpT 3 ?_
  try simp only [put_y,put_z]
  refine wpAnyH_ready (rs:=[0]) (by kernel_rfl) (by simp) ?_;refine AllReadyH.cons rfl (fun K hK=>?_) AllReadyH.nil;go_simp;refine (C.out _).mono ?_;rintro e w3 ⟨rfl,hs,_,u3⟩;have h3u:Upd Non W w3:=uD.then_non u3;obtain ⟨b,o,e,_,_,hc⟩:=hs.at_ (k:=j) (by simpa [sCells] using hjl)
  injection e with e
  injection e with e1 e2
  subst e1 e2
  have hc2:w3.cell? ⟨wD.heap.size,j,none⟩=some (.string ns):=by rw [Nat.zero_add] at hc;rw [hc,←Hns.out,HN.out];simp [sCells]
  clear hs hc
  go_wp2_with fail
  refine hK.out _ _ ?_ (fun hHeld=>?_)
  ·
   exact cell_upd c0 h3u (fun f=>f)
  clear hK K
  try simp only [put_y,put_z]
  refine wpT 4 ?_
  try simp only [put_y,put_z]
  refine wpAnyH_ready (rs:=[5]) (by kernel_rfl) (by simp) ?_;refine AllReadyH.cons rfl (fun K hK=>?_) AllReadyH.nil;go_simp;refine hK.out _ _ ?_ (fun hHeld=>?_)
  ·
   exact cell_upd c0 h3u (fun f=>f)
  clear hK K
  try simp only [put_y,put_z]
  refine wpT 6 ?_
  try simp only [put_y,put_z]
  refine wpT 7 ?_
  try simp only [put_y,put_z]
  refine wpAnyH_done (by kernel_rfl) ?_ _
  go_wp2_with fail
  go_meet
  case rel=>exact ⟨rfl,h3u⟩
 case rest =>
  obtain ⟨rfl,hwc⟩:=hcut;have HU:=Lib.hid (HU.out.then_non hwc);have hb2:=HB.out.upd hwc (fun f=>f);have d0:=hb2.cell 0;have d1:=hb2.cell 1;have d2:=hb2.cell 2;have d3:=hb2.cell 3;clear c0 e0 hb2 hwc tj hlt6 hwj h3 hzn HN hjl C;obtain ⟨w2,rfl⟩:∃v:World,v=wc:=⟨_,rfl⟩;rw [HJ.out] at d0 HF
  rcases (by omega:j=0∨j=3∨j=4∨j=5∨j=1∨j=2) with rfl | rfl | rfl | rfl | rfl | rfl
  ·
   have d0:w2.cell? ⟨w.heap.size,0,none⟩=some (.int .i64 1):=d0
   have HR:Hid (res=(condNm (1+(0:Nat))++[32])++vnF c.a):=by show _=_;rw [HF.out];rfl
   have C1:=Lib.hid (fun W=>rVarName_c c.a H.out.a0 H.out.a1 W);have hz1:(kstr (vnF c.a)).size≤24:=ksz (by simp [vnF])
   have HE:Hid (s3++kstr (vnF c.a)=kstr res):=by
    show _=_;rw [HR.out,←Hs3.out,HJ.out];exact kstr_app _ _
   obtain ⟨p1,Hp1⟩:=nm (kstr (vnF c.a));rw [Hp1.out] at C1 hz1 HE;obtain ⟨ca,Hca⟩:=nm c.a;rw [Hca.out] at d1 C1;clear d2 d3
   go_wp2_with fail
   refine (C1.out _).mono ?_;rintro e w3 ⟨rfl,u3⟩
   go_wp2_with fail
   go_ret;exact ⟨by rw [←HE.out];rfl,HU.out.then_non u3⟩
  ·
   have d0:w2.cell? ⟨w.heap.size,0,none⟩=some (.int .i64 4):=d0
   have HR:Hid (res=(condNm (1+(3:Nat))++[32])++(vnF c.a++[32]++vnF c.b)):=by show _=_;rw [HF.out];rfl
   have C1:=Lib.hid (fun W=>rVarName_c c.a H.out.a0 H.out.a1 W);have C2:=Lib.hid (fun W=>rVarName_c c.b (H.out.b0 (by have:=HJ.out;omega)) (H.out.b1 (by have:=HJ.out;omega)) W);have hz1:(kstr (vnF c.a)).size≤24:=ksz (by simp [vnF]);have hz2:(kstr (vnF c.b)).size≤24:=ksz (by simp [vnF])
   have HE:Hid ((s3++kstr (vnF c.a)++({ data:=#[32] }:ByteArray))++kstr (vnF c.b)=kstr res):=by
    show _=_;rw [HR.out,←Hs3.out,HJ.out];exact catF
   obtain ⟨p1,Hp1⟩:=nm (kstr (vnF c.a));obtain ⟨p2,Hp2⟩:=nm (kstr (vnF c.b));rw [Hp1.out] at C1 hz1 HE;rw [Hp2.out] at C2 hz2 HE;obtain ⟨ca,Hca⟩:=nm c.a;obtain ⟨cb,Hcb⟩:=nm c.b;rw [Hca.out] at d1 C1;rw [Hcb.out] at d2 C2
   go_upto_region 6 with fail
   obtain ⟨wD,HwD⟩:=nm w2.drew
   have uD:Upd Non w2 wD:=by rw [←HwD.out];exact Upd.refl.drew
   refine wp_region_held_drew (S:=fun w'=>w'.cell? ⟨w.heap.size,1,none⟩=some (.int .i64 ca)∧w'.cell? ⟨w.heap.size,2,none⟩=some (.int .i64 cb)) (by kernel_rfl) (by rw [HwD.out];exact ⟨cell_upd d1 uD (fun f=>f),cell_upd d2 uD (fun f=>f)⟩) (fun hHeld=>?_)
   skip;rw [HwD.out] at hHeld ⊢
   have hq1:¬(9223372036854775807<s3.size+p1.size):=by omega
   have hq2:¬(9223372036854775807<s3.size+p1.size+1):=by omega
   have hq3:¬(9223372036854775807<s3.size+p1.size+1+p2.size):=by omega
   refine wpT 0 ?_
   try simp only [put_y,put_z]
   refine wpT 1 ?_
   try simp only [put_y,put_z]
   refine wpT 2 ?_
   try simp only [put_y,put_z]
   refine wpT 6 ?_
   try simp only [put_y,put_z]
   refine wpT 7 ?_
   try simp only [put_y,put_z]
   refine wpAnyH_ready (rs:=[3]) (by kernel_rfl) (by simp) ?_;refine AllReadyH.cons rfl (fun K hK=>?_) AllReadyH.nil;go_simp;refine (C1.out _).mono ?_;rintro e w3 ⟨rfl,u3⟩;have h3:Upd Non w2 w3:=uD.then_non u3
   go_wp2_with fail
   refine hK.out _ _ ?_ (fun hHeld=>?_)
   ·
    exact ⟨cell_upd d1 h3 (fun f=>f),cell_upd d2 h3 (fun f=>f)⟩
   clear hK K
   try simp only [put_y,put_z]
   refine wpT 4 ?_
   try simp only [put_y,put_z]
   refine wpT 5 ?_
   try simp only [put_y,put_z]
   refine wpAnyH_ready (rs:=[8]) (by kernel_rfl) (by simp) ?_;refine AllReadyH.cons rfl (fun K hK=>?_) AllReadyH.nil;go_simp;refine (C2.out _).mono ?_;rintro e w4 ⟨rfl,u4⟩;have h4:Upd Non w2 w4:=h3.then_non u4
   go_wp2_with fail
   refine hK.out _ _ ?_ (fun hHeld=>?_)
   ·
    exact ⟨cell_upd d1 h4 (fun f=>f),cell_upd d2 h4 (fun f=>f)⟩
   clear hK K
   try simp only [put_y,put_z]
   refine wpT 9 ?_
   try simp only [put_y,put_z]
   refine wpT 10 ?_
   try simp only [put_y,put_z]
   refine wpAnyH_done (by kernel_rfl) ?_ _
   go_wp2_with fail
   go_ret;exact ⟨by rw [←HE.out];rfl,HU.out.then_non h4⟩
  ·
   have d0:w2.cell? ⟨w.heap.size,0,none⟩=some (.int .i64 5):=d0
   have HR:Hid (res=(condNm (1+(4:Nat))++[32])++(vnF c.a++[32]++inF c.b)):=by show _=_;rw [HF.out];rfl
   have C1:=Lib.hid (fun W=>rVarName_c c.a H.out.a0 H.out.a1 W);have C2:=Lib.hid (fun W=>rImmName_c c.b (H.out.b0 (by have:=HJ.out;omega)) (H.out.b1 (by have:=HJ.out;omega)) W);have hz1:(kstr (vnF c.a)).size≤24:=ksz (by simp [vnF]);have hz2:(kstr (inF c.b)).size≤24:=ksz (by simp [inF])
   have HE:Hid ((s3++kstr (vnF c.a)++({ data:=#[32] }:ByteArray))++kstr (inF c.b)=kstr res):=by
    show _=_;rw [HR.out,←Hs3.out,HJ.out];exact catF
   obtain ⟨p1,Hp1⟩:=nm (kstr (vnF c.a));obtain ⟨p2,Hp2⟩:=nm (kstr (inF c.b));rw [Hp1.out] at C1 hz1 HE;rw [Hp2.out] at C2 hz2 HE;obtain ⟨ca,Hca⟩:=nm c.a;obtain ⟨cb,Hcb⟩:=nm c.b;rw [Hca.out] at d1 C1;rw [Hcb.out] at d2 C2
   go_upto_region 8 with fail
   obtain ⟨wD,HwD⟩:=nm w2.drew
   have uD:Upd Non w2 wD:=by rw [←HwD.out];exact Upd.refl.drew
   refine wp_region_held_drew (S:=fun w'=>w'.cell? ⟨w.heap.size,1,none⟩=some (.int .i64 ca)∧w'.cell? ⟨w.heap.size,2,none⟩=some (.int .i64 cb)) (by kernel_rfl) (by rw [HwD.out];exact ⟨cell_upd d1 uD (fun f=>f),cell_upd d2 uD (fun f=>f)⟩) (fun hHeld=>?_)
   skip;rw [HwD.out] at hHeld ⊢
   have hq1:¬(9223372036854775807<s3.size+p1.size):=by omega
   have hq2:¬(9223372036854775807<s3.size+p1.size+1):=by omega
   have hq3:¬(9223372036854775807<s3.size+p1.size+1+p2.size):=by omega
   refine wpT 0 ?_
   try simp only [put_y,put_z]
   refine wpT 1 ?_
   try simp only [put_y,put_z]
   refine wpT 2 ?_
   try simp only [put_y,put_z]
   refine wpT 6 ?_
   try simp only [put_y,put_z]
   refine wpT 7 ?_
   try simp only [put_y,put_z]
   refine wpAnyH_ready (rs:=[3]) (by kernel_rfl) (by simp) ?_;refine AllReadyH.cons rfl (fun K hK=>?_) AllReadyH.nil;go_simp;refine (C1.out _).mono ?_;rintro e w3 ⟨rfl,u3⟩;have h3:Upd Non w2 w3:=uD.then_non u3
   go_wp2_with fail
   refine hK.out _ _ ?_ (fun hHeld=>?_)
   ·
    exact ⟨cell_upd d1 h3 (fun f=>f),cell_upd d2 h3 (fun f=>f)⟩
   clear hK K
   try simp only [put_y,put_z]
   refine wpT 4 ?_
   try simp only [put_y,put_z]
   refine wpT 5 ?_
   try simp only [put_y,put_z]
   refine wpAnyH_ready (rs:=[8]) (by kernel_rfl) (by simp) ?_;refine AllReadyH.cons rfl (fun K hK=>?_) AllReadyH.nil;go_simp;refine (C2.out _).mono ?_;rintro e w4 ⟨rfl,u4⟩;have h4:Upd Non w2 w4:=h3.then_non u4
   go_wp2_with fail
   refine hK.out _ _ ?_ (fun hHeld=>?_)
   ·
    exact ⟨cell_upd d1 h4 (fun f=>f),cell_upd d2 h4 (fun f=>f)⟩
   clear hK K
   try simp only [put_y,put_z]
   refine wpT 9 ?_
   try simp only [put_y,put_z]
   refine wpT 10 ?_
   try simp only [put_y,put_z]
   refine wpAnyH_done (by kernel_rfl) ?_ _
   go_wp2_with fail
   go_ret;exact ⟨by rw [←HE.out];rfl,HU.out.then_non h4⟩
  ·
   have d0:w2.cell? ⟨w.heap.size,0,none⟩=some (.int .i64 6):=d0
   have HR:Hid (res=(condNm (1+(5:Nat))++[32])++(inF c.a++[32]++inF c.b)):=by show _=_;rw [HF.out];rfl
   have C1:=Lib.hid (fun W=>rImmName_c c.a H.out.a0 H.out.a1 W);have C2:=Lib.hid (fun W=>rImmName_c c.b (H.out.b0 (by have:=HJ.out;omega)) (H.out.b1 (by have:=HJ.out;omega)) W);have hz1:(kstr (inF c.a)).size≤24:=ksz (by simp [inF]);have hz2:(kstr (inF c.b)).size≤24:=ksz (by simp [inF])
   have HE:Hid ((s3++kstr (inF c.a)++({ data:=#[32] }:ByteArray))++kstr (inF c.b)=kstr res):=by
    show _=_;rw [HR.out,←Hs3.out,HJ.out];exact catF
   obtain ⟨p1,Hp1⟩:=nm (kstr (inF c.a));obtain ⟨p2,Hp2⟩:=nm (kstr (inF c.b));rw [Hp1.out] at C1 hz1 HE;rw [Hp2.out] at C2 hz2 HE;obtain ⟨ca,Hca⟩:=nm c.a;obtain ⟨cb,Hcb⟩:=nm c.b;rw [Hca.out] at d1 C1;rw [Hcb.out] at d2 C2
   go_upto_region 10 with fail
   obtain ⟨wD,HwD⟩:=nm w2.drew
   have uD:Upd Non w2 wD:=by rw [←HwD.out];exact Upd.refl.drew
   refine wp_region_held_drew (S:=fun w'=>w'.cell? ⟨w.heap.size,1,none⟩=some (.int .i64 ca)∧w'.cell? ⟨w.heap.size,2,none⟩=some (.int .i64 cb)) (by kernel_rfl) (by rw [HwD.out];exact ⟨cell_upd d1 uD (fun f=>f),cell_upd d2 uD (fun f=>f)⟩) (fun hHeld=>?_)
   skip;rw [HwD.out] at hHeld ⊢
   have hq1:¬(9223372036854775807<s3.size+p1.size):=by omega
   have hq2:¬(9223372036854775807<s3.size+p1.size+1):=by omega
   have hq3:¬(9223372036854775807<s3.size+p1.size+1+p2.size):=by omega
   refine wpT 0 ?_
   try simp only [put_y,put_z]
   refine wpT 1 ?_
   try simp only [put_y,put_z]
   refine wpT 2 ?_
   try simp only [put_y,put_z]
   refine wpT 6 ?_
   try simp only [put_y,put_z]
   refine wpT 7 ?_
   try simp only [put_y,put_z]
   refine wpAnyH_ready (rs:=[3]) (by kernel_rfl) (by simp) ?_;refine AllReadyH.cons rfl (fun K hK=>?_) AllReadyH.nil;go_simp;refine (C1.out _).mono ?_;rintro e w3 ⟨rfl,u3⟩;have h3:Upd Non w2 w3:=uD.then_non u3
   go_wp2_with fail
   refine hK.out _ _ ?_ (fun hHeld=>?_)
   ·
    exact ⟨cell_upd d1 h3 (fun f=>f),cell_upd d2 h3 (fun f=>f)⟩
   clear hK K
   try simp only [put_y,put_z]
   refine wpT 4 ?_
   try simp only [put_y,put_z]
   refine wpT 5 ?_
   try simp only [put_y,put_z]
   refine wpAnyH_ready (rs:=[8]) (by kernel_rfl) (by simp) ?_;refine AllReadyH.cons rfl (fun K hK=>?_) AllReadyH.nil;go_simp;refine (C2.out _).mono ?_;rintro e w4 ⟨rfl,u4⟩;have h4:Upd Non w2 w4:=h3.then_non u4
   go_wp2_with fail
   refine hK.out _ _ ?_ (fun hHeld=>?_)
   ·
    exact ⟨cell_upd d1 h4 (fun f=>f),cell_upd d2 h4 (fun f=>f)⟩
   clear hK K
   try simp only [put_y,put_z]
   refine wpT 9 ?_
   try simp only [put_y,put_z]
   refine wpT 10 ?_
   try simp only [put_y,put_z]
   refine wpAnyH_done (by kernel_rfl) ?_ _
   go_wp2_with fail
   go_ret;exact ⟨by rw [←HE.out];rfl,HU.out.then_non h4⟩
  ·
   have d0:w2.cell? ⟨w.heap.size,0,none⟩=some (.int .i64 2):=d0
   have HR:Hid (res=(condNm (1+(1:Nat))++[32])++(vnF c.a++[32]++textF c.n)):=by show _=_;rw [HF.out];rfl
   have C1:=Lib.hid (fun W=>rVarName_c c.a H.out.a0 H.out.a1 W);have C2:=Lib.hid (fun W=>wText_c c.n H.out.n0 H.out.n1 W);have hz1:(kstr (vnF c.a)).size≤24:=ksz (by simp [vnF]);have hz2:(kstr (textF c.n)).size≤24:=ksz (by have:=textF_len ⟨H.out.n0,H.out.n1⟩;omega)
   have HE:Hid ((s3++kstr (vnF c.a)++({ data:=#[32] }:ByteArray))++kstr (textF c.n)=kstr res):=by
    show _=_;rw [HR.out,←Hs3.out,HJ.out];exact catF
   obtain ⟨p1,Hp1⟩:=nm (kstr (vnF c.a));obtain ⟨p2,Hp2⟩:=nm (kstr (textF c.n));rw [Hp1.out] at C1 hz1 HE;rw [Hp2.out] at C2 hz2 HE;obtain ⟨ca,Hca⟩:=nm c.a;obtain ⟨cb,Hcb⟩:=nm c.n;rw [Hca.out] at d1 C1;rw [Hcb.out] at d3 C2
   go_upto_region 11 with fail
   obtain ⟨wD,HwD⟩:=nm w2.drew
   have uD:Upd Non w2 wD:=by rw [←HwD.out];exact Upd.refl.drew
   refine wp_region_held_drew (S:=fun w'=>w'.cell? ⟨w.heap.size,1,none⟩=some (.int .i64 ca)∧w'.cell? ⟨w.heap.size,3,none⟩=some (.int .i64 cb)) (by kernel_rfl) (by rw [HwD.out];exact ⟨cell_upd d1 uD (fun f=>f),cell_upd d3 uD (fun f=>f)⟩) (fun hHeld=>?_)
   have d2:=d3;rw [HwD.out] at hHeld ⊢
   have hq1:¬(9223372036854775807<s3.size+p1.size):=by omega
   have hq2:¬(9223372036854775807<s3.size+p1.size+1):=by omega
   have hq3:¬(9223372036854775807<s3.size+p1.size+1+p2.size):=by omega
   refine wpT 0 ?_
   try simp only [put_y,put_z]
   refine wpT 1 ?_
   try simp only [put_y,put_z]
   refine wpT 2 ?_
   try simp only [put_y,put_z]
   refine wpT 6 ?_
   try simp only [put_y,put_z]
   refine wpT 7 ?_
   try simp only [put_y,put_z]
   refine wpAnyH_ready (rs:=[3]) (by kernel_rfl) (by simp) ?_;refine AllReadyH.cons rfl (fun K hK=>?_) AllReadyH.nil;go_simp;refine (C1.out _).mono ?_;rintro e w3 ⟨rfl,u3⟩;have h3:Upd Non w2 w3:=uD.then_non u3
   go_wp2_with fail
   refine hK.out _ _ ?_ (fun hHeld=>?_)
   ·
    exact ⟨cell_upd d1 h3 (fun f=>f),cell_upd d2 h3 (fun f=>f)⟩
   clear hK K
   try simp only [put_y,put_z]
   refine wpT 4 ?_
   try simp only [put_y,put_z]
   refine wpT 5 ?_
   try simp only [put_y,put_z]
   refine wpAnyH_ready (rs:=[8]) (by kernel_rfl) (by simp) ?_;refine AllReadyH.cons rfl (fun K hK=>?_) AllReadyH.nil;go_simp;refine (C2.out _).mono ?_;rintro e w4 ⟨rfl,u4⟩;have h4:Upd Non w2 w4:=h3.then_non u4
   go_wp2_with fail
   refine hK.out _ _ ?_ (fun hHeld=>?_)
   ·
    exact ⟨cell_upd d1 h4 (fun f=>f),cell_upd d2 h4 (fun f=>f)⟩
   clear hK K
   try simp only [put_y,put_z]
   refine wpT 9 ?_
   try simp only [put_y,put_z]
   refine wpT 10 ?_
   try simp only [put_y,put_z]
   refine wpAnyH_done (by kernel_rfl) ?_ _
   go_wp2_with fail
   go_ret;exact ⟨by rw [←HE.out];rfl,HU.out.then_non h4⟩
  ·
   have d0:w2.cell? ⟨w.heap.size,0,none⟩=some (.int .i64 3):=d0
   have HR:Hid (res=(condNm (1+(2:Nat))++[32])++(vnF c.a++[32]++textF c.n)):=by show _=_;rw [HF.out];rfl
   have C1:=Lib.hid (fun W=>rVarName_c c.a H.out.a0 H.out.a1 W);have C2:=Lib.hid (fun W=>wText_c c.n H.out.n0 H.out.n1 W);have hz1:(kstr (vnF c.a)).size≤24:=ksz (by simp [vnF]);have hz2:(kstr (textF c.n)).size≤24:=ksz (by have:=textF_len ⟨H.out.n0,H.out.n1⟩;omega)
   have HE:Hid ((s3++kstr (vnF c.a)++({ data:=#[32] }:ByteArray))++kstr (textF c.n)=kstr res):=by
    show _=_;rw [HR.out,←Hs3.out,HJ.out];exact catF
   obtain ⟨p1,Hp1⟩:=nm (kstr (vnF c.a));obtain ⟨p2,Hp2⟩:=nm (kstr (textF c.n));rw [Hp1.out] at C1 hz1 HE;rw [Hp2.out] at C2 hz2 HE;obtain ⟨ca,Hca⟩:=nm c.a;obtain ⟨cb,Hcb⟩:=nm c.n;rw [Hca.out] at d1 C1;rw [Hcb.out] at d3 C2
   go_upto_region 11 with fail
   obtain ⟨wD,HwD⟩:=nm w2.drew
   have uD:Upd Non w2 wD:=by rw [←HwD.out];exact Upd.refl.drew
   refine wp_region_held_drew (S:=fun w'=>w'.cell? ⟨w.heap.size,1,none⟩=some (.int .i64 ca)∧w'.cell? ⟨w.heap.size,3,none⟩=some (.int .i64 cb)) (by kernel_rfl) (by rw [HwD.out];exact ⟨cell_upd d1 uD (fun f=>f),cell_upd d3 uD (fun f=>f)⟩) (fun hHeld=>?_)
   have d2:=d3;rw [HwD.out] at hHeld ⊢
   have hq1:¬(9223372036854775807<s3.size+p1.size):=by omega
   have hq2:¬(9223372036854775807<s3.size+p1.size+1):=by omega
   have hq3:¬(9223372036854775807<s3.size+p1.size+1+p2.size):=by omega
   refine wpT 0 ?_
   try simp only [put_y,put_z]
   refine wpT 1 ?_
   try simp only [put_y,put_z]
   refine wpT 2 ?_
   try simp only [put_y,put_z]
   refine wpT 6 ?_
   try simp only [put_y,put_z]
   refine wpT 7 ?_
   try simp only [put_y,put_z]
   refine wpAnyH_ready (rs:=[3]) (by kernel_rfl) (by simp) ?_;refine AllReadyH.cons rfl (fun K hK=>?_) AllReadyH.nil;go_simp;refine (C1.out _).mono ?_;rintro e w3 ⟨rfl,u3⟩;have h3:Upd Non w2 w3:=uD.then_non u3
   go_wp2_with fail
   refine hK.out _ _ ?_ (fun hHeld=>?_)
   ·
    exact ⟨cell_upd d1 h3 (fun f=>f),cell_upd d2 h3 (fun f=>f)⟩
   clear hK K
   try simp only [put_y,put_z]
   refine wpT 4 ?_
   try simp only [put_y,put_z]
   refine wpT 5 ?_
   try simp only [put_y,put_z]
   refine wpAnyH_ready (rs:=[8]) (by kernel_rfl) (by simp) ?_;refine AllReadyH.cons rfl (fun K hK=>?_) AllReadyH.nil;go_simp;refine (C2.out _).mono ?_;rintro e w4 ⟨rfl,u4⟩;have h4:Upd Non w2 w4:=h3.then_non u4
   go_wp2_with fail
   refine hK.out _ _ ?_ (fun hHeld=>?_)
   ·
    exact ⟨cell_upd d1 h4 (fun f=>f),cell_upd d2 h4 (fun f=>f)⟩
   clear hK K
   try simp only [put_y,put_z]
   refine wpT 9 ?_
   try simp only [put_y,put_z]
   refine wpT 10 ?_
   try simp only [put_y,put_z]
   refine wpAnyH_done (by kernel_rfl) ?_ _
   go_wp2_with fail
   go_ret;exact ⟨by rw [←HE.out];rfl,HU.out.then_non h4⟩
def CondP (T:List (Bs×Nat)) (w:World) (p:Nat) (A:Option Addr) (c:Nat) (L:List Tok) (x:St) (r:Except Er (Cd×PS)) (e:Ending) (w':World):Prop :=
 ∃(cd:Cd) (y:St),e=.returned (.agg #[.int .i64 cd.kind,.int .i64 cd.a,.int .i64 cd.b,.int .i64 cd.n])∧RdS w' p A c L y∧Good T y∧y.left=x.left∧(∀k,y.own p k→x.own p k∨w.heap.size≤k)∧Upd (x.own p) w w'∧ResS x y r (fun v=>v=cd∧x.i+1≤y.i)
theorem hcfC:∀(args:Array Value) (w:World),(callFunc 98 args).run Tryz.prog w=.ok (.enter 98 args) w:=fun args w=>by
 simp [callFunc,Tryz.func98,Tryz.f98]
set_option maxRecDepth 100000 in
set_option maxHeartbeats 4000000 in
theorem rCond_c {L:List Tok} {T:List (Bs×Nat)} {fin:Nat} (hL:LOk L T fin) {w:World} {p:Nat} {A:Option Addr} {c:Nat} {x:St} (h:RdS w p A c L x) (hx:Good T x) (hlf:x.left=false) :
  Calls Tryz.prog 65 #[.pointer (some ⟨p,0,none⟩)] w (CondP T w p A c L x (pcondF T fin (psOf x))):=by
 obtain ⟨W1,HW1⟩:=nm (w.alloc (.cells #[.int .i64 0,.int .i64 0,.int .i64 0,.int .i64 0] 69))
 have u1:Upd Non w W1:=by rw [←HW1.out];exact Upd.refl.alloc _
 have b1:Blk W1 w.heap.size 69 (cdc 0):=by rw [←HW1.out];exact Blk.new _ _ _
 have s1:W1.heap.size=w.heap.size+1:=by rw [←HW1.out];simp
 obtain ⟨W2,HW2⟩:=nm (W1.alloc (.cells #[.int .i64 0,.int .i64 0,.int .i64 0,.int .i64 0] 69))
 have u2:Upd Non W1 W2:=by rw [←HW2.out];exact Upd.refl.alloc _
 have b2:Blk W2 (w.heap.size+1) 69 (cdc 0):=by rw [←HW2.out,←s1];exact Blk.new _ _ _
 have s2:W2.heap.size=w.heap.size+2:=by rw [←HW2.out];simp [s1]
 have b1:=b1.upd u2 (fun f=>f);have u2:=u1.then_non u2;have hpw:p<w.heap.size:=h.blk.lt
 have hown:∀j,x.own p j→j<w.heap.size:=fun j hj=>h.lt hj
 have h2:=h.non u2;have HS:Hid (LocS 2 w W2 p A c L x x):=⟨h2,fun k q=>.inl q,hown,u2.mono (fun _ _ f=>f.elim),by omega⟩
 have CW:=Lib.hid (rWordG_c hL h2 hx 98 #[.pointer (some ⟨w.heap.size+1,0,none⟩)] hcfC cdc 0 b2 (by omega) knF (fun (v:Nat) k=>k=(v:Int))
  (fun s ps v y q=>by
   unfold knF at q
   cases hf:findL condL s 0 with
   | none=>rw [hf] at q;cases q
   | some i=>rw [hf] at q;simp only [Option.map_some] at q;injection q with q;injection q with _ q;subst q;exact ⟨Nat.le_succ _,Nat.le_succ _⟩)
  (fun s w1 _ _ _ u01=>rCond1_c (h2.non u01) s (b2.upd u01 (fun f=>f)) (fun q=>by have:=hown _ q;omega) (by omega)))
 have e1:=HW1.out;have e2:=HW2.out;have HB1:=Lib.hid b1;clear h h2 b1 b2 u1 u2 HW1 HW2;go_enter Tryz.func65,Tryz.ntmps65
 go_wp2_with fail
 refine CW.out.mono ?_;rintro e w3 hw3;have HW3:=Lib.hid hw3;clear hw3 CW e1 e2;obtain ⟨k,y,ts,tp,ev,_,hb3,hy3,hg3,hl3,ho3,hu3,hr3⟩:=HW3.out;subst ev;have hle3:=hu3.size
 have HS3:Hid (LocS 2 w w3 p A c L x y):=⟨hy3,fun j q=>by
  rcases ho3 j q with r | r
  ·
   exact .inl r
  ·
   exact .inr (by omega),hown,HS.out.upd.trans hu3 (fun j hj q=>by rcases q with q | q;exact q;omega),by omega⟩
 have HP3:Hid (Blk w3 (w.heap.size+1) 69 #[.int .i64 k,.int .i64 0,.int .i64 0,.int .i64 0]):=hb3
 have HR3:=Lib.hid (HB1.out.upd hu3 (fun q=>by
  rcases q with q | q
  ·
   have:=hown _ q;omega
  ·
   omega))
 have HLY:Hid (y.left=false):=hl3.trans hlf;have HGY:=Lib.hid hg3;have HRY:Hid (ResS x y (kindF T fin (psOf x)) (fun (v:Nat)=>k=(v:Int)∧x.i+1≤y.i)):=hr3;have z0:=HP3.out.cell 0;clear hb3 hy3 hg3 hl3 ho3 hu3 hr3 HW3 HS HB1
 by_cases h6:k=6
 ·
  subst h6;have CA:=Lib.hid (rImmVar_c hL HS3.out.rd HGY.out)
  go_wp2_with fail
  refine CA.out.mono ?_;rintro e w4 hw4;have HW4:=Lib.hid hw4;clear hw4 CA;obtain ⟨a,z,ev,hz4,hgz,hlz,hoz,huz,hrz⟩:=HW4.out;subst ev;have HS4:=Lib.hid (HS3.out.call hz4 hoz huz);have hb4:=HS3.out.keep huz (b:=w.heap.size+1) (by omega) (by omega) HP3.out;have HR4:=Lib.hid (HS3.out.keep huz (b:=w.heap.size) (by omega) (by omega) HR3.out);have HGZ:=Lib.hid hgz
  have HLZ:Hid (z.left=false):=hlz.trans HLY.out;have HRZ:=Lib.hid hrz;have v1:=hb4.cell 1;have vf:=hb4.frozen 1;obtain ⟨w5,Hw5⟩:=nm (w4.setCell ⟨w.heap.size+1,1,none⟩ (.int .i64 a));have e5:=Hw5.out
  have u5:Upd (·=w.heap.size+1) w4 w5:=by rw [←e5];exact updCell _ _ _ _
  have hb5:Blk w5 (w.heap.size+1) 69 #[.int .i64 6,.int .i64 a,.int .i64 0,.int .i64 0]:=by rw [←e5];simpa using hb4.set_ 1 (.int .i64 a)
  have HS5:=Lib.hid (HS4.out.loc u5 (by omega) (by omega));have HR5:=Lib.hid (HR4.out.upd u5 (by omega));have v0:=hb5.cell 0;have HP5:=Lib.hid hb5;clear hz4 hgz hlz hoz huz hrz hb4 hb5 HW4
  have HRZ:Hid (ResS y z (if (6:Int)=6 then ivarF T fin (psOf y) else pvarF T fin (psOf y)) (fun (v:Nat)=>a=(v:Int)∧y.i+1≤z.i)):=by show ResS _ _ _ _;rw [if_pos rfl];exact HRZ.out
  have CA:=Lib.hid (rImmVar_c hL HS5.out.rd HGZ.out)
  go_wp2_with fail
  refine CA.out.mono ?_;rintro e w6 hw6;have HW6:=Lib.hid hw6;clear hw6 CA e5 v1 vf z0;obtain ⟨bb,u,ev,hu6,hgu,hlu,hou,huu,hru⟩:=HW6.out;subst ev;have HS6:=Lib.hid (HS5.out.call hu6 hou huu);have hb6:=HS5.out.keep huu (b:=w.heap.size+1) (by omega) (by omega) HP5.out;have HR6:=Lib.hid (HS5.out.keep huu (b:=w.heap.size) (by omega) (by omega) HR5.out);have HGU:=Lib.hid hgu
  have HLU:Hid (u.left=false):=hlu.trans HLZ.out;have HRU:=Lib.hid hru;have q1:=hb6.cell 2;have qf:=hb6.frozen 2;obtain ⟨w7,Hw7⟩:=nm (w6.setCell ⟨w.heap.size+1,2,none⟩ (.int .i64 bb));have e7:=Hw7.out
  have u7:Upd (·=w.heap.size+1) w6 w7:=by rw [←e7];exact updCell _ _ _ _
  have hb7:Blk w7 (w.heap.size+1) 69 #[.int .i64 6,.int .i64 a,.int .i64 bb,.int .i64 0]:=by rw [←e7];simpa using hb6.set_ 2 (.int .i64 bb)
  have HSF:=Lib.hid (HS6.out.loc u7 (by omega) (by omega));have HRF:=Lib.hid (HR6.out.upd u7 (by omega));have HPF:=Lib.hid hb7;clear hu6 hgu hlu hou huu hru hb6 hb7 HW6
  have HCD:Hid (CdR T fin z u 6 bb 0):=⟨fun q=>absurd q (by omega),fun q=>absurd q (by omega),fun _=>⟨rfl,HRU.out⟩,fun q=>absurd q (by omega),HRU.out.2⟩
  have g0:=HPF.out.cell 0;have g1:=HPF.out.cell 1;have g2:=HPF.out.cell 2;have g3:=HPF.out.cell 3;have hrf:=HRF.out;unfold cdc at hrf;have r0:=hrf.cell 0;have r1:=hrf.cell 1;have r2:=hrf.cell 2;have r3:=hrf.cell 3;have rf:=hrf.frozen;have HRF2:=Lib.hid hrf;clear hrf v0
  go_wp2_with fail
  rw [set4_eq];refine bodyPost_ret (results_cell_row rfl _ _ w.heap.size 69 _ (0,0) _ rfl (set4_blk HRF2.out _ _ _ _) Tryz.underlying69 rfl (by kernel_rfl)) rfl ?_;have HSL:=HSF.out.loc (set4_upd _ w.heap.size (.int .i64 6) (.int .i64 a) (.int .i64 bb) (.int .i64 0)) (Nat.le_refl _) (by omega)
  exact ⟨⟨6,a,bb,0⟩,u,rfl,HSL.rd,HGU.out,by rw [HLU.out,hlf],fun j q=>(HSL.own j q).imp_right (fun r=>by omega),HSL.upd,pcond_fin HRY.out HRZ.out HCD.out⟩
 by_cases h2:k=2
 ·
  subst h2;have CA:=Lib.hid (rPatternVar_c hL HS3.out.rd HGY.out HLY.out)
  go_wp2_with fail
  refine CA.out.mono ?_;rintro e w4 hw4;have HW4:=Lib.hid hw4;clear hw4 CA;obtain ⟨a,z,ev,hz4,hgz,hlz,hoz,huz,hrz⟩:=HW4.out;subst ev;have HS4:=Lib.hid (HS3.out.call hz4 hoz huz);have hb4:=HS3.out.keep huz (b:=w.heap.size+1) (by omega) (by omega) HP3.out;have HR4:=Lib.hid (HS3.out.keep huz (b:=w.heap.size) (by omega) (by omega) HR3.out);have HGZ:=Lib.hid hgz
  have HLZ:Hid (z.left=false):=hlz.trans HLY.out;have HRZ:=Lib.hid hrz;have v1:=hb4.cell 1;have vf:=hb4.frozen 1;obtain ⟨w5,Hw5⟩:=nm (w4.setCell ⟨w.heap.size+1,1,none⟩ (.int .i64 a));have e5:=Hw5.out
  have u5:Upd (·=w.heap.size+1) w4 w5:=by rw [←e5];exact updCell _ _ _ _
  have hb5:Blk w5 (w.heap.size+1) 69 #[.int .i64 2,.int .i64 a,.int .i64 0,.int .i64 0]:=by rw [←e5];simpa using hb4.set_ 1 (.int .i64 a)
  have HS5:=Lib.hid (HS4.out.loc u5 (by omega) (by omega));have HR5:=Lib.hid (HR4.out.upd u5 (by omega));have v0:=hb5.cell 0;have HP5:=Lib.hid hb5;clear hz4 hgz hlz hoz huz hrz hb4 hb5 HW4
  have HRZ:Hid (ResS y z (if (2:Int)=6 then ivarF T fin (psOf y) else pvarF T fin (psOf y)) (fun (v:Nat)=>a=(v:Int)∧y.i+1≤z.i)):=by show ResS _ _ _ _;rw [if_neg (by decide)];exact HRZ.out
  have CA:=Lib.hid (rNumber_c hL HS5.out.rd HGZ.out)
  go_wp2_with fail
  refine CA.out.mono ?_;rintro e w6 hw6;have HW6:=Lib.hid hw6;clear hw6 CA e5 v1 vf z0;obtain ⟨nn,u,ev,hu6,hgu,hlu,hou,huu,hru⟩:=HW6.out;subst ev;have HS6:=Lib.hid (HS5.out.call hu6 hou huu);have hb6:=HS5.out.keep huu (b:=w.heap.size+1) (by omega) (by omega) HP5.out;have HR6:=Lib.hid (HS5.out.keep huu (b:=w.heap.size) (by omega) (by omega) HR5.out);have HGU:=Lib.hid hgu
  have HLU:Hid (u.left=false):=hlu.trans HLZ.out;have HRU:=Lib.hid hru;have q1:=hb6.cell 3;have qf:=hb6.frozen 3;obtain ⟨w7,Hw7⟩:=nm (w6.setCell ⟨w.heap.size+1,3,none⟩ (.int .i64 nn));have e7:=Hw7.out
  have u7:Upd (·=w.heap.size+1) w6 w7:=by rw [←e7];exact updCell _ _ _ _
  have hb7:Blk w7 (w.heap.size+1) 69 #[.int .i64 2,.int .i64 a,.int .i64 0,.int .i64 nn]:=by rw [←e7];simpa using hb6.set_ 3 (.int .i64 nn)
  have HSF:=Lib.hid (HS6.out.loc u7 (by omega) (by omega));have HRF:=Lib.hid (HR6.out.upd u7 (by omega));have HPF:=Lib.hid hb7;clear hu6 hgu hlu hou huu hru hb6 hb7 HW6
  have HCD:Hid (CdR T fin z u 2 0 nn):=⟨fun _=>⟨rfl,HRU.out⟩,fun q=>absurd q (by omega),fun q=>absurd q (by omega),fun q=>absurd q (by omega),HRU.out.2⟩
  have g0:=HPF.out.cell 0;have g1:=HPF.out.cell 1;have g2:=HPF.out.cell 2;have g3:=HPF.out.cell 3;have hrf:=HRF.out;unfold cdc at hrf;have r0:=hrf.cell 0;have r1:=hrf.cell 1;have r2:=hrf.cell 2;have r3:=hrf.cell 3;have rf:=hrf.frozen;have HRF2:=Lib.hid hrf;clear hrf v0
  go_wp2_with fail
  rw [set4_eq];refine bodyPost_ret (results_cell_row rfl _ _ w.heap.size 69 _ (0,0) _ rfl (set4_blk HRF2.out _ _ _ _) Tryz.underlying69 rfl (by kernel_rfl)) rfl ?_;have HSL:=HSF.out.loc (set4_upd _ w.heap.size (.int .i64 2) (.int .i64 a) (.int .i64 0) (.int .i64 nn)) (Nat.le_refl _) (by omega)
  exact ⟨⟨2,a,0,nn⟩,u,rfl,HSL.rd,HGU.out,by rw [HLU.out,hlf],fun j q=>(HSL.own j q).imp_right (fun r=>by omega),HSL.upd,pcond_fin HRY.out HRZ.out HCD.out⟩
 by_cases h3:k=3
 ·
  subst h3;have CA:=Lib.hid (rPatternVar_c hL HS3.out.rd HGY.out HLY.out)
  go_wp2_with fail
  refine CA.out.mono ?_;rintro e w4 hw4;have HW4:=Lib.hid hw4;clear hw4 CA;obtain ⟨a,z,ev,hz4,hgz,hlz,hoz,huz,hrz⟩:=HW4.out;subst ev;have HS4:=Lib.hid (HS3.out.call hz4 hoz huz);have hb4:=HS3.out.keep huz (b:=w.heap.size+1) (by omega) (by omega) HP3.out;have HR4:=Lib.hid (HS3.out.keep huz (b:=w.heap.size) (by omega) (by omega) HR3.out);have HGZ:=Lib.hid hgz
  have HLZ:Hid (z.left=false):=hlz.trans HLY.out;have HRZ:=Lib.hid hrz;have v1:=hb4.cell 1;have vf:=hb4.frozen 1;obtain ⟨w5,Hw5⟩:=nm (w4.setCell ⟨w.heap.size+1,1,none⟩ (.int .i64 a));have e5:=Hw5.out
  have u5:Upd (·=w.heap.size+1) w4 w5:=by rw [←e5];exact updCell _ _ _ _
  have hb5:Blk w5 (w.heap.size+1) 69 #[.int .i64 3,.int .i64 a,.int .i64 0,.int .i64 0]:=by rw [←e5];simpa using hb4.set_ 1 (.int .i64 a)
  have HS5:=Lib.hid (HS4.out.loc u5 (by omega) (by omega));have HR5:=Lib.hid (HR4.out.upd u5 (by omega));have v0:=hb5.cell 0;have HP5:=Lib.hid hb5;clear hz4 hgz hlz hoz huz hrz hb4 hb5 HW4
  have HRZ:Hid (ResS y z (if (3:Int)=6 then ivarF T fin (psOf y) else pvarF T fin (psOf y)) (fun (v:Nat)=>a=(v:Int)∧y.i+1≤z.i)):=by show ResS _ _ _ _;rw [if_neg (by decide)];exact HRZ.out
  have CA:=Lib.hid (rNumber_c hL HS5.out.rd HGZ.out)
  go_wp2_with fail
  refine CA.out.mono ?_;rintro e w6 hw6;have HW6:=Lib.hid hw6;clear hw6 CA e5 v1 vf z0;obtain ⟨nn,u,ev,hu6,hgu,hlu,hou,huu,hru⟩:=HW6.out;subst ev;have HS6:=Lib.hid (HS5.out.call hu6 hou huu);have hb6:=HS5.out.keep huu (b:=w.heap.size+1) (by omega) (by omega) HP5.out;have HR6:=Lib.hid (HS5.out.keep huu (b:=w.heap.size) (by omega) (by omega) HR5.out);have HGU:=Lib.hid hgu
  have HLU:Hid (u.left=false):=hlu.trans HLZ.out;have HRU:=Lib.hid hru;have q1:=hb6.cell 3;have qf:=hb6.frozen 3;obtain ⟨w7,Hw7⟩:=nm (w6.setCell ⟨w.heap.size+1,3,none⟩ (.int .i64 nn));have e7:=Hw7.out
  have u7:Upd (·=w.heap.size+1) w6 w7:=by rw [←e7];exact updCell _ _ _ _
  have hb7:Blk w7 (w.heap.size+1) 69 #[.int .i64 3,.int .i64 a,.int .i64 0,.int .i64 nn]:=by rw [←e7];simpa using hb6.set_ 3 (.int .i64 nn)
  have HSF:=Lib.hid (HS6.out.loc u7 (by omega) (by omega));have HRF:=Lib.hid (HR6.out.upd u7 (by omega));have HPF:=Lib.hid hb7;clear hu6 hgu hlu hou huu hru hb6 hb7 HW6
  have HCD:Hid (CdR T fin z u 3 0 nn):=⟨fun _=>⟨rfl,HRU.out⟩,fun q=>absurd q (by omega),fun q=>absurd q (by omega),fun q=>absurd q (by omega),HRU.out.2⟩
  have g0:=HPF.out.cell 0;have g1:=HPF.out.cell 1;have g2:=HPF.out.cell 2;have g3:=HPF.out.cell 3;have hrf:=HRF.out;unfold cdc at hrf;have r0:=hrf.cell 0;have r1:=hrf.cell 1;have r2:=hrf.cell 2;have r3:=hrf.cell 3;have rf:=hrf.frozen;have HRF2:=Lib.hid hrf;clear hrf v0
  go_wp2_with fail
  rw [set4_eq];refine bodyPost_ret (results_cell_row rfl _ _ w.heap.size 69 _ (0,0) _ rfl (set4_blk HRF2.out _ _ _ _) Tryz.underlying69 rfl (by kernel_rfl)) rfl ?_;have HSL:=HSF.out.loc (set4_upd _ w.heap.size (.int .i64 3) (.int .i64 a) (.int .i64 0) (.int .i64 nn)) (Nat.le_refl _) (by omega)
  exact ⟨⟨3,a,0,nn⟩,u,rfl,HSL.rd,HGU.out,by rw [HLU.out,hlf],fun j q=>(HSL.own j q).imp_right (fun r=>by omega),HSL.upd,pcond_fin HRY.out HRZ.out HCD.out⟩
 by_cases h4:k=4
 ·
  subst h4;have CA:=Lib.hid (rPatternVar_c hL HS3.out.rd HGY.out HLY.out)
  go_wp2_with fail
  refine CA.out.mono ?_;rintro e w4 hw4;have HW4:=Lib.hid hw4;clear hw4 CA;obtain ⟨a,z,ev,hz4,hgz,hlz,hoz,huz,hrz⟩:=HW4.out;subst ev;have HS4:=Lib.hid (HS3.out.call hz4 hoz huz);have hb4:=HS3.out.keep huz (b:=w.heap.size+1) (by omega) (by omega) HP3.out;have HR4:=Lib.hid (HS3.out.keep huz (b:=w.heap.size) (by omega) (by omega) HR3.out);have HGZ:=Lib.hid hgz
  have HLZ:Hid (z.left=false):=hlz.trans HLY.out;have HRZ:=Lib.hid hrz;have v1:=hb4.cell 1;have vf:=hb4.frozen 1;obtain ⟨w5,Hw5⟩:=nm (w4.setCell ⟨w.heap.size+1,1,none⟩ (.int .i64 a));have e5:=Hw5.out
  have u5:Upd (·=w.heap.size+1) w4 w5:=by rw [←e5];exact updCell _ _ _ _
  have hb5:Blk w5 (w.heap.size+1) 69 #[.int .i64 4,.int .i64 a,.int .i64 0,.int .i64 0]:=by rw [←e5];simpa using hb4.set_ 1 (.int .i64 a)
  have HS5:=Lib.hid (HS4.out.loc u5 (by omega) (by omega));have HR5:=Lib.hid (HR4.out.upd u5 (by omega));have v0:=hb5.cell 0;have HP5:=Lib.hid hb5;clear hz4 hgz hlz hoz huz hrz hb4 hb5 HW4
  have HRZ:Hid (ResS y z (if (4:Int)=6 then ivarF T fin (psOf y) else pvarF T fin (psOf y)) (fun (v:Nat)=>a=(v:Int)∧y.i+1≤z.i)):=by show ResS _ _ _ _;rw [if_neg (by decide)];exact HRZ.out
  have CA:=Lib.hid (rPatternVar_c hL HS5.out.rd HGZ.out HLZ.out)
  go_wp2_with fail
  refine CA.out.mono ?_;rintro e w6 hw6;have HW6:=Lib.hid hw6;clear hw6 CA e5 v1 vf z0;obtain ⟨bb,u,ev,hu6,hgu,hlu,hou,huu,hru⟩:=HW6.out;subst ev;have HS6:=Lib.hid (HS5.out.call hu6 hou huu);have hb6:=HS5.out.keep huu (b:=w.heap.size+1) (by omega) (by omega) HP5.out;have HR6:=Lib.hid (HS5.out.keep huu (b:=w.heap.size) (by omega) (by omega) HR5.out);have HGU:=Lib.hid hgu
  have HLU:Hid (u.left=false):=hlu.trans HLZ.out;have HRU:=Lib.hid hru;have q1:=hb6.cell 2;have qf:=hb6.frozen 2;obtain ⟨w7,Hw7⟩:=nm (w6.setCell ⟨w.heap.size+1,2,none⟩ (.int .i64 bb));have e7:=Hw7.out
  have u7:Upd (·=w.heap.size+1) w6 w7:=by rw [←e7];exact updCell _ _ _ _
  have hb7:Blk w7 (w.heap.size+1) 69 #[.int .i64 4,.int .i64 a,.int .i64 bb,.int .i64 0]:=by rw [←e7];simpa using hb6.set_ 2 (.int .i64 bb)
  have HSF:=Lib.hid (HS6.out.loc u7 (by omega) (by omega));have HRF:=Lib.hid (HR6.out.upd u7 (by omega));have HPF:=Lib.hid hb7;clear hu6 hgu hlu hou huu hru hb6 hb7 HW6
  have HCD:Hid (CdR T fin z u 4 bb 0):=⟨fun q=>absurd q (by omega),fun _=>⟨rfl,HRU.out⟩,fun q=>absurd q (by omega),fun q=>absurd q (by omega),HRU.out.2⟩
  have g0:=HPF.out.cell 0;have g1:=HPF.out.cell 1;have g2:=HPF.out.cell 2;have g3:=HPF.out.cell 3;have hrf:=HRF.out;unfold cdc at hrf;have r0:=hrf.cell 0;have r1:=hrf.cell 1;have r2:=hrf.cell 2;have r3:=hrf.cell 3;have rf:=hrf.frozen;have HRF2:=Lib.hid hrf;clear hrf v0
  go_wp2_with fail
  rw [set4_eq];refine bodyPost_ret (results_cell_row rfl _ _ w.heap.size 69 _ (0,0) _ rfl (set4_blk HRF2.out _ _ _ _) Tryz.underlying69 rfl (by kernel_rfl)) rfl ?_;have HSL:=HSF.out.loc (set4_upd _ w.heap.size (.int .i64 4) (.int .i64 a) (.int .i64 bb) (.int .i64 0)) (Nat.le_refl _) (by omega)
  exact ⟨⟨4,a,bb,0⟩,u,rfl,HSL.rd,HGU.out,by rw [HLU.out,hlf],fun j q=>(HSL.own j q).imp_right (fun r=>by omega),HSL.upd,pcond_fin HRY.out HRZ.out HCD.out⟩
 by_cases h5:k=5
 ·
  subst h5;have CA:=Lib.hid (rPatternVar_c hL HS3.out.rd HGY.out HLY.out)
  go_wp2_with fail
  refine CA.out.mono ?_;rintro e w4 hw4;have HW4:=Lib.hid hw4;clear hw4 CA;obtain ⟨a,z,ev,hz4,hgz,hlz,hoz,huz,hrz⟩:=HW4.out;subst ev;have HS4:=Lib.hid (HS3.out.call hz4 hoz huz);have hb4:=HS3.out.keep huz (b:=w.heap.size+1) (by omega) (by omega) HP3.out;have HR4:=Lib.hid (HS3.out.keep huz (b:=w.heap.size) (by omega) (by omega) HR3.out);have HGZ:=Lib.hid hgz
  have HLZ:Hid (z.left=false):=hlz.trans HLY.out;have HRZ:=Lib.hid hrz;have v1:=hb4.cell 1;have vf:=hb4.frozen 1;obtain ⟨w5,Hw5⟩:=nm (w4.setCell ⟨w.heap.size+1,1,none⟩ (.int .i64 a));have e5:=Hw5.out
  have u5:Upd (·=w.heap.size+1) w4 w5:=by rw [←e5];exact updCell _ _ _ _
  have hb5:Blk w5 (w.heap.size+1) 69 #[.int .i64 5,.int .i64 a,.int .i64 0,.int .i64 0]:=by rw [←e5];simpa using hb4.set_ 1 (.int .i64 a)
  have HS5:=Lib.hid (HS4.out.loc u5 (by omega) (by omega));have HR5:=Lib.hid (HR4.out.upd u5 (by omega));have v0:=hb5.cell 0;have HP5:=Lib.hid hb5;clear hz4 hgz hlz hoz huz hrz hb4 hb5 HW4
  have HRZ:Hid (ResS y z (if (5:Int)=6 then ivarF T fin (psOf y) else pvarF T fin (psOf y)) (fun (v:Nat)=>a=(v:Int)∧y.i+1≤z.i)):=by show ResS _ _ _ _;rw [if_neg (by decide)];exact HRZ.out
  have CA:=Lib.hid (rImmVar_c hL HS5.out.rd HGZ.out)
  go_wp2_with fail
  refine CA.out.mono ?_;rintro e w6 hw6;have HW6:=Lib.hid hw6;clear hw6 CA e5 v1 vf z0;obtain ⟨bb,u,ev,hu6,hgu,hlu,hou,huu,hru⟩:=HW6.out;subst ev;have HS6:=Lib.hid (HS5.out.call hu6 hou huu);have hb6:=HS5.out.keep huu (b:=w.heap.size+1) (by omega) (by omega) HP5.out;have HR6:=Lib.hid (HS5.out.keep huu (b:=w.heap.size) (by omega) (by omega) HR5.out);have HGU:=Lib.hid hgu
  have HLU:Hid (u.left=false):=hlu.trans HLZ.out;have HRU:=Lib.hid hru;have q1:=hb6.cell 2;have qf:=hb6.frozen 2;obtain ⟨w7,Hw7⟩:=nm (w6.setCell ⟨w.heap.size+1,2,none⟩ (.int .i64 bb));have e7:=Hw7.out
  have u7:Upd (·=w.heap.size+1) w6 w7:=by rw [←e7];exact updCell _ _ _ _
  have hb7:Blk w7 (w.heap.size+1) 69 #[.int .i64 5,.int .i64 a,.int .i64 bb,.int .i64 0]:=by rw [←e7];simpa using hb6.set_ 2 (.int .i64 bb)
  have HSF:=Lib.hid (HS6.out.loc u7 (by omega) (by omega));have HRF:=Lib.hid (HR6.out.upd u7 (by omega));have HPF:=Lib.hid hb7;clear hu6 hgu hlu hou huu hru hb6 hb7 HW6
  have HCD:Hid (CdR T fin z u 5 bb 0):=⟨fun q=>absurd q (by omega),fun q=>absurd q (by omega),fun _=>⟨rfl,HRU.out⟩,fun q=>absurd q (by omega),HRU.out.2⟩
  have g0:=HPF.out.cell 0;have g1:=HPF.out.cell 1;have g2:=HPF.out.cell 2;have g3:=HPF.out.cell 3;have hrf:=HRF.out;unfold cdc at hrf;have r0:=hrf.cell 0;have r1:=hrf.cell 1;have r2:=hrf.cell 2;have r3:=hrf.cell 3;have rf:=hrf.frozen;have HRF2:=Lib.hid hrf;clear hrf v0
  go_wp2_with fail
  rw [set4_eq];refine bodyPost_ret (results_cell_row rfl _ _ w.heap.size 69 _ (0,0) _ rfl (set4_blk HRF2.out _ _ _ _) Tryz.underlying69 rfl (by kernel_rfl)) rfl ?_;have HSL:=HSF.out.loc (set4_upd _ w.heap.size (.int .i64 5) (.int .i64 a) (.int .i64 bb) (.int .i64 0)) (Nat.le_refl _) (by omega)
  exact ⟨⟨5,a,bb,0⟩,u,rfl,HSL.rd,HGU.out,by rw [HLU.out,hlf],fun j q=>(HSL.own j q).imp_right (fun r=>by omega),HSL.upd,pcond_fin HRY.out HRZ.out HCD.out⟩
 have t2:(k==2)=false:=by simpa using h2
 have t3:(k==3)=false:=by simpa using h3
 have t4:(k==4)=false:=by simpa using h4
 have t5:(k==5)=false:=by simpa using h5
 have t6:(k==6)=false:=by simpa using h6
 have CA:=Lib.hid (rPatternVar_c hL HS3.out.rd HGY.out HLY.out)
 go_wp2_with fail
 refine CA.out.mono ?_;rintro e w4 hw4;have HW4:=Lib.hid hw4;clear hw4 CA;obtain ⟨a,z,ev,hz4,hgz,hlz,hoz,huz,hrz⟩:=HW4.out;subst ev;have HS4:=Lib.hid (HS3.out.call hz4 hoz huz);have hb4:=HS3.out.keep huz (b:=w.heap.size+1) (by omega) (by omega) HP3.out;have HR4:=Lib.hid (HS3.out.keep huz (b:=w.heap.size) (by omega) (by omega) HR3.out);have HGZ:=Lib.hid hgz
 have HLZ:Hid (z.left=false):=hlz.trans HLY.out;have HRZ:=Lib.hid hrz;have v1:=hb4.cell 1;have vf:=hb4.frozen 1;obtain ⟨w5,Hw5⟩:=nm (w4.setCell ⟨w.heap.size+1,1,none⟩ (.int .i64 a));have e5:=Hw5.out
 have u5:Upd (·=w.heap.size+1) w4 w5:=by rw [←e5];exact updCell _ _ _ _
 have hb5:Blk w5 (w.heap.size+1) 69 #[.int .i64 k,.int .i64 a,.int .i64 0,.int .i64 0]:=by rw [←e5];simpa using hb4.set_ 1 (.int .i64 a)
 have HS5:=Lib.hid (HS4.out.loc u5 (by omega) (by omega));have HR5:=Lib.hid (HR4.out.upd u5 (by omega));have v0:=hb5.cell 0;have HP5:=Lib.hid hb5;clear hz4 hgz hlz hoz huz hrz hb4 hb5 HW4
 have HRZ:Hid (ResS y z (if k=6 then ivarF T fin (psOf y) else pvarF T fin (psOf y)) (fun (v:Nat)=>a=(v:Int)∧y.i+1≤z.i)):=by show ResS _ _ _ _;rw [if_neg h6];exact HRZ.out
 have HCD:Hid (CdR T fin z z k 0 0):=⟨fun q=>absurd q (by omega),fun q=>absurd q h4,fun q=>absurd q (by omega),fun _=>⟨rfl,rfl,rfl⟩,fun _=>⟨rfl,rfl⟩⟩
 have HPF:=HP5;have HRF:=HR5;have HSF:=HS5;have HGU:=HGZ;have HLU:=HLZ;have g0:=HPF.out.cell 0;have g1:=HPF.out.cell 1;have g2:=HPF.out.cell 2;have g3:=HPF.out.cell 3;have hrf:=HRF.out;unfold cdc at hrf;have r0:=hrf.cell 0;have r1:=hrf.cell 1;have r2:=hrf.cell 2;have r3:=hrf.cell 3;have rf:=hrf.frozen;have HRF2:=Lib.hid hrf;clear hrf v0
 go_wp2_with fail
 rw [set4_eq];refine bodyPost_ret (results_cell_row rfl _ _ w.heap.size 69 _ (0,0) _ rfl (set4_blk HRF2.out _ _ _ _) Tryz.underlying69 rfl (by kernel_rfl)) rfl ?_;have HSL:=HSF.out.loc (set4_upd _ w.heap.size (.int .i64 k) (.int .i64 a) (.int .i64 0) (.int .i64 0)) (Nat.le_refl _) (by omega)
 exact ⟨⟨k,a,0,0⟩,z,rfl,HSL.rd,HGU.out,by rw [HLU.out,hlf],fun j q=>(HSL.own j q).imp_right (fun r=>by omega),HSL.upd,pcond_fin HRY.out HRZ.out HCD.out⟩
structure LocP (P:Nat→Prop) (w0 w:World) (p:Nat) (A:Option Addr) (c:Nat) (L:List Tok) (x y:St):Prop where
 rd:RdS w p A c L y
 own:∀k,y.own p k→x.own p k∨w0.heap.size≤k
 pr:∀k,P k→w0.heap.size≤k∧k<w.heap.size∧¬y.own p k
 xlt:∀k,x.own p k→k<w0.heap.size
 upd:Upd (x.own p) w0 w
section
variable {P P' S:Nat→Prop} {w0 w w':World} {p:Nat} {A:Option Addr} {c:Nat} {L:List Tok} {x y y':St}
theorem LocP.start (h:RdS w p A c L x):LocP (fun _=>False) w w p A c L x x:=⟨h,fun _ q=>.inl q,fun _ f=>f.elim,fun _ q=>h.lt q,Upd.refl⟩
theorem LocP.le (h:LocP P w0 w p A c L x y):w0.heap.size≤w.heap.size:=h.upd.size
theorem LocP.call (h:LocP P w0 w p A c L x y) (hr:RdS w' p A c L y') (ho:∀k,y'.own p k→y.own p k∨w.heap.size≤k) (u:Upd (y.own p) w w'):LocP P w0 w' p A c L x y':=by
 have hl:=h.le;refine ⟨hr,fun k q=>?_,fun k q=>?_,h.xlt,h.upd.trans u (fun k hk q=>?_)⟩
 ·
  rcases ho k q with r | r
  ·
   exact h.own k r
  ·
   exact .inr (by omega)
 ·
  obtain ⟨h1,h2,h3⟩:=h.pr k q;refine ⟨h1,Nat.lt_of_lt_of_le h2 u.size,fun r=>?_⟩
  rcases ho k r with r | r
  ·
   exact h3 r
  ·
   omega
 ·
  rcases h.own k q with r | r
  ·
   exact r
  ·
   omega
theorem LocP.keep (h:LocP P w0 w p A c L x y) (u:Upd (y.own p) w w') {b:Nat} (hP:P b) {t:TypeId} {cs:Array Value} (hb:Blk w b t cs):Blk w' b t cs:=hb.upd u (h.pr b hP).2.2
theorem LocP.turn (h:LocP P w0 w p A c L x y) (u:Upd S w w') (hS:∀k,k<w.heap.size→S k→P k) (hP:∀k,P' k→P k∨(w.heap.size≤k∧k<w'.heap.size)):LocP P' w0 w' p A c L x y:=by
 have hp:=h.xlt p (.inl rfl);refine ⟨h.rd.upd u (fun k hk q=>?_),h.own,fun k q=>?_,h.xlt,h.upd.trans u (fun k hk q=>?_)⟩
 ·
  obtain ⟨h1,h2,h3⟩:=h.pr k (hS k hk q);exact ⟨by omega,fun r=>h3 (.inr (.inl r)),fun r=>h3 (.inr (.inr r))⟩
 ·
  rcases hP k q with r | r
  ·
   obtain ⟨h1,h2,h3⟩:=h.pr k r;exact ⟨h1,Nat.lt_of_lt_of_le h2 u.size,h3⟩
  ·
   exact ⟨Nat.le_trans h.le r.1,r.2,fun q=>by have:=h.rd.lt q;omega⟩
 ·
  have:=(h.pr k (hS k (Nat.lt_of_lt_of_le hk h.le) q)).1;omega
theorem LocP.non (h:LocP P w0 w p A c L x y) (u:Upd Non w w'):LocP P w0 w' p A c L x y:=h.turn u (fun _ _ f=>f.elim) (fun _ q=>.inl q)
def KpS (P:Nat→Prop) (n0 p:Nat) (w:World) (y:St) (q:Pt) (KA:Option Addr) (kc:Nat):Prop:=PtK w (fun k=>n0≤k∧¬y.own p k∧¬P k) q KA kc
theorem KpS.new {n0:Nat} {q:Pt} {KA:Option Addr} {kc n1:Nat} (h:PtK w (fun k=>n1≤k∧¬y.own p k) q KA kc) (hP:∀k,P k→k<n1) (hn:n0≤n1):KpS P n0 p w y q KA kc :=
 PtK.mono (fun k _ r=>⟨Nat.le_trans hn r.1,r.2,fun s=>Nat.lt_irrefl _ (Nat.lt_of_lt_of_le (hP k s) r.1)⟩) _ _ _ h
theorem KpS.call {n0:Nat} {q:Pt} {KA:Option Addr} {kc:Nat} (h:KpS P n0 p w y q KA kc) (ho:∀k,y'.own p k→y.own p k∨w.heap.size≤k) (u:Upd (y.own p) w w'):KpS P n0 p w' y' q KA kc:=by
 have h1:PtK w (fun k=>(n0≤k∧¬y.own p k∧¬P k)∧k<w.heap.size) q KA kc:=PtK.mono (fun k hk r=>⟨r,hk⟩) _ _ _ h
 exact PtK.mono (fun k _ r=>⟨r.1.1,fun s=>by rcases ho k s with s | s;exact r.1.2.1 s;exact Nat.lt_irrefl _ (Nat.lt_of_lt_of_le r.2 s),r.1.2.2⟩) _ _ _ (PtK.upd u (fun k _ r=>r.1.2.1) _ _ _ h1)
theorem KpS.turn {n0:Nat} {q:Pt} {KA:Option Addr} {kc:Nat} (h:KpS P n0 p w y q KA kc) (u:Upd S w w') (hS:∀k,k<w.heap.size→S k→P k) (hP:∀k,P' k→P k∨(w.heap.size≤k∧k<w'.heap.size)):KpS P' n0 p w' y q KA kc:=by
 have h1:PtK w (fun k=>(n0≤k∧¬y.own p k∧¬P k)∧k<w.heap.size) q KA kc:=PtK.mono (fun k hk r=>⟨r,hk⟩) _ _ _ h
 exact PtK.mono (fun k _ r=>⟨r.1.1,r.1.2.1,fun s=>by rcases hP k s with s | s;exact r.1.2.2 s;exact Nat.lt_irrefl _ (Nat.lt_of_lt_of_le r.2 s.1)⟩) _ _ _ (PtK.upd u (fun k hk r s=>r.1.2.2 (hS k hk s)) _ _ _ h1)
end
end Go.Proofs.YtblkgjdhaibhgaaGreat
namespace Go.Proofs.YtblkgjdhaibhgaaGreat
open Go.RowKit
set_option maxRecDepth 100000 in
theorem rItem1_c (s:ByteArray) (w:World):Calls Tryz.prog 60 #[.string s] w fun e w'=>e=.returned (.bool true)∧w'=w:=by
 go_enter Tryz.func60,Tryz.ntmps60
 go_wp2_with fail
 go_ret;exact ⟨rfl,rfl⟩
theorem hcfT:∀(args:Array Value) (w:World),(callFunc 60 args).run Tryz.prog w=.ok (.enter 60 args) w:=fun args w=>by
 simp [callFunc,Tryz.func60,Tryz.f60]
def St.clear (x:St):St:={ x with va:=none,vc:=0,vs:=[],ma:=none,mc:=0,ms:=[] }
theorem clear_own (x:St) (p k:Nat):x.clear.own p k↔k=p:=⟨fun h=>by
 rcases h with h | h | h
 ·
  exact h
 ·
  exact (At.none_ h).elim
 ·
  exact (At.none_ h).elim,fun h=>.inl h⟩
section
variable {w:World} {p:Nat} {A:Option Addr} {c:Nat} {L:List Tok} {x:St}
theorem RdS.clear (h:RdS w p A c L x):RdS ((w.setCell ⟨p,4,none⟩ (.slice none 0 0)).setCell ⟨p,5,none⟩ (.slice none 0 0)) p A c L x.clear∧Upd (·=p) w ((w.setCell ⟨p,4,none⟩ (.slice none 0 0)).setCell ⟨p,5,none⟩ (.slice none 0 0)):=by
 have u:Upd (·=p) w ((w.setCell ⟨p,4,none⟩ (.slice none 0 0)).setCell ⟨p,5,none⟩ (.slice none 0 0)):=(updCell w p 4 _).trans (updCell _ p 5 _) (fun _ _ q=>q)
 refine ⟨⟨?_,h.tok.upd u (fun k _ hk e=>by omega),h.le,Own.none_,Own.none_,fun k q=>(At.none_ q).elim,fun k q=>(At.none_ q).elim,fun k q=>(At.none_ q).elim⟩,u⟩
 have:=(h.blk.set_ 4 (.slice none 0 0)).set_ 5 (.slice none 0 0)
 simpa [rcells,St.clear] using this
theorem RdS.setLeft (h:RdS w p A c L x) (b:Bool):RdS (w.setCell ⟨p,6,none⟩ (.bool b)) p A c L { x with left:=b }:=by
 refine h.set (updCell _ _ _ _) ?_ rfl rfl rfl rfl rfl rfl;have:=h.blk.set_ 6 (.bool b)
 simpa [rcells] using this
theorem RdS.setI (h:RdS w p A c L x) (n:Nat):RdS (w.setCell ⟨p,1,none⟩ (.int .i64 n)) p A c L { x with i:=n }:=by
 refine h.set (updCell _ _ _ _) ?_ rfl rfl rfl rfl rfl rfl;have:=h.blk.set_ 1 (.int .i64 n)
 simpa [rcells] using this
theorem rWordA_c {T:List (Bs×Nat)} {fin:Nat} (hL:LOk L T fin) (h:RdS w p A c L x) (hx:Good T x) {g:Nat} {t:TypeId} {cs:Array Value} (hg:Blk w g t cs) (hpg:p<g) :
  Calls Tryz.prog 62 #[.pointer (some ⟨p,0,none⟩),.func (.func 60) #[] #[]] w (WrdP T w p g t (fun _:Unit=>cs) A c L x (fun (_:Bs) _=>True) (anyF T fin (psOf x))):=by
 refine rWordG_c hL h hx 60 #[] hcfT (fun _:Unit=>cs) () hg hpg (fun s x=>some (s,x)) (fun (_:Bs) _=>True) (fun s ps v y q=>?_) (fun s w1 _ _ _ u01=>?_)
 ·
  injection q with q;injection q with _ q;subst q;exact ⟨Nat.le_succ _,Nat.le_succ _⟩
 ·
  refine (rItem1_c (kstr s) w1).mono ?_;rintro e w' ⟨rfl,rfl⟩
  exact ⟨true,(),x,rfl,hg.upd u01 (fun f=>f),h.non u01,Keeps.refl,Upd.refl,(fun _=>⟨s,psOf x,rfl,trivial,rfl,rfl⟩),(fun q=>by cases q)⟩
end
end Go.Proofs.YtblkgjdhaibhgaaGreat
namespace Go.Proofs.YtblkgjdhaibhgaaGreat
open Go.RowKit
def bindE {α β:Type} (r:Except Er α) (g:α→Except Er β):Except Er β:=match r with | .error e=>.error e | .ok v=>g v
def Kept (x y:St):Prop:=x.why≠0→y.why=x.why∧y.ea=x.ea
theorem Kept.trans {x y z:St} (h:Kept x y) (k:Kept y z):Kept x z:=fun h0=>by
 have h1:=h h0;have h2:=k (by rw [h1.1];exact h0);exact ⟨h2.1.trans h1.1,h2.2.trans h1.2⟩
theorem kept_exp {L:List Tok} {y:St} {s:Bs}:Kept y (y.exp L s):=fun h=>by rw [exp_err h];exact ⟨rfl,rfl⟩
section
variable {L:List Tok} {T:List (Bs×Nat)} {fin:Nat}
theorem step_bind {α β:Type} {x y z:St} {r:Except Er (α×PS)} {P:α→Prop} {g:α×PS→Except Er (β×PS)} {Q:β→Prop} (h:ResS x y r P) (hne:∀e,r=.error e→e.1≠0) (hk:∀v,P v→y.why=0→ResS y z (g (v,psOf y)) Q) (he:Kept y z) :
  ResS x z (bindE r g) Q:=by
 refine ⟨fun h0=>?_,fun h0=>?_⟩
 ·
  have h1:=h.1 h0
  cases r with
  | error e =>
   have hn:y.why≠0:=by rw [h1.1];exact hne _ rfl
   exact ⟨(he hn).1.trans h1.1,(he hn).2.trans h1.2⟩
  | ok v =>
   obtain ⟨v,s⟩:=v;obtain ⟨g0,rfl,hP⟩:=h1;exact (hk v hP g0).1 g0
 ·
  have h1:=h.2 h0
  have hn:y.why≠0:=by rw [h1.1];exact h0
  exact ⟨(he hn).1.trans h1.1,(he hn).2.trans h1.2⟩
theorem exp_bind {β:Type} {y z:St} {s:Bs} (hL:LOk L T fin) (hy:Good T y) {g:PS→Except Er (β×PS)} {Q:β→Prop} (hk:(y.exp L s).why=0→ResS (y.exp L s) z (g (psOf (y.exp L s))) Q) (he:Kept (y.exp L s) z) :
  ResS y z (bindE (expF T fin s (psOf y)) g) Q:=by
 refine ⟨fun h0=>?_,fun h0=>?_⟩
 ·
  have h1:=exp_res (s:=s) hL hy h0
  cases hx:expF T fin s (psOf y) with
  | error e =>
   rw [hx] at h1
   have hn:(y.exp L s).why≠0:=by
    rw [h1.1];unfold expF at hx
    split at hx
    ·
     cases hx
    ·
     injection hx with hx;subst hx;show (2:Int)≠0;decide
   exact ⟨(he hn).1.trans h1.1,(he hn).2.trans h1.2⟩
  | ok u =>
   rw [hx] at h1;obtain ⟨g0,rfl⟩:=h1;exact (hk g0).1 g0
 ·
  exact Kept.trans kept_exp he h0
end
section
variable (T:List (Bs×Nat)) (fin:Nat)
def rg7 (s:Bs) (l r:Pt) (cs:List Cd) (x:PS):Except Er (Rl×PS):=bindE (expF T fin [59] x) fun u=>.ok (⟨⟨s.toArray⟩,l,r,cs,u.vs.length,u.ms.length⟩,u)
def rg6 (s:Bs) (l r:Pt) (x:PS):Except Er (Rl×PS):=bindE (ifF T fin (T.length+1) x) fun v=>rg7 T fin s l r v.1 v.2
def rg5 (s:Bs) (l:Pt) (x:PS):Except Er (Rl×PS):=bindE (termF T fin false (T.length+1) x) fun v=>rg6 T fin s l v.1 v.2
def rg4 (s:Bs) (l:Pt) (x:PS):Except Er (Rl×PS):=bindE (expF T fin [61,62] x) fun u=>rg5 T fin s l u
def rg3 (s:Bs) (x:PS):Except Er (Rl×PS):=bindE (termF T fin true (T.length+1) x) fun v=>rg4 T fin s v.1 v.2
def rg2 (s:Bs) (x:PS):Except Er (Rl×PS):=bindE (expF T fin [58] x) fun u=>rg3 T fin s u
theorem ruleF_eq (x:PS):ruleF T fin x=bindE (anyF T fin { x with vs:=[],ms:=[] }) fun v=>rg2 T fin v.1 v.2:=by
 unfold ruleF bindE
 cases anyF T fin { x with vs:=[],ms:=[] } with
 | error e=>rfl
 | ok v =>
  obtain ⟨s,x1⟩:=v;dsimp only;unfold rg2 bindE
  cases expF T fin [58] x1 with
  | error e=>rfl
  | ok x2 =>
   dsimp only;unfold rg3 bindE
   cases termF T fin true (T.length+1) x2 with
   | error e=>rfl
   | ok v =>
    obtain ⟨l,x3⟩:=v;dsimp only;unfold rg4 bindE
    cases expF T fin [61,62] x3 with
    | error e=>rfl
    | ok x4 =>
     dsimp only;unfold rg5 bindE
     cases termF T fin false (T.length+1) x4 with
     | error e=>rfl
     | ok v =>
      obtain ⟨r,x5⟩:=v;dsimp only;unfold rg6 bindE
      cases ifF T fin (T.length+1) x5 with
      | error e=>rfl
      | ok v =>
       obtain ⟨cs,x6⟩:=v;dsimp only;unfold rg7 bindE
       cases expF T fin [59] x6 <;> rfl
end
theorem rule_fin {L:List Tok} {T:List (Bs×Nat)} {fin:Nat} (hL:LOk L T fin) {x y1 y3 y5 y6:St} {s:Bs} {l r:Pt} {cs:List Cd} (hif:∀e,ifF T fin (T.length+1) (psOf y5)=.error e→e.1≠0)
  (h1:ResS x y1 (anyF T fin { psOf x with vs:=[],ms:=[] }) (fun v=>v=s)) (g1:Good T y1)
  (h3:ResS (y1.exp L [58]) y3 (termF T fin true (T.length+1) (psOf (y1.exp L [58]))) (fun v=>v=l)) (g3:Good T y3)
  (h5:ResS (y3.exp L [61,62]) y5 (termF T fin false (T.length+1) (psOf (y3.exp L [61,62]))) (fun v=>v=r))
  (h6:ResS y5 y6 (ifF T fin (T.length+1) (psOf y5)) (fun v=>v=cs)) (g6:Good T y6) :
  ResS x (y6.exp L [59]) (ruleF T fin (psOf x)) (fun v=>v=⟨⟨s.toArray⟩,l,r,cs,(y6.exp L [59]).vs.length,(y6.exp L [59]).ms.length⟩):=by
 have k6:Kept y6 (y6.exp L [59]):=kept_exp;have k5:Kept y5 (y6.exp L [59]):=Kept.trans h6.2 k6;have k4:Kept (y3.exp L [61,62]) (y6.exp L [59]):=Kept.trans h5.2 k5;have k3:Kept y3 (y6.exp L [59]):=Kept.trans kept_exp k4;have k2:Kept (y1.exp L [58]) (y6.exp L [59]):=Kept.trans h3.2 k3;have k1:Kept y1 (y6.exp L [59]):=Kept.trans kept_exp k2;rw [ruleF_eq]
 refine step_bind (g:=fun v=>rg2 T fin v.1 v.2) h1 (fun e=>wrdF_err) (fun v hv _=>?_) k1;subst hv;refine exp_bind (g:=fun u=>rg3 T fin v u) hL g1 (fun _=>?_) k2;refine step_bind (g:=fun q=>rg4 T fin v q.1 q.2) h3 (fun e=>termF_err _ _ e) (fun v1 hv _=>?_) k3;subst hv;refine exp_bind (g:=fun u=>rg5 T fin v v1 u) hL g3 (fun _=>?_) k4
 refine step_bind (g:=fun q=>rg6 T fin v v1 q.1 q.2) h5 (fun e=>termF_err _ _ e) (fun v2 hv _=>?_) k5;subst hv;refine step_bind (g:=fun q=>rg7 T fin v v1 v2 q.1 q.2) h6 hif (fun v3 hv _=>?_) k6;subst hv
 refine exp_bind (s:=[59]) (g:=fun u=>(.ok ((⟨⟨v.toArray⟩,v1,v2,v3,u.vs.length,u.ms.length⟩:Rl),u):Except Er (Rl×PS))) hL g6 (fun h0=>?_) (fun _=>⟨rfl,rfl⟩)
 exact ⟨fun _=>⟨h0,rfl,rfl⟩,fun h=>absurd h0 h⟩
end Go.Proofs.YtblkgjdhaibhgaaGreat
namespace Go.Proofs.YtblkgjdhaibhgaaGreat
open Go.RowKit
def ccell (c:Cd):List Value:=[.int .i64 c.kind,.int .i64 c.a,.int .i64 c.b,.int .i64 c.n]
def ccells (L:List Cd):List Value:=L.flatMap ccell
theorem ccells_snoc (L:List Cd) (c:Cd):ccells (L++[c])=ccells L++[.int .i64 c.kind,.int .i64 c.a,.int .i64 c.b,.int .i64 c.n]:=by simp [ccells,ccell]
theorem T_conds:SlT Tryz.prog 41 69 4 32:=by
 obtain ⟨i,h1,h2,h3,h4⟩:=info_parts (show (Tryz.prog.info? 69).map (fun i=>(i.zero,i.size,i.bytes))=some (some (.agg #[.int .i64 0,.int .i64 0,.int .i64 0,.int .i64 0]),4,32) from by kernel_rfl)
 exact ⟨Tryz.underlying41,⟨i,_,h1,h2,h3,h4,rfl⟩,by omega⟩
theorem ccells_get:∀(L:List Cd) (i:Nat) (h:i<L.length),(ccells L)[i * 4]?=some (.int .i64 L[i].kind)∧(ccells L)[i * 4+1]?=some (.int .i64 L[i].a)∧(ccells L)[i * 4+2]?=some (.int .i64 L[i].b)∧(ccells L)[i * 4+3]?=some (.int .i64 L[i].n)
 | c::L,0,_=>⟨rfl,rfl,rfl,rfl⟩
 | c::L,i+1,h=>by
  have:=ccells_get L i (by simpa using h);rw [show (i+1) * 4=i * 4+1+1+1+1 by omega];exact this
def CdO (w:World) (A:Option Addr) (c:Nat) (L:List Cd):Prop:=Own w 69 4 A L.length c (ccells L)
section
variable {w w':World} {A:Option Addr} {c:Nat} {L:List Cd} {S:Nat→Prop}
theorem CdO.none_:CdO w none 0 []:=Own.none_
theorem CdO.upd (h:CdO w A c L) (u:Upd S w w') (d:∀k,At A k→¬S k):CdO w' A c L:=Own.upd h u d
theorem CdO.lt (h:CdO w A c L) {k:Nat} (hk:At A k):k<w.heap.size:=Own.lt h hk
theorem CdO.le (h:CdO w A c L):L.length≤c:=Own.le h
theorem CdO.view (h:CdO w A c L):CondsV w (At A) A L:=by
 rcases Own.cases h with ⟨_,h0,_,_⟩ | ⟨g,cur,rfl,hb,_,_,_,ht⟩
 ·
  exact .inl (List.eq_nil_of_length_eq_zero h0)
 ·
  refine .inr ⟨g,0,rfl,At.some_.2 rfl,fun i hi=>?_⟩
  have hcell:∀j u,(ccells L)[j]?=some u→w.cell? ⟨g,j,none⟩=some u:=by
   intro j u hj;rw [hb.cell];rw [←ht,List.getElem?_take] at hj
   split at hj
   ·
    simpa using hj
   ·
    cases hj
  obtain ⟨c0,c1,c2,c3⟩:=ccells_get L i hi;rw [Nat.zero_add];exact ⟨hcell _ _ c0,hcell _ _ c1,hcell _ _ c2,hcell _ _ c3⟩
end
theorem CdO.of {w:World} {A:Option Addr} {n c:Nat} {L:List Cd} {cd:Cd} (hn:n=L.length+1) (h:Own w 69 4 A n c (ccells L++[.int .i64 cd.kind,.int .i64 cd.a,.int .i64 cd.b,.int .i64 cd.n])):CdO w A c (L++[cd]):=by
 unfold CdO;rw [ccells_snoc,List.length_append,List.length_singleton,←hn];exact h
section
variable {T:List (Bs×Nat)} {fin:Nat}
theorem pcondF_err {x:PS} {e:Er} (h:pcondF T fin x=.error e):e.1≠0:=by
 unfold pcondF at h
 split at h
 ·
  rename_i e' he;injection h with h;subst h;exact wrdF_err he
 ·
  split at h
  ·
   rename_i e' he;injection h with h;subst h
   split at he
   ·
    exact wrdF_err he
   ·
    exact wrdF_err he
  ·
   split at h
   ·
    cases h
   ·
    split at h
    ·
     split at h
     ·
      rename_i e' he;injection h with h;subst h;exact wrdF_err he
     ·
      cases h
    ·
     split at h
     ·
      split at h
      ·
       rename_i e' he;injection h with h;subst h;exact wrdF_err he
      ·
       cases h
     ·
      split at h
      ·
       rename_i e' he;injection h with h;subst h;exact wrdF_err he
      ·
       cases h
theorem condsF_err:∀(f:Nat) (x:PS) {e:Er},condsF T fin f x=.error e→e.1≠0
 | 0,x,e,h=>by unfold condsF at h;cases h
 | f+1,x,e,h=>by
  unfold condsF at h
  split at h
  ·
   split at h
   ·
    rename_i e' he;injection h with h;subst h;exact pcondF_err he
   ·
    split at h
    ·
     rename_i e' he;injection h with h;subst h;exact condsF_err f _ he
    ·
     cases h
  ·
   cases h
theorem ifF_err {f:Nat} {x:PS} {e:Er} (h:ifF T fin f x=.error e):e.1≠0:=by
 unfold ifF at h
 split at h
 ·
  split at h
  ·
   rename_i e' he;injection h with h;subst h;exact pcondF_err he
  ·
   split at h
   ·
    rename_i e' he;injection h with h;subst h;exact condsF_err f _ he
   ·
    cases h
 ·
  cases h
theorem condsF_succ (f:Nat) (x:PS):condsF T fin (f+1) x=if tkF T x.i=some [44] then (match pcondF T fin { x with i:=x.i+1 } with
   | .error e=>.error e
   | .ok (c,y)=>match condsF T fin f y with
    | .error e=>.error e
    | .ok (l,z)=>.ok (c::l,z)) else .ok ([],x):=rfl
def CdL (T:List (Bs×Nat)) (fin:Nat) (y5 y:St) (cs:List Cd) (f:Nat):Prop :=
 (y5.why=0→(y.why=0→T.length<f+y.i∧ifF T fin (T.length+1) (psOf y5)=match condsF T fin f (psOf y) with
  | .error e=>.error e
  | .ok (l,z)=>.ok (cs++l,z))∧(y.why≠0→ifF T fin (T.length+1) (psOf y5)=.error (y.why,y.ea)))∧(y5.why≠0→y.why=y5.why∧y.ea=y5.ea)
theorem CdL.first {y5 y:St} {cd:Cd} (ht:tkF T y5.i=some [105,102]) (h0:y5.why=0) (h:ResS { y5 with i:=y5.i+1 } y (pcondF T fin { psOf y5 with i:=y5.i+1 }) (fun v=>v=cd∧y5.i+1+1≤y.i)):CdL T fin y5 y [cd] (T.length+1):=by
 have hc:=h.1 h0;refine ⟨fun _=>⟨fun hy=>?_,fun hy=>?_⟩,fun q=>absurd h0 q⟩
 ·
  refine ⟨by omega,?_⟩;unfold ifF;rw [show (psOf y5).i=y5.i from rfl,if_pos ht]
  cases hp:pcondF T fin { psOf y5 with i:=y5.i+1 } with
  | error e=>rw [hp] at hc;exact absurd (hc.1 ▸ hy) (pcondF_err hp)
  | ok v =>
   obtain ⟨v,s⟩:=v;rw [hp] at hc;obtain ⟨_,rfl,rfl,_⟩:=hc;rfl
 ·
  unfold ifF;rw [show (psOf y5).i=y5.i from rfl,if_pos ht]
  cases hp:pcondF T fin { psOf y5 with i:=y5.i+1 } with
  | error e=>rw [hp] at hc;dsimp only;rw [hc.1,hc.2]
  | ok v=>rw [hp] at hc;exact absurd hc.1 hy
theorem CdL.more {y5 y y':St} {cs:List Cd} {cd:Cd} {f:Nat} (hl:CdL T fin y5 y cs f) (ht:tkF T y.i=some [44]) (h0:y.why=0) (hi:y.i<T.length) (h:ResS { y with i:=y.i+1 } y' (pcondF T fin { psOf y with i:=y.i+1 }) (fun v=>v=cd∧y.i+1+1≤y'.i)):0<f∧CdL T fin y5 y' (cs++[cd]) (f - 1):=by
 have hc:=h.1 h0
 have h5:y5.why=0:=by
  by_cases q:y5.why=0
  ·
   exact q
  ·
   exact absurd ((hl.2 q).1 ▸ h0) q
 obtain ⟨hf,he⟩:=(hl.1 h5).1 h0
 match f with
 | 0=>omega
 | f+1 =>
 refine ⟨by omega,fun _=>?_,fun q=>absurd h5 q⟩;rw [he,condsF_succ];rw [show (psOf y).i=y.i from rfl,if_pos ht];refine ⟨fun hy=>?_,fun hy=>?_⟩
 ·
  cases hp:pcondF T fin { psOf y with i:=y.i+1 } with
  | error e=>rw [hp] at hc;exact absurd (hc.1 ▸ hy) (pcondF_err hp)
  | ok v =>
   obtain ⟨v,s⟩:=v;rw [hp] at hc;obtain ⟨_,rfl,rfl,hi2⟩:=hc;refine ⟨by show T.length<f+1 - 1+y'.i;omega,?_⟩;dsimp only;rw [show f+1 - 1=f from rfl]
   cases condsF T fin f (psOf y') with
   | error e=>rfl
   | ok v=>obtain ⟨l,z⟩:=v;simp
 ·
  cases hp:pcondF T fin { psOf y with i:=y.i+1 } with
  | error e=>rw [hp] at hc;dsimp only;rw [hc.1,hc.2]
  | ok v=>rw [hp] at hc;exact absurd hc.1 hy
theorem CdL.done {y5 y:St} {cs:List Cd} {f:Nat} (hl:CdL T fin y5 y cs f) (hD:(y.why==0&&decide (tkF T y.i=some [44]))=false):ResS y5 y (ifF T fin (T.length+1) (psOf y5)) (fun v=>v=cs):=by
 refine ⟨fun h5=>?_,hl.2⟩
 by_cases h0:y.why=0
 ·
  have he:=((hl.1 h5).1 h0).2
  have ht:¬tkF T y.i=some [44]:=by simpa [h0] using hD
  have hc:condsF T fin f (psOf y)=.ok ([],psOf y):=by
   cases f with
   | zero=>rfl
   | succ f=>rw [condsF_succ,show (psOf y).i=y.i from rfl,if_neg ht]
  rw [hc] at he;rw [he];exact ⟨h0,rfl,by simp⟩
 ·
  rw [(hl.1 h5).2 h0];exact ⟨rfl,rfl⟩
theorem ifF_none {y:St} (hD:(y.why==0&&decide (tkF T y.i=some [105,102]))=false):ResS y y (ifF T fin (T.length+1) (psOf y)) (fun v=>v=[]):=by
 refine ⟨fun h0=>?_,fun _=>⟨rfl,rfl⟩⟩
 have ht:¬tkF T y.i=some [105,102]:=by simpa [h0] using hD
 unfold ifF;rw [show (psOf y).i=y.i from rfl,if_neg ht];exact ⟨h0,rfl,rfl⟩
end
end Go.Proofs.YtblkgjdhaibhgaaGreat
