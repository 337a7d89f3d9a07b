/-
  Lemmas and walks that the claim rests on, part 9 (packed by a program).
-/
import Derived.Test.YtblkgjdhaibhgaaGreatR4
import Derived.Test.YtblkgjdhaibhgaaGreatR6
import Derived.Test.YtblkgjdhaibhgaaGreatR8
import Derived.Test.YtblkgjdhaibhgaaGreatR1
import Derived.Test.YtblkgjdhaibhgaaGreatR5
namespace Go.Proofs.YtblkgjdhaibhgaaGreat
open Go.RowKit
def FmY (p:Pt):Prop:=∀q∈nodes p,¬0<q.v→4≤q.op→0<q.iv→immOp q.op=true
theorem FmY.kid {p k:Pt} (h:FmY p) (hk:k∈p.kids):FmY k:=fun q hq=>h q (by
 cases p
 simp only [nodes,List.mem_cons]
 exact .inr (nodesL_mem hk hq))
theorem immOp_eq {op:Int} (h:4≤op):hasImmF op=immOp op:=by
 unfold hasImmF immOp;exact decide_eq_decide.2 (by omega)
theorem shp_fy (p:Pt):∀(s m:Int) (n:Nat),shp p s m n=true→FmY p:=by
 induction p using Pt.ind with
 | h p ih =>
  intro s m n hs q hq;rw [nodes_eq,List.mem_cons] at hq
  by_cases hv:p.v=0
  ·
   rw [shp_op hv,Bool.and_eq_true,decide_eq_true_iff] at hs;obtain ⟨⟨h1,h2,_,h4⟩,h5⟩:=hs
   rcases hq with rfl | hq
   ·
    intro _ h6 h7;unfold pImmF at h4;rw [if_pos (by omega),Bool.and_eq_true] at h4;rw [←immOp_eq h6];exact h4.1
   ·
    obtain ⟨k,hk,hq⟩:=nodesL_of hq;obtain ⟨i,hi2,rfl⟩:=List.mem_iff_getElem.1 hk;exact ih _ hk _ m n (shpL_at hi2 h5) q hq
  ·
   rw [shp_var hv,decide_eq_true_iff] at hs
   rcases hq with rfl | hq
   ·
    intro h6;omega
   ·
    obtain ⟨k,hk,hq⟩:=nodesL_of hq;have : p.kids=[]:=List.eq_nil_of_length_eq_zero (by omega);rw [this] at hk
    cases hk
theorem letV {n:Int} (h0:0<n) (h1:n≤100) (W:World):(convert 57 9 (.slice (some ⟨W.heap.size,0,none⟩) 1 1)).run Tryz.prog (W.alloc (.cells #[.int .u8 (97+n - 1)] 5))=.ok (.string (kstr [UInt8.ofNat (96+n.toNat)])) (W.alloc (.cells #[.int .u8 (97+n - 1)] 5)):=by
 have h:=run_str (P:=Tryz.prog) (src:=57) (dst:=9) Tryz.underlying57 Tryz.underlying5 Tryz.underlying9 (ns:=[97+n - 1]) (c:=1) (Sl.new W 5 [.int .u8 (97+n - 1)]) (n:=1) rfl
 rw [bstr_k,show [97+n - 1].map (fun n=>UInt8.ofNat n.toNat)=[UInt8.ofNat (96+n.toNat)] by show [UInt8.ofNat (97+n - 1).toNat]=_;rw [show (97+n - 1).toNat=96+n.toNat by omega]] at h
 exact h
theorem letM {n:Int} (h0:0<n) (h1:n≤100) (W:World):(convert 57 9 (.slice (some ⟨W.heap.size,0,none⟩) 1 1)).run Tryz.prog (W.alloc (.cells #[.int .u8 (107+n - 1)] 5))=.ok (.string (kstr (inF n))) (W.alloc (.cells #[.int .u8 (107+n - 1)] 5)):=by
 have h:=run_str (P:=Tryz.prog) (src:=57) (dst:=9) Tryz.underlying57 Tryz.underlying5 Tryz.underlying9 (ns:=[107+n - 1]) (c:=1) (Sl.new W 5 [.int .u8 (107+n - 1)]) (n:=1) rfl
 rw [bstr_k,show [107+n - 1].map (fun n=>UInt8.ofNat n.toNat)=inF n by unfold inF;show [UInt8.ofNat (107+n - 1).toNat]=_;rw [show (107+n - 1).toNat=106+n.toNat by omega]] at h
 exact h
set_option maxRecDepth 100000 in
set_option maxHeartbeats 2000000 in
theorem xFmtPattern_c (p:Pt):∀(w:World) (F:Nat→Prop) (KA:Option Addr) (kc:Nat),PtK w F p KA kc→FmOk p→FmY p→p.size≤1000000000000 →
  Calls Tryz.prog 55 #[pv p KA kc] w fun e w'=>e=.returned (.string (kstr (fmtF p)))∧Upd Non w w':=by
 induction p using Pt.ind with
 | h p ih =>
  intro w F KA kc hp hok hfy hs;have hse:=Pt.size_eq p;have hle:=Pt.len_le p.kids;have HI:=Lib.hid ih;obtain ⟨W,HW⟩:=nm (w.alloc (.cells #[.int .i64 p.v,.int .i64 p.op,.int .i64 p.imm,.int .i64 p.iv,.slice KA p.kids.length kc] 40))
  have hU:Upd Non w W:=by rw [←HW.out];exact Upd.refl.alloc _
  have hb:Blk W w.heap.size 40 #[.int .i64 p.v,.int .i64 p.op,.int .i64 p.imm,.int .i64 p.iv,.slice KA p.kids.length kc]:=by rw [←HW.out];exact Blk.new _ _ _
  have e0:=HW.out;have c0:=hb.cell 0;have c1:=hb.cell 1;have c2:=hb.cell 2;have c3:=hb.cell 3;have HB:=Lib.hid hb;have HF:=Lib.hid (fmt_eq p);have HLN:=Lib.hid (fmtF_len p hok);obtain ⟨res,Hres⟩:=nm (fmtF p);rw [Hres.out] at HF HLN ⊢;have hpW:=PtK.upd hU (fun _ _ _ f=>f) p KA kc hp;have HPW:=Lib.hid hpW;have HS:=Lib.hid hse;have HFY:=Lib.hid hfy;have HU:=Lib.hid hU
  unfold pv;clear ih hse hp hb hpW hU hfy
  rcases hok.inv with ⟨a1,a2⟩ | ⟨a1,a2,a3,a4,a5⟩ | ⟨a1,a2,a3,a4,a5,a6,a7⟩
  ·
   have tv:decide (0<p.v)=true:=decide_eq_true a1
   have HA:Hid (({ data:=#[63] }:ByteArray)++kstr [UInt8.ofNat (96+p.v.toNat)]=kstr res):=by show _=_;rw [HF.out,if_pos a1];exact kstr_app [63] _
   have cv:=letV a1 a2 W;have hz:(kstr [UInt8.ofNat (96+p.v.toNat)]).size≤1:=ksz (Nat.le_refl _);rw [←HA.out];clear HA hok hle HF;obtain ⟨str,Hstr⟩:=nm (kstr [UInt8.ofNat (96+p.v.toNat)]);rw [Hstr.out] at cv hz ⊢;clear Hstr;obtain ⟨v,Hv⟩:=nm p.v;rw [Hv.out] at c0 tv e0 cv a1 a2 ⊢;clear c1 c2 c3;go_enter Tryz.func55,Tryz.ntmps55
   go_wp2_with fail
   go_ret;exact ⟨rfl,HU.out.alloc _⟩
  ·
   have tv:decide (0<p.v)=false:=decide_eq_false a1
   by_cases hi:0<p.iv
   ·
    have ti:decide (0<p.iv)=true:=decide_eq_true hi
    have HR:Hid (res=36::inF p.iv):=by show _=_;rw [HF.out,if_neg a1,if_pos a2,if_pos hi]
    have cv:=letM hi a5 W;have hz:(kstr (inF p.iv)).size≤1:=ksz (Nat.le_refl _)
    have HA:Hid (({ data:=#[36] }:ByteArray)++kstr (inF p.iv)=kstr res):=by show _=_;rw [HR.out];exact kstr_app [36] _
    rw [a2] at c1 e0;rw [←HA.out];obtain ⟨str,Hstr⟩:=nm (kstr (inF p.iv));rw [Hstr.out] at cv hz ⊢;rw [a2];clear a1 a2 a3 a4 hok hle HF HA HR Hstr;obtain ⟨v,Hv⟩:=nm p.v;obtain ⟨iv,Hiv⟩:=nm p.iv;rw [Hv.out,Hiv.out] at e0;rw [Hv.out] at c0 tv;rw [Hiv.out] at c3 ti cv hi a5;rw [Hv.out,Hiv.out];clear c2;go_enter Tryz.func55,Tryz.ntmps55
    go_wp2_with fail
    go_ret;exact ⟨rfl,HU.out.alloc _⟩
   ·
    have ti:decide (0<p.iv)=false:=decide_eq_false hi
    have HR:Hid (res=textF p.imm):=by show _=_;rw [HF.out,if_neg a1,if_pos a2,if_neg hi]
    have CV:=Lib.hid (fun W=>r1Text_c p.imm a3 a4 W);rw [HR.out];rw [a2] at c1 e0;rw [a2];clear a1 a2 a3 a4 a5 hok hle HF hi;obtain ⟨v,Hv⟩:=nm p.v;obtain ⟨iv,Hiv⟩:=nm p.iv;obtain ⟨imm,Himm⟩:=nm p.imm;rw [Hv.out,Hiv.out,Himm.out] at e0;rw [Hv.out] at c0 tv;rw [Hiv.out] at c3 ti;rw [Himm.out] at c2 CV;rw [Hv.out,Hiv.out,Himm.out];go_enter Tryz.func55,Tryz.ntmps55
    go_wp2_with fail
    refine (CV.out _).mono ?_;rintro e w2 ⟨rfl,hu⟩;clear CV e0
    go_wp2_with fail
    go_ret;exact ⟨rfl,HU.out.then_non hu⟩
  ·
   have tv:decide (0<p.v)=false:=decide_eq_false a1
   have tp1:(p.op==1)=false:=by simp;omega
   have HR:Hid (res=[40]++opNm p.op++(if 0<p.iv then 46::inF p.iv else if immOp p.op=true then 46::textF p.imm else [])++fmtL p.kids++[41]):=by show _=_;rw [HF.out,if_neg a1,if_neg (by omega)]
   have HBD:=Lib.hid hok;obtain ⟨suf,Hsuf⟩:=nm (if 0<p.iv then 46::inF p.iv else if immOp p.op=true then 46::textF p.imm else ([]:Bs))
   have hsufl:suf.length≤22:=by
    rw [←Hsuf.out];have:=textF_len ⟨a4,a5⟩
    split
    ·
     simp [inF]
    ·
     split <;> simp <;> omega
   rw [Hsuf.out] at HR;have hnl:=opNm_len p.op;have CN:=Lib.hid (r10Name_c p.op a2 a3 W);obtain ⟨nmb,Hnmb⟩:=nm (opNm p.op);rw [Hnmb.out] at HR hnl CN;have hz:(kstr nmb).size≤5:=ksz hnl;obtain ⟨ns,Hns⟩:=nm (kstr nmb);rw [Hns.out] at CN hz;have hk:=HBD.out;have HKS:Hid (∀k∈p.kids,FmOk k):=a7
   have HFK:Hid (∀k∈p.kids,FmY k):=fun k hk=>HFY.out.kid hk
   have HIM:Hid (-9223372036854775808≤p.imm∧p.imm≤9223372036854775807∧p.iv≤100):=⟨a4,a5,a6⟩;have CI:=Lib.hid (fun (h:0<p.iv) W=>letM h a6 W);have CT:=Lib.hid (fun W=>r1Text_c p.imm a4 a5 W);have CH:=Lib.hid (fun W=>r15HasImm_c p.op W);rw [immOp_eq a2] at CH;have HY:Hid (0<p.iv→immOp p.op=true):=HFY.out p (nodes_self p) a1 a2
   have HSP:Hid (suf=if 0<p.iv then 46::inF p.iv else if immOp p.op=true then 46::textF p.imm else ([]:Bs)):=Hsuf.out.symm
   have hpo:p.op≠1:=by omega
   clear a1 a2 a3 a4 a5 a6 a7 hok hk HF Hsuf;obtain ⟨v,Hv⟩:=nm p.v;obtain ⟨iv,Hiv⟩:=nm p.iv;obtain ⟨imm,Himm⟩:=nm p.imm;obtain ⟨op,Hop⟩:=nm p.op;obtain ⟨n,Hn⟩:=nm p.kids.length;rw [Hv.out,Hiv.out,Himm.out,Hop.out,Hn.out] at e0;rw [Hv.out] at c0 tv;rw [Hiv.out] at c3 CI;rw [Hop.out] at c1 tp1 CN CH;rw [Himm.out] at c2 CT;rw [Hiv.out,Himm.out,Hop.out] at HSP
   rw [Hiv.out,Hop.out] at HY;rw [Hn.out] at hle;rw [Hv.out,Hiv.out,Himm.out,Hop.out,Hn.out]
   have hn12:n≤1000000000000:=by have:=HS.out;omega
   clear hpo;go_enter Tryz.func55,Tryz.ntmps55
   go_wp2_with fail
   refine CN.out.mono ?_;rintro e w2 ⟨rfl,hu2⟩;have d2:=cell_upd c2 hu2 (fun f=>f);have d3:=cell_upd c3 hu2 (fun f=>f);have d1:=cell_upd c1 hu2 (fun f=>f);clear CN e0 c0 c1 c2 c3;obtain ⟨hm,Hhm⟩:=nm (immOp op);have CHH:=Lib.hid (CH.out w2);rw [Hhm.out] at CHH HSP HY;have HNE:Hid (kstr nmb=ns):=Hns.out
   go_wp2_with fail
   refine CHH.out.mono ?_;rintro e w3 ⟨rfl,rfl⟩
   go_upto_if 42 with fail
   go_cut [3] (fun s wx=>s=.string (kstr (nmb++suf))∧Upd Non W wx)
   case first =>
    cases hm with
    | false =>
     have hi:¬0<iv:=fun q=>by have:=HY.out q;cases this
     have HE:Hid (ns=kstr (nmb++suf)):=by show _=_;rw [←HNE.out,HSP.out,if_neg hi,if_neg (by decide),List.append_nil]
     clear hi
     go_wp2_with fail
     go_meet
     case rel=>exact ⟨by rw [←HE.out],hu2⟩
    | true =>
     obtain ⟨D,HD⟩:=nm (decide (0<iv));have tD:=HD.out
     cases D with
     | true =>
      have hi:0<iv:=of_decide_eq_true HD.out
      have hi6:iv≤100:=by rw [←Hiv.out];exact HIM.out.2.2
      have HSF:Hid (suf=46::inF iv):=by show _=_;rw [HSP.out,if_pos hi]
      have cv:=CI.out hi w2;have hzi:(kstr (inF iv)).size≤1:=ksz (Nat.le_refl _)
      have HE:Hid ((ns++({ data:=#[46] }:ByteArray))++kstr (inF iv)=kstr (nmb++suf)):=by
       show _=_;rw [←HNE.out,HSF.out,show ({ data:=#[46] }:ByteArray)=kstr [46] from rfl,kstr_app,kstr_app,List.append_assoc];rfl
      obtain ⟨im,Him⟩:=nm (kstr (inF iv));rw [Him.out] at cv hzi HE
      go_wp2_with fail
      go_meet
      case rel=>exact ⟨by rw [←HE.out],hu2.alloc _⟩
     | false =>
      have hi:¬0<iv:=of_decide_eq_false HD.out
      have HSF:Hid (suf=46::textF imm):=by show _=_;rw [HSP.out,if_neg hi,if_pos rfl]
      have hzi:(kstr (textF imm)).size≤21:=ksz (textF_len (by rw [←Himm.out];exact ⟨HIM.out.1,HIM.out.2.1⟩))
      have HE:Hid ((ns++({ data:=#[46] }:ByteArray))++kstr (textF imm)=kstr (nmb++suf)):=by
       show _=_;rw [←HNE.out,HSF.out,show ({ data:=#[46] }:ByteArray)=kstr [46] from rfl,kstr_app,kstr_app,List.append_assoc];rfl
      have CTT:=Lib.hid (CT.out);obtain ⟨im,Him⟩:=nm (kstr (textF imm));rw [Him.out] at CTT hzi HE;clear hi
      go_wp2_with fail
      refine (CTT.out _).mono ?_;rintro e w4 ⟨rfl,hu3⟩;clear CTT
      go_wp2_with fail
      go_meet
      case rel=>exact ⟨by rw [←HE.out],hu2.then_non hu3⟩
   case rest =>
    obtain ⟨rfl,hwc⟩:=hcut;clear d1 d2 d3 CI CT CH HSP;have hbw:=HB.out.upd hwc (fun f=>f);rw [Hn.out] at hbw;have c4:=hbw.cell 4;have HPC:=Lib.hid (PtK.upd hwc (fun _ _ _ f=>f) p KA kc HPW.out);have HUC:=Lib.hid (HU.out.then_non hwc);obtain ⟨pre,Hpre⟩:=nm (nmb++suf)
    have hpl:pre.length≤28:=by rw [←Hpre.out];simp;omega
    rw [show [40]++nmb++suf=[40]++(nmb++suf) by simp,Hpre.out] at HR;rw [Hpre.out];clear hbw hwc hu2
    go_wp2_with fail
    go_loopg [3,5] n (fun g v i wr=>∃k:Nat,Hid (g=n - k)∧k≤n∧i=.int .i64 k∧v=.string (kstr (pre++fmtL (p.kids.take k)))∧Hid (Upd Non wc wr))
    case atStart=>exact ⟨0,rfl,by omega,rfl,by simp [fmtL],Upd.refl⟩
    case round =>
     obtain ⟨k,Hg,hk,rfl,rfl,Hu⟩:=hrel;have c4r:=cell_upd c4 Hu.out (fun f=>f);have hkt:=Pt.sizeL_take_le p.kids k;have hfl:=fmtL_len (p.kids.take k) (fun q hq=>HKS.out q (List.mem_of_mem_take hq));have hz0:(kstr (pre++fmtL (p.kids.take k))).size≤100000000000000:=ksz (by rw [List.length_append];have:=HS.out;omega)
     by_cases hlt:k<n
     ·
      have hkl:k<p.kids.length:=by rw [Hn.out];exact hlt
      obtain ⟨b,o,rfl,hF,hbw,KB,kd,h0,h1,h2,h3,h4,h5⟩:=(PtK.upd Hu.out (fun _ _ _ f=>f) p KA kc HPC.out).at_ hkl
      have hks:p.kids[k].size≤1000000000000:=by have:=Pt.kids_lt (List.getElem_mem hkl);omega
      have hmem0:=List.getElem_mem hkl;have HTK:Hid (p.kids.take (k+1)=p.kids.take k++[p.kids[k]]):=take_snoc' hkl;generalize p.kids[k]=q at *
      have hmem:q∈p.kids:=by assumption
      have C1:=Lib.hid (HI.out q hmem wr F KB kd h5 (HKS.out q hmem) (HFK.out q hmem) hks);unfold pv at C1;have hql:=fmtF_len q (HKS.out q hmem);have hzq:(kstr (fmtF q)).size≤100000000000000:=ksz (by omega)
      have HE:Hid ((kstr (pre++fmtL (p.kids.take k))++({ data:=#[32] }:ByteArray))++kstr (fmtF q)=kstr (pre++fmtL (p.kids.take (k+1)))):=by
       show _=_;rw [HTK.out,fmtL_snoc,show ({ data:=#[32] }:ByteArray)=kstr [32] from rfl,kstr_app,kstr_app];simp
      obtain ⟨sq,Hsq⟩:=nm (kstr (fmtF q));obtain ⟨sk,Hsk⟩:=nm (kstr (pre++fmtL (p.kids.take k)));rw [Hsq.out] at C1 hzq HE;rw [Hsk.out] at hz0 HE ⊢;clear hkt hfl h5 hql hmem hmem0 hks
      go_wp2_with fail
      refine C1.out.mono ?_;rintro e w4 ⟨rfl,hu4⟩;clear C1
      go_wp2_with fail
      go_roundg (n - (k+1))
      case measure=>rw [Hg.out];omega
      case rel=>exact ⟨k+1,rfl,by omega,by go_num,by rw [←HE.out],Hu.out.then_non hu4⟩
     ·
      obtain rfl:n=k:=by omega
      have HE:Hid ((({ data:=#[40] }:ByteArray)++kstr (pre++fmtL (p.kids.take n)))++({ data:=#[41] }:ByteArray)=kstr res):=by
       show _=_
       rw [←Hn.out,List.take_length,HR.out,show ({ data:=#[40] }:ByteArray)=kstr [40] from rfl,show ({ data:=#[41] }:ByteArray)=kstr [41] from rfl,kstr_app,kstr_app]
       simp
      obtain ⟨sk,Hsk⟩:=nm (kstr (pre++fmtL (p.kids.take n)));rw [Hsk.out] at hz0 HE ⊢;clear hkt hfl
      go_wp2_with fail
      go_ret;exact ⟨by rw [←HE.out];rfl,HUC.out.then_non Hu.out⟩
set_option maxRecDepth 100000 in
set_option maxHeartbeats 2000000 in
theorem xFmtCond_c (c:Cd) (h:CdFm c) (w:World):Calls Tryz.prog 56 #[.agg #[.int .i64 c.kind,.int .i64 c.a,.int .i64 c.b,.int .i64 c.n]] w fun e w'=>e=.returned (.string (kstr (fmtC c)))∧Upd Non w w':=by
 obtain ⟨W,HW⟩:=nm (w.alloc (.cells #[.int .i64 c.kind,.int .i64 c.a,.int .i64 c.b,.int .i64 c.n] 69))
 have hU:Upd Non w W:=by rw [←HW.out];exact Upd.refl.alloc _
 have hb:Blk W w.heap.size 69 #[.int .i64 c.kind,.int .i64 c.a,.int .i64 c.b,.int .i64 c.n]:=by rw [←HW.out];exact Blk.new _ _ _
 have e0:=HW.out;have HU:=Lib.hid hU;have HB:=Lib.hid hb;have H:=Lib.hid h;have c0:=hb.cell 0;have c1:=hb.cell 1;have c2:=hb.cell 2;have c3:=hb.cell 3;have a0:=h.a0;have a1:=h.a1;have cv:=letV a0 a1 W;have k0:=h.k0;have k1:=h.k1
 have hza:(kstr [UInt8.ofNat (96+c.a.toNat)]).size≤1:=by rw [kstr_size];exact Nat.le_refl _
 have HF:Hid (fmtC c=condNm c.kind++[32]++(if c.kind=1 then vnF c.a else if c.kind=4 then vnF c.a++[32]++vnF c.b else if c.kind=5 then vnF c.a++[32]++inF c.b else if c.kind=6 then inF c.a++[32]++inF c.b else vnF c.a++[32]++textF c.n)):=rfl
 obtain ⟨res,Hres⟩:=nm (fmtC c);rw [Hres.out] at HF ⊢;obtain ⟨W1,HW1⟩:=nm (W.alloc (.cells #[.int .u8 (97+c.a - 1)] 5))
 have u1:Upd Non W W1:=by rw [←HW1.out];exact Upd.refl.alloc _
 have d0:=cell_upd c0 u1 (fun f=>f);have d1:=cell_upd c1 u1 (fun f=>f);have d2:=cell_upd c2 u1 (fun f=>f);have d3:=cell_upd c3 u1 (fun f=>f);have HU1:=Lib.hid (hU.then_non u1);obtain ⟨sa,Hsa⟩:=nm (kstr [UInt8.ofNat (96+c.a.toNat)]);rw [Hsa.out] at cv hza;clear hU hb h u1 c0 c2 c3;go_enter Tryz.func56,Tryz.ntmps56
 go_upto_region 2 with fail
 rw [HW1.out];clear e0 cv c1
 rcases (by omega:c.kind=1∨c.kind=2∨c.kind=3∨c.kind=4∨c.kind=5∨c.kind=6) with hk | hk | hk | hk | hk | hk
 ·
  have HE:Hid (({ data:=#[110,111,110,122,101,114,111,32] }:ByteArray)++(({ data:=#[63] }:ByteArray)++sa)=kstr res):=by
   show _=_
   rw [HF.out,hk,←Hsa.out,show ({ data:=#[110,111,110,122,101,114,111,32] }:ByteArray)=kstr [110,111,110,122,101,114,111,32] from rfl,show ({ data:=#[63] }:ByteArray)=kstr [63] from rfl,kstr_app,kstr_app]
   rfl
  rw [hk] at d0;clear HF Hres
  go_wp2_with fail
  go_ret;exact ⟨by rw [←HE.out];rfl,HU1.out⟩
 ·
  have HE:Hid (((({ data:=#[108,101,97,115,116,32] }:ByteArray)++(({ data:=#[63] }:ByteArray)++sa))++({ data:=#[32] }:ByteArray))++kstr (textF c.n)=kstr res):=by
   show _=_
   rw [HF.out,hk,←Hsa.out,show ({ data:=#[108,101,97,115,116,32] }:ByteArray)=kstr [108,101,97,115,116,32] from rfl,show ({ data:=#[63] }:ByteArray)=kstr [63] from rfl,show ({ data:=#[32] }:ByteArray)=kstr [32] from rfl,kstr_app,kstr_app,kstr_app,kstr_app]
   rfl
  have CT:=Lib.hid (fun W=>r1Text_c c.n H.out.n0 H.out.n1 W);have hz2:(kstr (textF c.n)).size≤24:=ksz (by have:=textF_len ⟨H.out.n0,H.out.n1⟩;omega);rw [hk] at d0;obtain ⟨tx,Htx⟩:=nm (kstr (textF c.n));rw [Htx.out] at CT hz2 HE;clear HF Hres
  go_wp2_with fail
  refine (CT.out _).mono ?_;rintro e w3 ⟨rfl,u3⟩
  go_wp2_with fail
  go_ret;exact ⟨by rw [←HE.out];rfl,HU1.out.then_non u3⟩
 ·
  have HE:Hid (((({ data:=#[109,111,115,116,32] }:ByteArray)++(({ data:=#[63] }:ByteArray)++sa))++({ data:=#[32] }:ByteArray))++kstr (textF c.n)=kstr res):=by
   show _=_
   rw [HF.out,hk,←Hsa.out,show ({ data:=#[109,111,115,116,32] }:ByteArray)=kstr [109,111,115,116,32] from rfl,show ({ data:=#[63] }:ByteArray)=kstr [63] from rfl,show ({ data:=#[32] }:ByteArray)=kstr [32] from rfl,kstr_app,kstr_app,kstr_app,kstr_app]
   rfl
  have CT:=Lib.hid (fun W=>r1Text_c c.n H.out.n0 H.out.n1 W);have hz2:(kstr (textF c.n)).size≤24:=ksz (by have:=textF_len ⟨H.out.n0,H.out.n1⟩;omega);rw [hk] at d0;obtain ⟨tx,Htx⟩:=nm (kstr (textF c.n));rw [Htx.out] at CT hz2 HE;clear HF Hres
  go_wp2_with fail
  refine (CT.out _).mono ?_;rintro e w3 ⟨rfl,u3⟩
  go_wp2_with fail
  go_ret;exact ⟨by rw [←HE.out];rfl,HU1.out.then_non u3⟩
 ·
  have HE:Hid (((({ data:=#[97,112,97,114,116,32] }:ByteArray)++(({ data:=#[63] }:ByteArray)++sa))++({ data:=#[32,63] }:ByteArray))++kstr [UInt8.ofNat (96+c.b.toNat)]=kstr res):=by
   show _=_
   rw [HF.out,hk,←Hsa.out,show ({ data:=#[97,112,97,114,116,32] }:ByteArray)=kstr [97,112,97,114,116,32] from rfl,show ({ data:=#[63] }:ByteArray)=kstr [63] from rfl,show ({ data:=#[32,63] }:ByteArray)=kstr [32,63] from rfl,kstr_app,kstr_app,kstr_app,kstr_app]
   rfl
  have b0:=H.out.b0 (by omega);have b1:=H.out.b1 (by omega)
  have cw:=fun W=>letV b0 b1 W
  have hz2:(kstr [UInt8.ofNat (96+c.b.toNat)]).size≤1:=by rw [kstr_size];exact Nat.le_refl _
  rw [hk] at d0;obtain ⟨sb,Hsb⟩:=nm (kstr [UInt8.ofNat (96+c.b.toNat)]);rw [Hsb.out] at cw hz2 HE;clear HF Hres;have cw1:=cw W1
  go_wp2_with fail
  go_ret;exact ⟨by rw [←HE.out];rfl,HU1.out.alloc _⟩
 ·
  have HE:Hid (((({ data:=#[105,110,115,105,100,101,32] }:ByteArray)++(({ data:=#[63] }:ByteArray)++sa))++({ data:=#[32] }:ByteArray))++kstr (inF c.b)=kstr res):=by
   show _=_
   rw [HF.out,hk,←Hsa.out,show ({ data:=#[105,110,115,105,100,101,32] }:ByteArray)=kstr [105,110,115,105,100,101,32] from rfl,show ({ data:=#[63] }:ByteArray)=kstr [63] from rfl,show ({ data:=#[32] }:ByteArray)=kstr [32] from rfl,kstr_app,kstr_app,kstr_app,kstr_app]
   rfl
  have b0:=H.out.b0 (by omega);have b1:=H.out.b1 (by omega)
  have cw:=fun W=>letM b0 b1 W
  have hz2:(kstr (inF c.b)).size≤1:=by rw [kstr_size];exact Nat.le_refl _
  rw [hk] at d0;obtain ⟨sb,Hsb⟩:=nm (kstr (inF c.b));rw [Hsb.out] at cw hz2 HE;clear HF Hres;have cw1:=cw W1
  go_wp2_with fail
  go_ret;exact ⟨by rw [←HE.out];rfl,HU1.out.alloc _⟩
 ·
  have HE:Hid (((({ data:=#[117,110,108,105,107,101,32] }:ByteArray)++kstr (inF c.a))++({ data:=#[32] }:ByteArray))++kstr (inF c.b)=kstr res):=by
   show _=_
   rw [HF.out,hk,show ({ data:=#[117,110,108,105,107,101,32] }:ByteArray)=kstr [117,110,108,105,107,101,32] from rfl,show ({ data:=#[32] }:ByteArray)=kstr [32] from rfl,kstr_app,kstr_app,kstr_app]
   rfl
  have b0:=H.out.b0 (by omega);have b1:=H.out.b1 (by omega)
  have cu:=fun W=>letM a0 a1 W
  have cw:=fun W=>letM b0 b1 W
  have hz2:(kstr (inF c.b)).size≤1:=by rw [kstr_size];exact Nat.le_refl _
  have hz3:(kstr (inF c.a)).size≤1:=by rw [kstr_size];exact Nat.le_refl _
  rw [hk] at d0;obtain ⟨sb,Hsb⟩:=nm (kstr (inF c.b));rw [Hsb.out] at cw hz2 HE;obtain ⟨si,Hsi⟩:=nm (kstr (inF c.a));rw [Hsi.out] at cu hz3 HE;clear HF Hres;have cu1:=cu W1;have cw1:=cw (W1.alloc (.cells #[.int .u8 (107+c.a - 1)] 5))
  have hs:(W1.alloc (.cells #[.int .u8 (107+c.a - 1)] 5)).heap.size=W1.heap.size+1:=by simp
  rw [hs] at cw1;have e2:=cell_upd d2 (Upd.refl.alloc (S:=Non) (.cells #[.int .u8 (107+c.a - 1)] 5)) (fun f=>f)
  go_wp2_with fail
  go_ret;exact ⟨by rw [←HE.out];rfl,(HU1.out.alloc _).alloc _⟩
def BBlk (w:World) (g:Nat) (bs:List Bool):Prop:=Blk w g 4 (bs.map Value.bool).toArray
theorem BBlk.cell {w:World} {g:Nat} {bs:List Bool} (h:BBlk w g bs) {i:Nat} (hi:i<bs.length):w.cell? ⟨g,i,none⟩=some (.bool (bs.getD i false)):=by
 rw [Blk.cell h];simp [List.getD,hi]
theorem BBlk.set_ {w:World} {g:Nat} {bs:List Bool} (h:BBlk w g bs) (i:Nat) (x:Bool):BBlk (w.setCell ⟨g,i,none⟩ (.bool x)) g (bs.set i x):=by
 have:=Blk.set_ h i (.bool x);unfold BBlk;rw [show ((bs.set i x).map Value.bool).toArray=(bs.map Value.bool).toArray.setIfInBounds i (.bool x) by simp [List.map_set]];exact this
theorem BBlk.new (w:World) (n:Nat):BBlk (w.alloc (.cells (Array.replicate n (.bool false)) 4)) w.heap.size (List.replicate n false):=by
 unfold BBlk;rw [show ((List.replicate n false).map Value.bool).toArray=Array.replicate n (.bool false) by simp];exact Blk.new _ _ _
def mk1 (x:Int) (bs:List Bool):List Bool:=if 0<x∧x<(bs.length:Int) then bs.set x.toNat true else bs
theorem mk1_len (x:Int) (bs:List Bool):(mk1 x bs).length=bs.length:=by
 unfold mk1;split <;> simp
theorem markV_node (p:Pt) (bs:List Bool):markV (nodes p) bs=markV (nodesL p.kids) (mk1 p.v bs):=by rw [nodes_eq];rfl
theorem markI_node (p:Pt) (bs:List Bool):markI (nodes p) bs=markI (nodesL p.kids) (mk1 p.iv bs):=by rw [nodes_eq];rfl
theorem markV_len (l:List Pt):∀bs:List Bool,(markV l bs).length=bs.length:=by
 induction l with
 | nil=>intro bs;rfl
 | cons p l ih=>intro bs;show (markV l (mk1 p.v bs)).length=_;rw [ih,mk1_len]
theorem markI_len (l:List Pt):∀bs:List Bool,(markI l bs).length=bs.length:=by
 induction l with
 | nil=>intro bs;rfl
 | cons p l ih=>intro bs;show (markI l (mk1 p.iv bs)).length=_;rw [ih,mk1_len]
theorem markV_app (a b:List Pt) (bs:List Bool):markV (a++b) bs=markV b (markV a bs):=by unfold markV;rw [List.foldl_append]
theorem markI_app (a b:List Pt) (bs:List Bool):markI (a++b) bs=markI b (markI a bs):=by unfold markI;rw [List.foldl_append]
set_option maxRecDepth 100000 in
set_option maxHeartbeats 4000000 in
theorem r15occurring_c (p:Pt):∀(w:World) (F:Nat→Prop) (KA:Option Addr) (kc gv c gi d:Nat) (bs cs:List Bool),PtK w F p KA kc→¬F gv→¬F gi→gv≠gi→BBlk w gv bs→BBlk w gi cs→p.size≤1000000000000 →
  Calls Tryz.prog 53 #[pv p KA kc,.slice (some ⟨gv,0,none⟩) bs.length c,.slice (some ⟨gi,0,none⟩) cs.length d] w fun e w'=>e=.returned (.tuple #[])∧BBlk w' gv (markV (nodes p) bs)∧BBlk w' gi (markI (nodes p) cs)∧Upd (fun k=>k=gv∨k=gi) w w':=by
 induction p using Pt.ind with
 | h p ih =>
  intro w F KA kc gv c gi d bs cs hp hFv hFi hne hgv hgi hs;have HI:=Lib.hid ih;obtain ⟨W,HW⟩:=nm (w.alloc (.cells #[.int .i64 p.v,.int .i64 p.op,.int .i64 p.imm,.int .i64 p.iv,.slice KA p.kids.length kc] 40))
  have hU:Upd Non w W:=by rw [←HW.out];exact Upd.refl.alloc _
  have hb:Blk W w.heap.size 40 #[.int .i64 p.v,.int .i64 p.op,.int .i64 p.imm,.int .i64 p.iv,.slice KA p.kids.length kc]:=by rw [←HW.out];exact Blk.new _ _ _
  have e0:=HW.out;have hvlt:gv<w.heap.size:=Blk.lt hgv;have hilt:gi<w.heap.size:=Blk.lt hgi;have hgv:BBlk W gv bs:=Blk.upd hgv hU (fun f=>f);have hgi:BBlk W gi cs:=Blk.upd hgi hU (fun f=>f);have hp:=PtK.upd hU (fun _ _ _ f=>f) p KA kc hp;have HZ:=Lib.hid (fun (k:Pt) (h:k∈p.kids)=>Nat.le_trans (Nat.le_of_lt (Pt.kids_lt h)) hs)
  have hkl:p.kids.length≤1000000000000:=by have h1:=Pt.len_le p.kids;have h2:=Pt.size_eq p;omega
  rw [markV_node,markI_node];have c0:=hb.cell 0;have h2U:Upd (fun k=>k=gv∨k=gi) w W:=hU.mono (fun _ _ f=>f.elim);unfold pv;obtain ⟨v,Hv⟩:=nm p.v;obtain ⟨op,Hop⟩:=nm p.op;obtain ⟨imm,Him⟩:=nm p.imm;obtain ⟨iv,Hiv⟩:=nm p.iv;obtain ⟨k,Hk⟩:=nm p.kids.length;rw [Hv.out] at c0 e0 hb;rw [Hop.out] at e0 hb;rw [Him.out] at e0 hb;rw [Hiv.out] at e0 hb
  rw [Hk.out] at e0 hb hkl;rw [Hv.out,Hop.out,Him.out,Hiv.out,Hk.out];obtain ⟨vn,Hvn⟩:=nm bs.length;obtain ⟨mn,Hmn⟩:=nm cs.length;rw [Hvn.out,Hmn.out];have hLV:=mk1_len v bs;have hLI:=mk1_len iv cs;obtain ⟨bs1,Hbs1⟩:=nm (mk1 v bs);obtain ⟨cs1,Hcs1⟩:=nm (mk1 iv cs);rw [Hvn.out,Hbs1.out] at hLV;rw [Hmn.out,Hcs1.out] at hLI;have HLV:=Lib.hid hLV;have HLI:=Lib.hid hLI
  rw [Hbs1.out,Hcs1.out];clear ih hs hLV hLI;go_enter Tryz.func53,Tryz.ntmps53;obtain ⟨b1,f1⟩:∃b,decide (0<v)=b:=⟨_,rfl⟩;obtain ⟨b2,f2⟩:∃b,decide (v<(vn:Int))=b:=⟨_,rfl⟩;have F1:=Lib.hid f1;have F2:=Lib.hid f2
  go_upto_region 1 with fail
  go_cut [16] (fun t wx=>t=.bool (b1&&b2)∧wx=W)
  case first =>
   cases b1 with
   | false=>go_wp2_with fail;go_meet;exact ⟨rfl,rfl⟩
   | true=>cases b2 <;> (go_wp2_with fail;go_meet;exact ⟨rfl,rfl⟩)
  case rest =>
   obtain ⟨rfl,ew⟩:=hcut;obtain rfl:W=_:=ew.symm;clear f1 f2
   go_upto_if 16 with fail
   go_cut [] (fun wx=>BBlk wx gv bs1∧Upd (·=gv) W wx)
   case first =>
    cases hT:(b1&&b2) with
    | true =>
     have hb1:b1=true:=by revert hT;cases b1 <;> simp
     have hb2:b2=true:=by revert hT;cases b2 <;> simp
     have h1:0<v:=of_decide_eq_true (by rw [F1.out,hb1]);have h2:v<(vn:Int):=of_decide_eq_true (by rw [F2.out,hb2]);obtain ⟨j,rfl⟩:∃j:Nat,v=(j:Int):=Int.eq_ofNat_of_zero_le (by omega)
     have hj:j<bs.length:=by rw [Hvn.out];omega
     have hz:=BBlk.cell hgv hj;have hfr:=Blk.frozen hgv
     have hE:bs.set j true=bs1:=by rw [←Hbs1.out];unfold mk1;rw [if_pos ⟨h1,by rw [Hvn.out];exact h2⟩];rfl
     obtain ⟨W2,HW2⟩:=nm (W.setCell ⟨gv,j,none⟩ (.bool true))
     have hgv2:BBlk W2 gv bs1:=by rw [←HW2.out,←hE];exact BBlk.set_ hgv j true
     have u2:Upd (·=gv) W W2:=by rw [←HW2.out];exact updCell _ _ _ _
     have e2:=HW2.out;have HE:=Lib.hid hgv2
     have hj2:j<vn:=by omega
     have hT2:=Lib.hid hT;clear hE hgv2 hgv hb1 hb2 hT h1 h2
     go_wp2_with fail
     go_meet
     case rel=>exact ⟨HE.out,u2⟩
    | false =>
     have hE:bs=bs1:=by
      rw [←Hbs1.out];unfold mk1;rw [if_neg];rw [Hvn.out];rintro ⟨h1,h2⟩;have a1:=F1.out;have a2:=F2.out;rw [decide_eq_true h1] at a1;rw [decide_eq_true h2] at a2;rw [←a1,←a2] at hT
      cases hT
     have HE:=Lib.hid hE;clear hE
     go_wp2_with fail
     go_meet
     case rel=>exact ⟨by rw [←HE.out];exact hgv,Upd.refl⟩
   case rest =>
    obtain ⟨hgv1,u1⟩:=hcut;have hbc:=hb.upd u1 (by omega);have hgi1:BBlk wc gi cs:=Blk.upd hgi u1 (fun e=>hne e.symm);have hp1:=PtK.upd u1 (fun q _ hq e=>hFv (by rw [←e];exact hq)) p KA kc hp;have HU1:=h2U.trans u1 (fun q _ h=>.inl h);have hsc:=u1.size;have c0:=hbc.cell 0;have c3:=hbc.cell 3;have c4:=hbc.cell 4;obtain ⟨b3,f3⟩:∃b,decide (0<iv)=b:=⟨_,rfl⟩
    obtain ⟨b4,f4⟩:∃b,decide (iv<(mn:Int))=b:=⟨_,rfl⟩;have F3:=Lib.hid f3;have F4:=Lib.hid f4;clear hb;obtain ⟨wd,rfl⟩:∃wd:World,wd=wc:=⟨_,rfl⟩
    go_upto_region 3 with fail
    go_cut [30] (fun t wx=>t=.bool (b3&&b4)∧wx=wd)
    case first =>
     cases b3 with
     | false=>go_wp2_with fail;go_meet;exact ⟨rfl,rfl⟩
     | true=>cases b4 <;> (go_wp2_with fail;go_meet;exact ⟨rfl,rfl⟩)
    case rest =>
     obtain ⟨rfl,ew⟩:=hcut;obtain rfl:wd=_:=ew.symm;clear f3 f4
     go_upto_if 30 with fail
     go_cut [] (fun wx=>BBlk wx gi cs1∧Upd (·=gi) wd wx)
     case first =>
      cases hT:(b3&&b4) with
      | true =>
       have hb1:b3=true:=by revert hT;cases b3 <;> simp
       have hb2:b4=true:=by revert hT;cases b4 <;> simp
       have h1:0<iv:=of_decide_eq_true (by rw [F3.out,hb1]);have h2:iv<(mn:Int):=of_decide_eq_true (by rw [F4.out,hb2]);obtain ⟨j,rfl⟩:∃j:Nat,iv=(j:Int):=Int.eq_ofNat_of_zero_le (by omega)
       have hj:j<cs.length:=by rw [Hmn.out];omega
       have hz:=BBlk.cell hgi1 hj;have hfr:=Blk.frozen hgi1
       have hE:cs.set j true=cs1:=by rw [←Hcs1.out];unfold mk1;rw [if_pos ⟨h1,by rw [Hmn.out];exact h2⟩];rfl
       obtain ⟨W2,HW2⟩:=nm (wd.setCell ⟨gi,j,none⟩ (.bool true))
       have hgi2:BBlk W2 gi cs1:=by rw [←HW2.out,←hE];exact BBlk.set_ hgi1 j true
       have u2:Upd (·=gi) wd W2:=by rw [←HW2.out];exact updCell _ _ _ _
       have e2:=HW2.out;have HE:=Lib.hid hgi2
       have hj2:j<mn:=by omega
       have hT2:=Lib.hid hT;clear hE hgi2 hb1 hb2 hT h1 h2
       go_wp2_with fail
       go_meet
       case rel=>exact ⟨HE.out,u2⟩
      | false =>
       have hE:cs=cs1:=by
        rw [←Hcs1.out];unfold mk1;rw [if_neg];rw [Hmn.out];rintro ⟨h1,h2⟩;have a1:=F3.out;have a2:=F4.out;rw [decide_eq_true h1] at a1;rw [decide_eq_true h2] at a2;rw [←a1,←a2] at hT
        cases hT
       have HE:=Lib.hid hE;clear hE
       go_wp2_with fail
       go_meet
       case rel=>exact ⟨by rw [←HE.out];exact hgi1,Upd.refl⟩
     case rest =>
      obtain ⟨W4,rfl⟩:∃W4:World,W4=wc:=⟨_,rfl⟩;obtain ⟨hgi2,u2⟩:=hcut;have hbc2:=hbc.upd u2 (by omega);have hgv2:BBlk W4 gv bs1:=Blk.upd hgv1 u2 hne;have hp4:=PtK.upd u2 (fun q _ hq e=>hFi (by rw [←e];exact hq)) p KA kc hp1;have HU4:=HU1.trans u2 (fun q _ h=>.inr h);have hs4:=u2.size;have c4:=hbc2.cell 4;have hgi2:=Lib.hid hgi2;have hgv2:=Lib.hid hgv2
      clear hgv1 hgi1 hp1 c0 c3 hbc u1 hgv hgi
      go_wp2_with fail
      go_loopg [6] k (fun g i wr=>∃q:Nat,Hid (g=k - q)∧q≤k∧i=.int .i64 q∧Hid (BBlk wr gv (markV (nodesL (p.kids.take q)) bs1))∧Hid (BBlk wr gi (markI (nodesL (p.kids.take q)) cs1))∧Upd (fun q=>q=gv∨q=gi) W4 wr)
      case atStart=>exact ⟨0,rfl,by omega,rfl,hgv2.out,hgi2.out,Upd.refl⟩
      case round =>
       obtain ⟨q,Hg,hq,rfl,HV,HM,hu⟩:=hrel;have d4:=(hbc2.upd hu (by omega)).cell 4
       by_cases hlt:q<k
       ·
        have hql:q<p.kids.length:=by rw [Hk.out];exact hlt
        have hpr:=PtK.upd hu (fun q _ hq e=>by rcases e with rfl | rfl;exact hFv hq;exact hFi hq) p KA kc hp4;obtain ⟨b,o,rfl,hF,hbw,KB,kd,h0,h1,h2,h3,h4,h5⟩:=hpr.at_ hql;have HTK:Hid (p.kids.take (q+1)=p.kids.take q++[p.kids[q]]):=take_snoc' hql;have hmem:=List.getElem_mem hql;generalize p.kids[q]=t at *;have hts:=HZ.out t hmem
        have C1:=Lib.hid (HI.out t hmem wr F KB kd gv c gi d (markV (nodesL (p.kids.take q)) bs1) (markI (nodesL (p.kids.take q)) cs1) h5 hFv hFi hne HV.out HM.out hts)
        rw [markV_len,markI_len,HLV.out,HLI.out] at C1;unfold pv at C1
        have HV2:Hid (markV (nodes t) (markV (nodesL (p.kids.take q)) bs1)=markV (nodesL (p.kids.take (q+1))) bs1):=by show _=_;rw [HTK.out,nodesL_snoc,markV_app]
        have HM2:Hid (markI (nodes t) (markI (nodesL (p.kids.take q)) cs1)=markI (nodesL (p.kids.take (q+1))) cs1):=by show _=_;rw [HTK.out,nodesL_snoc,markI_app]
        rw [HV2.out,HM2.out] at C1;clear h5 HV HM HTK hmem
        go_wp2_with fail
        refine C1.out.mono ?_;rintro e w7 ⟨rfl,hv7,hm7,hu7⟩;have HV7:=Lib.hid hv7;have HM7:=Lib.hid hm7;have HU7:Upd (fun q=>q=gv∨q=gi) W4 w7:=hu.trans hu7 (fun _ _ h=>h);clear hv7 hm7 C1
        go_wp2_with fail
        go_roundg (k - (q+1))
        case measure=>rw [Hg.out];omega
        case rel=>exact ⟨q+1,rfl,by omega,by go_num,HV7.out,HM7.out,HU7⟩
       ·
        obtain rfl:k=q:=by omega
        have HT:Hid (p.kids.take k=p.kids):=List.take_of_length_le (by rw [Hk.out];exact Nat.le_refl _);rw [HT.out] at HV HM;have HU:=HU4.trans hu (fun _ _ h=>h)
        go_wp2_with fail
        go_end0
        exact ⟨rfl,HV.out,HM.out,HU⟩
theorem isVal_lo {ss:List Int} {n:Int} (h:¬1≤n):isValF ss n=false:=decide_eq_false (fun q=>h q.1)
theorem isVal_hi {ss:List Int} {n:Int} (h:¬n<ss.length):isValF ss n=false:=decide_eq_false (fun q=>h q.2.1)
theorem isVal_at {ss:List Int} {j:Nat} (h:1≤(j:Int)) (g:(j:Int)<ss.length):isValF ss j=(ss.getD j 0==1):=by
 unfold isValF;rw [Bool.eq_iff_iff];simp only [Int.toNat_natCast,decide_eq_true_eq,beq_iff_eq];exact ⟨fun q=>q.2.2,fun q=>⟨h,g,q⟩⟩
set_option maxRecDepth 100000 in
set_option maxHeartbeats 4000000 in
theorem r15validCond_c (x:Cd) (ss:List Int) (m:Int) (A:Option Addr) (c:Nat) (F:Nat→Prop) (w:World) (hs:Ints w F A ss) :
  Calls Tryz.prog 54 #[.agg #[.int .i64 x.kind,.int .i64 x.a,.int .i64 x.b,.int .i64 x.n],.slice A ss.length c,.int .i64 m] w fun e w'=>e=.returned (.bool (condF x ss m))∧Upd Non w w':=by
 obtain ⟨k,a,b,n⟩:=x;dsimp only;obtain ⟨W,HW⟩:=nm (w.alloc (.cells #[.int .i64 k,.int .i64 a,.int .i64 b,.int .i64 n] 69))
 have U:Upd Non w W:=by rw [←HW.out];exact Upd.refl.alloc _
 have b1:Blk W w.heap.size 69 #[.int .i64 k,.int .i64 a,.int .i64 b,.int .i64 n]:=by rw [←HW.out];exact Blk.new _ _ _
 have e1:=HW.out;have hs:=hs.upd U (fun _ _ _ f=>f);have c0:=b1.cell 0;have c1:=b1.cell 1;have c2:=b1.cell 2;have c3:=b1.cell 3;have HVL:=Lib.hid (fun (i:Int)=>@isVal_lo ss i);have HVH:=Lib.hid (fun (i:Int)=>@isVal_hi ss i);have HVA:=Lib.hid (fun (j:Nat)=>@isVal_at ss j);obtain ⟨l,Hl⟩:=nm ss.length;obtain ⟨R,HR⟩:=nm (condF ⟨k,a,b,n⟩ ss m)
 rw [HR.out,Hl.out];have HR1:Hid (R=condF ⟨k,a,b,n⟩ ss m):=HR.out.symm;unfold condF at HR1;dsimp only at HR1;obtain ⟨va,Hva⟩:=nm (isValF ss a);obtain ⟨vb,Hvb⟩:=nm (isValF ss b);rw [Hva.out,Hvb.out] at HR1;clear b1 HR;obtain ⟨tb,ftb⟩:∃t,(b==0)=t:=⟨_,rfl⟩;obtain ⟨tn,ftn⟩:∃t,(n==0)=t:=⟨_,rfl⟩;obtain ⟨tab,ftab⟩:∃t,(b != a)=t:=⟨_,rfl⟩
 obtain ⟨tab2,ftab2⟩:∃t,(a != b)=t:=⟨_,rfl⟩;obtain ⟨b1,fb1⟩:∃t,decide (1≤b)=t:=⟨_,rfl⟩;obtain ⟨bm,fbm⟩:∃t,decide (b≤m)=t:=⟨_,rfl⟩;obtain ⟨a1,fa1⟩:∃t,decide (1≤a)=t:=⟨_,rfl⟩;obtain ⟨am,fam⟩:∃t,decide (a≤m)=t:=⟨_,rfl⟩;obtain ⟨bl,fbl⟩:∃t,decide (b<(l:Int))=t:=⟨_,rfl⟩;obtain ⟨al,fal⟩:∃t,decide (a<(l:Int))=t:=⟨_,rfl⟩
 have gtb:decide (b=0)=tb:=by rw [←ftb,Bool.eq_iff_iff];simp
 have gtn:decide (n=0)=tn:=by rw [←ftn,Bool.eq_iff_iff];simp
 have gtab:decide (a≠b)=tab2:=by rw [←ftab2,Bool.eq_iff_iff];simp
 have gtab2:tab2=tab:=by rw [←ftab,←ftab2,Bool.eq_iff_iff];simp;exact ⟨fun h q=>h q.symm,fun h q=>h q.symm⟩
 have gia:isImmF m a=(a1&&am):=by unfold isImmF;rw [←fa1,←fam,Bool.eq_iff_iff];simp
 have gib:isImmF m b=(b1&&bm):=by unfold isImmF;rw [←fb1,←fbm,Bool.eq_iff_iff];simp
 rw [gtb,gtn,gtab,gtab2,gia,gib] at HR1;rw [gtab2] at ftab2;have FA1:=Lib.hid fa1;have FAL:=Lib.hid fal;have FB1:=Lib.hid fb1;have FBL:=Lib.hid fbl;clear gtb gtn gtab gia gib gtab2;go_enter Tryz.func54,Tryz.ntmps54
 go_upto_region 1 with fail
 go_cut [7] (fun t wx=>t=.bool va∧W=wx)
 case first =>
  cases a1 with
  | false =>
   have hv:va=false:=by rw [←Hva.out];exact HVL.out a (of_decide_eq_false FA1.out)
   subst hv
   go_wp2_with fail
   go_meet;exact ⟨rfl,rfl⟩
  | true =>
   cases al with
   | false =>
    have hv:va=false:=by rw [←Hva.out];exact HVH.out a (by rw [Hl.out];exact of_decide_eq_false FAL.out)
    subst hv
    go_wp2_with fail
    go_meet;exact ⟨rfl,rfl⟩
   | true =>
    obtain ⟨j,rfl⟩:∃j:Nat,a=(j:Int):=Int.eq_ofNat_of_zero_le (by have:=of_decide_eq_true FA1.out;omega);have hj:(j:Int)<l:=of_decide_eq_true FAL.out
    have hj0:(0:Int)≤j:=by omega
    have hv:va=(ss.getD j 0==1):=by rw [←Hva.out];exact HVA.out j (of_decide_eq_true FA1.out) (by rw [Hl.out];exact hj)
    obtain ⟨blk,off,rfl,_,_,z⟩:=Sl.at_ (k:=j) hs (by simp [Hl.out];omega)
    rw [show ((ss.map fun (x:Int)=>Value.int .i64 x))[j]'(by simp [Hl.out];omega)=.int .i64 (ss.getD j 0) by simp [List.getD,show j<ss.length by rw [Hl.out];omega]] at z
    obtain ⟨y,Hy⟩:=nm (ss.getD j 0);rw [Hy.out] at z hv;have fv:(y==1)=va:=hv.symm;clear hv
    go_wp2_with fail
    go_meet;exact ⟨rfl,rfl⟩
 case rest =>
  obtain ⟨rfl,ew⟩:=hcut;obtain rfl:W=_:=ew
  by_cases h1:k=1
  ·
   subst h1
   have HE0:Hid (R=(va&&(tb&&tn))):=by show _=_;rw [HR1.out,if_pos rfl,Bool.and_assoc]
   cases va with
   | false =>
    have HE:Hid (R=false):=by show _=_;rw [HE0.out];simp
    go_wp2_with fail
    go_ret;exact ⟨by rw [HE.out];rfl,U⟩
   | true =>
    have HE0:Hid (R=(tb&&tn)):=by show _=_;rw [HE0.out];simp
    cases tb with
    | false =>
     have HE:Hid (R=false):=by show _=_;rw [HE0.out];simp
     go_wp2_with fail
     go_ret;exact ⟨by rw [HE.out];rfl,U⟩
    | true =>
     have HE0:Hid (R=(tn)):=by show _=_;rw [HE0.out];simp
     have HE:Hid (R=tn):=HE0.out
     go_wp2_with fail
     go_ret;exact ⟨by rw [HE.out];rfl,U⟩
  ·
   by_cases h2:k=2∨k=3
   ·
    have HE0:Hid (R=(va&&tb)):=by have:=HR1.out;rw [if_neg h1,if_pos h2] at this;exact this
    rcases h2 with rfl | rfl
    ·
     cases va with
     | false =>
      have HE:Hid (R=false):=by show _=_;rw [HE0.out];simp
      go_wp2_with fail
      go_ret;exact ⟨by rw [HE.out];rfl,U⟩
     | true =>
      have HE0:Hid (R=(tb)):=by show _=_;rw [HE0.out];simp
      have HE:Hid (R=tb):=HE0.out
      go_wp2_with fail
      go_ret;exact ⟨by rw [HE.out];rfl,U⟩
    ·
     cases va with
     | false =>
      have HE:Hid (R=false):=by show _=_;rw [HE0.out];simp
      go_wp2_with fail
      go_ret;exact ⟨by rw [HE.out];rfl,U⟩
     | true =>
      have HE0:Hid (R=(tb)):=by show _=_;rw [HE0.out];simp
      have HE:Hid (R=tb):=HE0.out
      go_wp2_with fail
      go_ret;exact ⟨by rw [HE.out];rfl,U⟩
   ·
    have HR2:=HR1.out;rw [if_neg h1,if_neg h2] at HR2
    have t1:(k==1)=false:=by simpa using h1
    have t2:(k==2)=false:=by simp;omega
    have t3:(k==3)=false:=by simp;omega
    have HR1:=Lib.hid HR2;clear HR2 h1 h2
    by_cases h4:k=4
    ·
     subst h4
     have HE0:Hid (R=(va&&(vb&&(tab&&tn)))):=by show _=_;rw [HR1.out,if_pos rfl];simp [Bool.and_assoc]
     cases va with
     | false =>
      have HE:Hid (R=false):=by show _=_;rw [HE0.out];simp
      go_wp2_with fail
      go_ret;exact ⟨by rw [HE.out];rfl,U⟩
     | true =>
      have HE0:Hid (R=(vb&&(tab&&tn))):=by show _=_;rw [HE0.out];simp
      cases b1 with
      | false =>
       have hv:vb=false:=by rw [←Hvb.out];exact HVL.out b (of_decide_eq_false FB1.out)
       have HE:Hid (R=false):=by show _=_;rw [HE0.out,hv];simp
       clear hv
       go_wp2_with fail
       go_ret;exact ⟨by rw [HE.out];rfl,U⟩
      | true =>
       cases bl with
       | false =>
        have hv:vb=false:=by rw [←Hvb.out];exact HVH.out b (by rw [Hl.out];exact of_decide_eq_false FBL.out)
        have HE:Hid (R=false):=by show _=_;rw [HE0.out,hv];simp
        clear hv
        go_wp2_with fail
        go_ret;exact ⟨by rw [HE.out];rfl,U⟩
       | true =>
        obtain ⟨j,rfl⟩:∃j:Nat,b=(j:Int):=Int.eq_ofNat_of_zero_le (by have:=of_decide_eq_true FB1.out;omega);have hj:(j:Int)<l:=of_decide_eq_true FBL.out
        have hj0:(0:Int)≤j:=by omega
        have hv:vb=(ss.getD j 0==1):=by rw [←Hvb.out];exact HVA.out j (of_decide_eq_true FB1.out) (by rw [Hl.out];exact hj)
        obtain ⟨blk,off,rfl,_,_,z⟩:=Sl.at_ (k:=j) hs (by simp [Hl.out];omega)
        rw [show ((ss.map fun (x:Int)=>Value.int .i64 x))[j]'(by simp [Hl.out];omega)=.int .i64 (ss.getD j 0) by simp [List.getD,show j<ss.length by rw [Hl.out];omega]] at z
        obtain ⟨y,Hy⟩:=nm (ss.getD j 0);rw [Hy.out] at z hv;have fv:(y==1)=vb:=hv.symm;clear hv
        cases vb with
        | false =>
         have HE:Hid (R=false):=by show _=_;rw [HE0.out];simp
         go_wp2_with fail
         go_ret;exact ⟨by rw [HE.out];rfl,U⟩
        | true =>
         have HE0:Hid (R=(tab&&tn)):=by show _=_;rw [HE0.out];simp
         cases tab with
         | false =>
          have HE:Hid (R=false):=by show _=_;rw [HE0.out];simp
          go_wp2_with fail
          go_ret;exact ⟨by rw [HE.out];rfl,U⟩
         | true =>
          have HE0:Hid (R=(tn)):=by show _=_;rw [HE0.out];simp
          have HE:Hid (R=tn):=HE0.out
          go_wp2_with fail
          go_ret;exact ⟨by rw [HE.out];rfl,U⟩
    ·
     have t4:(k==4)=false:=by simpa using h4
     have HR2:=HR1.out;rw [if_neg h4] at HR2;have HR1:=Lib.hid HR2;clear HR2 h4
     by_cases h5:k=5
     ·
      subst h5
      have HE0:Hid (R=(va&&(b1&&(bm&&tn)))):=by show _=_;rw [HR1.out,if_pos rfl];simp [Bool.and_assoc]
      cases va with
      | false =>
       have HE:Hid (R=false):=by show _=_;rw [HE0.out];simp
       go_wp2_with fail
       go_ret;exact ⟨by rw [HE.out];rfl,U⟩
      | true =>
       have HE0:Hid (R=(b1&&(bm&&tn))):=by show _=_;rw [HE0.out];simp
       cases b1 with
       | false =>
        have HE:Hid (R=false):=by show _=_;rw [HE0.out];simp
        go_wp2_with fail
        go_ret;exact ⟨by rw [HE.out];rfl,U⟩
       | true =>
        have HE0:Hid (R=(bm&&tn)):=by show _=_;rw [HE0.out];simp
        cases bm with
        | false =>
         have HE:Hid (R=false):=by show _=_;rw [HE0.out];simp
         go_wp2_with fail
         go_ret;exact ⟨by rw [HE.out];rfl,U⟩
        | true =>
         have HE0:Hid (R=(tn)):=by show _=_;rw [HE0.out];simp
         have HE:Hid (R=tn):=HE0.out
         go_wp2_with fail
         go_ret;exact ⟨by rw [HE.out];rfl,U⟩
     ·
      have t5:(k==5)=false:=by simpa using h5
      have HR2:=HR1.out;rw [if_neg h5] at HR2;have HR1:=Lib.hid HR2;clear HR2 h5
      by_cases h6:k=6
      ·
       subst h6
       have HE0:Hid (R=(a1&&(am&&(b1&&(bm&&(tab&&tn)))))):=by show _=_;rw [HR1.out,if_pos rfl];simp [Bool.and_assoc]
       cases a1 with
       | false =>
        have HE:Hid (R=false):=by show _=_;rw [HE0.out];simp
        go_wp2_with fail
        go_ret;exact ⟨by rw [HE.out];rfl,U⟩
       | true =>
        have HE0:Hid (R=(am&&(b1&&(bm&&(tab&&tn))))):=by show _=_;rw [HE0.out];simp
        cases am with
        | false =>
         have HE:Hid (R=false):=by show _=_;rw [HE0.out];simp
         go_wp2_with fail
         go_ret;exact ⟨by rw [HE.out];rfl,U⟩
        | true =>
         have HE0:Hid (R=(b1&&(bm&&(tab&&tn)))):=by show _=_;rw [HE0.out];simp
         cases b1 with
         | false =>
          have HE:Hid (R=false):=by show _=_;rw [HE0.out];simp
          go_wp2_with fail
          go_ret;exact ⟨by rw [HE.out];rfl,U⟩
         | true =>
          have HE0:Hid (R=(bm&&(tab&&tn))):=by show _=_;rw [HE0.out];simp
          cases bm with
          | false =>
           have HE:Hid (R=false):=by show _=_;rw [HE0.out];simp
           go_wp2_with fail
           go_ret;exact ⟨by rw [HE.out];rfl,U⟩
          | true =>
           have HE0:Hid (R=(tab&&tn)):=by show _=_;rw [HE0.out];simp
           cases tab with
           | false =>
            have HE:Hid (R=false):=by show _=_;rw [HE0.out];simp
            go_wp2_with fail
            go_ret;exact ⟨by rw [HE.out];rfl,U⟩
           | true =>
            have HE0:Hid (R=(tn)):=by show _=_;rw [HE0.out];simp
            have HE:Hid (R=tn):=HE0.out
            go_wp2_with fail
            go_ret;exact ⟨by rw [HE.out];rfl,U⟩
      ·
       have t6:(k==6)=false:=by simpa using h6
       have HE:Hid (R=false):=by show _=_;rw [HR1.out,if_neg h6]
       clear h6
       go_wp2_with fail
       go_ret;exact ⟨by rw [HE.out];rfl,U⟩
set_option maxHeartbeats 1000000 in
theorem r15Size_c (p:Pt):∀(w:World) (F:Nat→Prop) (KA:Option Addr) (kc:Nat),PtK w F p KA kc→p.size≤1000000000000 →
  Calls Tryz.prog 50 #[pv p KA kc] w fun e w'=>e=.returned (.int .i64 (p.size:Int))∧Upd Non w w':=by
 induction p using Pt.ind with
 | h p ih =>
  intro w F KA kc hp hs;have hse:=Pt.size_eq p;have hle:=Pt.len_le p.kids;have HI:=Lib.hid ih;obtain ⟨W,HW⟩:=nm (w.alloc (.cells #[.int .i64 p.v,.int .i64 p.op,.int .i64 p.imm,.int .i64 p.iv,.slice KA p.kids.length kc] 40))
  have hU:Upd Non w W:=by rw [←HW.out];exact Upd.refl.alloc _
  have hb:Blk W w.heap.size 40 #[.int .i64 p.v,.int .i64 p.op,.int .i64 p.imm,.int .i64 p.iv,.slice KA p.kids.length kc]:=by rw [←HW.out];exact Blk.new _ _ _
  have e0:=HW.out;have c4:=hb.cell 4;have hpW:=PtK.upd hU (fun _ _ _ f=>f) p KA kc hp;have HS:=Lib.hid hse;unfold pv;clear ih hse hp;obtain ⟨n,Hn⟩:=nm p.kids.length;rw [Hn.out] at c4 hle e0
  have hn12:n≤1000000000000:=by have:=HS.out;omega
  rw [Hn.out];go_enter Tryz.func50,Tryz.ntmps50
  go_wp2_with fail
  go_loopg [3,4] n (fun g v i wr=>∃k:Nat,Hid (g=n - k)∧k≤n∧i=.int .i64 k∧v=.int .i64 ((1+Pt.sizeL (p.kids.take k):Nat):Int)∧Upd Non W wr)
  case atStart=>exact ⟨0,rfl,by omega,rfl,by simp [Pt.sizeL],Upd.refl⟩
  case round =>
   obtain ⟨k,Hg,hk,rfl,rfl,hu⟩:=hrel;have c4':=cell_upd c4 hu (fun f=>f)
   by_cases hlt:k<n
   ·
    have hkl:k<p.kids.length:=by rw [Hn.out];exact hlt
    obtain ⟨b,o,rfl,hF,hbw,KB,kd,h0,h1,h2,h3,h4,h5⟩:=(PtK.upd hu (fun _ _ _ f=>f) p KA kc hpW).at_ hkl
    have hks:p.kids[k].size≤1000000000000:=by have:=Pt.kids_lt (List.getElem_mem hkl);omega
    have hkk:=Pt.sizeL_take p.kids k hkl;have hkt:=Pt.sizeL_take_le p.kids (k+1);have hmem0:=List.getElem_mem hkl;generalize p.kids[k]=q at *;have C1:=Lib.hid (HI.out q hmem0 wr F KB kd h5 hks);unfold pv at C1;obtain ⟨z,Hz⟩:=nm (1+Pt.sizeL (p.kids.take k))
    have hz1:1+Pt.sizeL (p.kids.take (k+1))=z+q.size:=by rw [←Hz.out];omega
    have HZ:=Lib.hid hz1
    have hz2:z+q.size≤2000000000000:=by have:=HS.out;omega
    rw [Hz.out];clear hkk hkt hz1 h5
    go_wp2_with fail
    refine C1.out.mono ?_;rintro e w4 ⟨rfl,hu4⟩
    go_wp2_with fail
    go_roundg (n - (k+1))
    case measure=>rw [Hg.out];omega
    case rel=>exact ⟨k+1,rfl,by omega,by go_num,by rw [HZ.out];go_num,hu.then_non hu4⟩
   ·
    obtain rfl:n=k:=by omega
    have HT:Hid (1+Pt.sizeL (p.kids.take n)=p.size):=by show _=_;rw [HS.out,←Hn.out];simp
    rw [HT.out]
    go_wp2_with fail
    go_ret;exact ⟨rfl,hU.then_non hu⟩
set_option maxRecDepth 100000 in
set_option maxHeartbeats 8000000 in
theorem r15fits_c (p:Pt):∀(w:World) (F:Nat→Prop) (KA:Option Addr) (kc g c:Nat) (s m:Int) (vs:List Int),PtK w F p KA kc→¬F g→VBlk w g (0::vs)→p.size≤1000000000000→vs.length≤1000000→0≤m →
  Calls Tryz.prog 51 #[pv p KA kc,.int .i64 s,.slice (some ⟨g,0,none⟩) (vs.length+1) c,.int .i64 m] w fun e w'=>e=.returned (.bool (vPt p s m vs).1)∧VBlk w' g (0::(vPt p s m vs).2)∧Upd (·=g) w w':=by
 induction p using Pt.ind with
 | h p ih =>
  intro w F KA kc g c s m vs hp hFg hg hs hvs hm0;have hle:=Pt.len_le p.kids;have hse:=Pt.size_eq p;have HI:=Lib.hid ih;have HPS:=Lib.hid hs;have HV:=Lib.hid (@vPt_var p);have HO:=Lib.hid (@vPt_op p);obtain ⟨W,HW⟩:=nm (w.alloc (.cells #[.int .i64 p.v,.int .i64 p.op,.int .i64 p.imm,.int .i64 p.iv,.slice KA p.kids.length kc] 40))
  have hU:Upd Non w W:=by rw [←HW.out];exact Upd.refl.alloc _
  have hb:Blk W w.heap.size 40 #[.int .i64 p.v,.int .i64 p.op,.int .i64 p.imm,.int .i64 p.iv,.slice KA p.kids.length kc]:=by rw [←HW.out];exact Blk.new _ _ _
  have e0:=HW.out;have hgW:VBlk W g (0::vs):=Blk.upd hg hU (fun f=>f);have hpW:=PtK.upd hU (fun _ _ _ f=>f) p KA kc hp;have hUg:Upd (·=g) w W:=hU.mono (fun _ _ f=>f.elim);have hglt:g<w.heap.size:=Blk.lt hg;have hsz:=hU.size
  have hn12:p.kids.length≤1000000000000:=by omega
  unfold pv;obtain ⟨R,HR⟩:=nm (vPt p s m vs);rw [HR.out];have HIM:=Lib.hid (@imm_ok p m hm0);obtain ⟨v,Hv⟩:=nm p.v;obtain ⟨op,Hop⟩:=nm p.op;obtain ⟨imm,Him⟩:=nm p.imm;obtain ⟨iv,Hiv⟩:=nm p.iv;obtain ⟨n,Hn⟩:=nm p.kids.length;rw [Hv.out,Hop.out,Him.out,Hiv.out,Hn.out] at hb e0;rw [Hv.out,Hop.out,Him.out,Hiv.out,Hn.out];rw [Hn.out] at hn12
  rw [Hop.out,Him.out,Hiv.out] at HIM;have c0:=hb.cell 0;have c1:=hb.cell 1;have c2:=hb.cell 2;have c3:=hb.cell 3;have c4:=hb.cell 4;have hlb:=hb.lt;clear ih hp hse hle hg hs
  by_cases hv:v=0
  ·
   subst hv;obtain ⟨z,Hz⟩:∃z,oSortsF op=z:=⟨_,rfl⟩;obtain ⟨ss,own,ok⟩:=z
   have HO2:Hid (R=if ok=true∧n=ss.length∧(s=0∨s=own)∧pImmF p m=true then vKids p.kids ss m vs else (false,vs)):=by
    show _=_;rw [←HR.out,HO.out Hv.out,Hop.out,Hz,Hn.out]
   have HAO:=Lib.hid (allowed_ok op);have HAP:=Lib.hid (@allowed_parts op);have CA:=Lib.hid (fun w=>arity_c op w);have CB:=Lib.hid (fun w=>r15allowed_c op w);have CS:=Lib.hid (fun w=>pSort_c op w);have CH:=Lib.hid (fun w=>r15HasImm_c op w);have CV:=Lib.hid (fun w=>validImm_c op imm w);have COS:=Lib.hid (fun (k:Int) w=>operandSort_c op k w);rw [HAO.out] at CB
   rw [Hz] at CB HAP HIM;dsimp only at CB HAP HIM;obtain ⟨za,Hza⟩:∃z,arityF op=z:=⟨_,rfl⟩;obtain ⟨ar,aok⟩:=za;rw [Hza] at CA HAP;dsimp only at CA HAP;obtain ⟨sr,Hsr⟩:=nm (pSortF op);rw [Hsr.out] at CS HAP;obtain ⟨hi,Hhi⟩:=nm (hasImmF op);obtain ⟨vi,Hvi⟩:=nm (validImmF op imm);rw [Hhi.out] at CH;rw [Hvi.out] at CV;rw [Hhi.out,Hvi.out] at HIM;clear HV HO HR Hz Hza
   obtain ⟨bn,f1⟩:∃b,((n:Int) != ar)=b:=⟨_,rfl⟩;obtain ⟨b3,f3⟩:∃b,(s != 0)=b:=⟨_,rfl⟩;obtain ⟨bs,f4⟩:∃b,(sr != s)=b:=⟨_,rfl⟩;obtain ⟨b5,f5⟩:∃b,decide (iv<0)=b:=⟨_,rfl⟩;obtain ⟨b6,f6⟩:∃b,decide (iv > m)=b:=⟨_,rfl⟩;obtain ⟨b7,f7⟩:∃b,decide (iv > 0)=b:=⟨_,rfl⟩;obtain ⟨b8,f8⟩:∃b,(imm != 0)=b:=⟨_,rfl⟩
   obtain ⟨b9,f9⟩:∃b,(iv==0)=b:=⟨_,rfl⟩;have F1:=Lib.hid f1;have F3:=Lib.hid f3;have F4:=Lib.hid f4;have F5:=Lib.hid f5;have F6:=Lib.hid f6;have F7:=Lib.hid f7;have F8:=Lib.hid f8;have F9:=Lib.hid f9;go_enter Tryz.func51,Tryz.ntmps51
   go_wp2_with fail
   refine (CA.out W).mono ?_;rintro e w2 ⟨rfl,rfl⟩
   go_upto_region 8 with fail
   go_cut [110] (fun t wx=>t=.bool (!ok || bn || (b3&&bs) || b5 || b6)∧wx=W)
   case first =>
    cases ok with
    | false =>
     go_wp2_with fail
     refine (CB.out W).mono ?_;rintro e w2 ⟨rfl,rfl⟩
     go_wp2_with fail
     go_meet;exact ⟨rfl,rfl⟩
    | true=>cases bn with
     | true =>
      go_wp2_with fail
      refine (CB.out W).mono ?_;rintro e w2 ⟨rfl,rfl⟩
      go_wp2_with fail
      go_meet;exact ⟨rfl,rfl⟩
     | false=>cases b3 with
      | true=>cases bs with
       | true =>
        go_wp2_with fail
        refine (CB.out W).mono ?_;rintro e w2 ⟨rfl,rfl⟩
        go_wp2_with fail
        refine (CS.out W).mono ?_;rintro e w2 ⟨rfl,rfl⟩
        go_wp2_with fail
        go_meet;exact ⟨rfl,rfl⟩
       | false =>
        cases b5 <;> cases b6
        all_goals
         go_wp2_with fail
         refine (CB.out W).mono ?_;rintro e w2 ⟨rfl,rfl⟩
         go_wp2_with fail
         refine (CS.out W).mono ?_;rintro e w2 ⟨rfl,rfl⟩
         go_wp2_with fail
         go_meet;exact ⟨rfl,rfl⟩
      | false =>
       cases b5 <;> cases b6
       all_goals
        go_wp2_with fail
        refine (CB.out W).mono ?_;rintro e w2 ⟨rfl,rfl⟩
        go_wp2_with fail
        go_meet;exact ⟨by cases bs <;> rfl,rfl⟩
   case rest =>
   obtain ⟨rfl,ew⟩:=hcut;obtain rfl:W=_:=ew.symm
   have HCond:Hid ((ok=true∧n=ss.length∧(s=0∨s=own)∧pImmF p m=true)↔((!ok || bn || (b3&&bs) || b5 || b6)=false∧(b7&&(b8 || !hi) || b9&&!vi)=false)):=by
    show _↔_;rw [←F1.out,←F3.out,←F4.out,←F5.out,←F6.out,←F7.out,←F8.out,←F9.out]
    cases ok with
    | false=>simp
    | true =>
     obtain ⟨a1,a2,_⟩:=HAP.out rfl;rw [HIM.out rfl,a1,a2]
     cases hi <;> cases vi <;> simp <;> omega
   cases hT:(!ok || bn || (b3&&bs) || b5 || b6) with
   | true =>
    have HR2:Hid (R=(false,vs)):=by show _=_;rw [HO2.out,if_neg (fun q=>by rw [(HCond.out.1 q).1] at hT;cases hT)]
    clear HO2 hT
    go_wp2_with fail
    go_ret;exact ⟨by rw [HR2.out];rfl,by rw [HR2.out];exact hgW,hUg⟩
   | false =>
    have HT:=Lib.hid hT;clear hT
    go_upto_region 10 with fail
    go_cut [137] (fun t wx=>t=.bool (b7&&(b8 || !hi) || b9&&!vi)∧wx=W)
    case first =>
     cases b7 with
     | true =>
      have b9f:b9=false:=by rw [←F9.out,beq_eq_false_iff_ne];have:=of_decide_eq_true F7.out;omega
      subst b9f
      cases b8 with
      | true =>
       go_wp2_with fail
       go_meet;exact ⟨rfl,rfl⟩
      | false =>
       cases hi
       all_goals
        go_wp2_with fail
        refine (CH.out W).mono ?_;rintro e w2 ⟨rfl,rfl⟩
        go_wp2_with fail
        go_meet;exact ⟨rfl,rfl⟩
     | false=>cases b9 with
      | true =>
       go_wp2_with fail
       refine (CV.out W).mono ?_;rintro e w2 ⟨rfl,rfl⟩
       go_wp2_with fail
       go_meet;exact ⟨by cases vi <;> rfl,rfl⟩
      | false =>
       go_wp2_with fail
       go_meet;exact ⟨rfl,rfl⟩
    case rest =>
    obtain ⟨rfl,ew⟩:=hcut;obtain rfl:W=_:=ew.symm
    cases hT2:(b7&&(b8 || !hi) || b9&&!vi) with
    | true =>
     have HR2:Hid (R=(false,vs)):=by show _=_;rw [HO2.out,if_neg (fun q=>by rw [(HCond.out.1 q).2] at hT2;cases hT2)]
     clear HO2 hT2
     go_wp2_with fail
     go_ret;exact ⟨by rw [HR2.out];rfl,by rw [HR2.out];exact hgW,hUg⟩
    | false =>
     have HCd:=Lib.hid (HCond.out.2 ⟨HT.out,hT2⟩)
     have HR2:Hid (R=vKids (p.kids.drop 0) (ss.drop 0) m vs):=by show _=_;rw [HO2.out,if_pos HCd.out];simp
     have HNS:Hid (n=ss.length):=HCd.out.2.1;have HST:=Lib.hid (fun k (hk:k<p.kids.length) vk=>@vKids_step p.kids ss m vk k hk (by rw [Hn.out];exact HNS.out));have HVL:=Lib.hid (fun (q:Pt) (s m:Int) vs=>vPt_len q s m vs);have HSO:Hid (∀k (hk:k<ss.length),operandSortF op k=ss[k]):=(HAP.out HCd.out.1).2.2
     clear HO2 hT2 HCond f1 f3 f4 f5 f6 f7 f8 f9 CA CB CS CH CV
     go_wp2_with fail
     go_loopg [11] n (fun gg i wr=>∃(k:Nat) (vk:List Int),Hid (gg=n - k)∧k≤n∧i=.int .i64 k∧VBlk wr g (0::vk)∧vk.length=vs.length∧Hid (R=vKids (p.kids.drop k) (ss.drop k) m vk)∧Upd (·=g) W wr)
     case atStart=>exact ⟨0,vs,rfl,by omega,rfl,hgW,rfl,HR2,Upd.refl⟩
     case round =>
      obtain ⟨k,vk,Hg,hk,rfl,hgk,hvk,HRk,hu⟩:=hrel;have c4r:wr.cell? ⟨w.heap.size,4,none⟩=some (.slice KA n kc):=cell_upd c4 hu (by omega);have c1r:wr.cell? ⟨w.heap.size,1,none⟩=some (.int .i64 op):=cell_upd c1 hu (by omega)
      by_cases hlt:k<n
      ·
       have hkl:k<p.kids.length:=by rw [Hn.out];exact hlt
       have hks:k<ss.length:=by have:=HNS.out;omega
       obtain ⟨b,o,rfl,hF,hbw,KB,kd,h0,h1,h2,h3,h4,h5⟩:=(PtK.upd hu (fun k _ hF e=>hFg (by rw [←e];exact hF)) p KA kc hpW).at_ hkl;have hmem0:=List.getElem_mem hkl;have hqs:=Pt.kids_lt hmem0;have HRs:=HST.out k hkl vk;have hps:p.size≤1000000000000:=HPS.out;have hos:=HSO.out k hks
       have hbg:b≠g:=fun e=>hFg (by rw [←e];exact hF)
       rw [HRs] at HRk;clear HRs;generalize p.kids[k]=q at *;generalize ss[k]=x at *
       have i0:(0:Int)≤(k:Int):=by omega
       have i1:(k:Int)<(n:Int):=by omega
       have hg4:VBlk wr.drew g (0::vk):=hgk
       have C1:=Lib.hid (HI.out q hmem0 wr.drew F KB kd g c x m vk (PtK.upd (Upd.refl.drew (S:=Non)) (fun _ _ _ f=>f) q KB kd h5) hFg hg4 (by omega) (by omega) hm0)
       unfold pv at C1;rw [hvk] at C1;have HV1:=Lib.hid (HVL.out q x m vk);obtain ⟨r,Hr⟩:=nm (vPt q x m vk);obtain ⟨rb,rv⟩:=r;rw [Hr.out] at C1 HRk HV1
       have hrv:rv.length=vs.length:=by rw [←hvk];exact HV1.out
       have COk:=Lib.hid (fun w=>COS.out (k:Int) w);rw [hos] at COk;clear h5 hps hqs
       have hS:∀w',Upd (·=g) wr w'→w'.cell? ⟨w.heap.size,4,none⟩=some (.slice (some ⟨b,o,none⟩) n kc)∧w'.cell? ⟨w.heap.size,1,none⟩=some (.int .i64 op)∧w'.cell? ⟨b,o+k * 5,none⟩=some (.int .i64 q.v)∧w'.cell? ⟨b,o+k * 5+1,none⟩=some (.int .i64 q.op)∧w'.cell? ⟨b,o+k * 5+2,none⟩=some (.int .i64 q.imm)∧w'.cell? ⟨b,o+k * 5+3,none⟩=some (.int .i64 q.iv)∧w'.cell? ⟨b,o+k * 5+4,none⟩=some (.slice KB q.kids.length kd):=fun w' u=>⟨cell_upd c4r u (by omega),cell_upd c1r u (by omega),cell_upd h0 u hbg,cell_upd h1 u hbg,cell_upd h2 u hbg,cell_upd h3 u hbg,cell_upd h4 u hbg⟩
       obtain ⟨w4,e4⟩:∃w4:World,w4=wr:=⟨_,rfl⟩;subst e4
       go_wp2_with fail
       refine wp_region_held_drew (S:=fun w'=>w'.cell? ⟨w.heap.size,4,none⟩=some (.slice (some ⟨b,o,none⟩) n kc)∧w'.cell? ⟨w.heap.size,1,none⟩=some (.int .i64 op)∧w'.cell? ⟨b,o+k * 5,none⟩=some (.int .i64 q.v)∧w'.cell? ⟨b,o+k * 5+1,none⟩=some (.int .i64 q.op)∧w'.cell? ⟨b,o+k * 5+2,none⟩=some (.int .i64 q.imm)∧w'.cell? ⟨b,o+k * 5+3,none⟩=some (.int .i64 q.iv)∧w'.cell? ⟨b,o+k * 5+4,none⟩=some (.slice KB q.kids.length kd)) (by kernel_rfl) (hS _ (Upd.refl (S:=(·=g))).drew) (fun hHeld=>?_)
       refine wpT 0 ?_
       try simp only [put_y,put_z]
       refine wpT 1 ?_
       try simp only [put_y,put_z]
       refine wpT 2 ?_
       try simp only [put_y,put_z]
       refine wpT 3 ?_
       try simp only [put_y,put_z]
       refine wpT 4 ?_
       try simp only [put_y,put_z]
       refine wpT 5 ?_
       try simp only [put_y,put_z]
       refine wpT 6 ?_
       try simp only [put_y,put_z]
       refine wpT 7 ?_
       try simp only [put_y,put_z]
       refine wpAnyH_takeC (i:=8) (v:=?v1) rfl (by kernel_rfl) (by kernel_rfl) (by kernel_rfl) (fun _ _ _ h=>h) ⟨by rfl,?f1,?a1,?r1,?c1⟩ (by assumption) ?m1
       case r1=>intro w;go_simp;constructor <;> with_reducible rfl
       case c1=>intro W hSw;refine (COk.out W).mono ?_;rintro e w' ⟨rfl,rfl⟩;constructor <;> with_reducible rfl
       try simp only [put_y,put_z]
       refine wpT 9 ?_
       try simp only [put_y,put_z]
       refine wpT 10 ?_
       try simp only [put_y,put_z]
       refine wpAnyH_ready (rs:=[11]) (by kernel_rfl) (by simp) ?_;refine AllReadyH.cons rfl (fun K hK=>?_) AllReadyH.nil;go_simp;refine C1.out.mono ?_;rintro e w5 ⟨rfl,hg5,hu5'⟩;have hu5:Upd (·=g) w4 w5:=(Upd.refl.drew (S:=(·=g))).trans hu5' (fun _ _ q=>q)
       go_wp2_with fail
       refine hK.out _ _ ?_ (fun hHeld=>?_)
       ·
        exact hS _ hu5
       clear hK K
       try simp only [put_y,put_z]
       refine wpT 12 ?_
       try simp only [put_y,put_z]
       refine wpAnyH_done (by kernel_rfl) ?_ _
       cases rb with
       | true =>
        have HRn:Hid (R=vKids (p.kids.drop (k+1)) (ss.drop (k+1)) m rv):=by show _=_;rw [HRk.out];rfl
        clear C1 hS
        go_wp2_with fail
        go_roundg (n - (k+1))
        case measure=>rw [Hg.out];omega
        case rel=>exact ⟨k+1,rv,rfl,by omega,by go_num,hg5,hrv,HRn,hu.trans hu5 (fun _ _ q=>q)⟩
       | false =>
        have HRn:Hid (R=(false,rv)):=by show _=_;rw [HRk.out];rfl
        clear C1 hS
        go_wp2_with fail
        go_ret;exact ⟨by rw [HRn.out];rfl,by rw [HRn.out];exact hg5,(hUg.trans hu (fun _ _ q=>q)).trans hu5 (fun _ _ q=>q)⟩
      ·
       obtain rfl:n=k:=by omega
       have HRz:Hid (R=(true,vk)):=by
        show _=_;rw [HRk.out,List.drop_eq_nil_of_le (by rw [Hn.out];exact Nat.le_refl _)];rfl
       go_wp2_with fail
       go_ret;exact ⟨by rw [HRz.out];rfl,by rw [HRz.out];exact hgk,hUg.trans hu (fun _ _ q=>q)⟩
  ·
   have t0:(v != 0)=true:=by simpa using hv
   have HV2:Hid (R=if v<1∨v > vs.length∨op≠0∨imm≠0∨iv≠0∨0<n then (false,vs) else if vs.getD (v - 1).toNat 0=0 then (true,vs.set (v - 1).toNat s) else (decide (s=0∨s=vs.getD (v - 1).toNat 0),vs)):=by
    show _=_;rw [←HR.out,HV.out (by rw [Hv.out];exact hv),Hv.out,Hop.out,Him.out,Hiv.out,Hn.out]
   clear HV HO HI HIM
   by_cases hbad:v<1∨v > vs.length∨op≠0∨imm≠0∨iv≠0∨0<n
   ·
    have HRv:Hid (R=(false,vs)):=by show _=_;rw [HV2.out,if_pos hbad]
    rw [HRv.out];have Hbad:=Lib.hid hbad;obtain ⟨b1,f1⟩:∃b,decide (v<1)=b:=⟨_,rfl⟩;obtain ⟨b2,f2⟩:∃b,decide (v ≥ (vs.length:Int)+1)=b:=⟨_,rfl⟩;obtain ⟨b3,f3⟩:∃b,(op != 0)=b:=⟨_,rfl⟩;obtain ⟨b4,f4⟩:∃b,(imm != 0)=b:=⟨_,rfl⟩;obtain ⟨b5,f5⟩:∃b,(iv != 0)=b:=⟨_,rfl⟩;obtain ⟨b6,f6⟩:∃b,((n:Int) != 0)=b:=⟨_,rfl⟩
    have HB:Hid ((b1 || b2 || b3 || b4 || b5 || b6)=true):=by
     show _=_;rw [←f1,←f2,←f3,←f4,←f5,←f6];simp;omega
    clear hbad
    cases b1 with
    | true =>
     go_enter Tryz.func51,Tryz.ntmps51
     go_wp2_with fail
     go_ret;exact ⟨rfl,hgW,hUg⟩
    | false=>cases b2 with
     | true =>
      go_enter Tryz.func51,Tryz.ntmps51
      go_wp2_with fail
      go_ret;exact ⟨rfl,hgW,hUg⟩
     | false=>cases b3 with
      | true =>
       go_enter Tryz.func51,Tryz.ntmps51
       go_wp2_with fail
       go_ret;exact ⟨rfl,hgW,hUg⟩
      | false=>cases b4 with
       | true =>
        go_enter Tryz.func51,Tryz.ntmps51
        go_wp2_with fail
        go_ret;exact ⟨rfl,hgW,hUg⟩
       | false=>cases b5 with
        | true =>
         go_enter Tryz.func51,Tryz.ntmps51
         go_wp2_with fail
         go_ret;exact ⟨rfl,hgW,hUg⟩
        | false=>cases b6 with
         | true =>
          have hn0:n≠0:=by intro q;subst q;simp at f6
          have hn1:(n==0)=false:=by simpa using hn0
          go_enter Tryz.func51,Tryz.ntmps51
          go_wp2_with fail
          go_ret;exact ⟨rfl,hgW,hUg⟩
         | false=>exact absurd HB.out (by simp)
   ·
    rw [if_neg hbad] at HV2;obtain ⟨i,hi⟩:=Int.eq_ofNat_of_zero_le (show 0≤v - 1 by omega)
    have hil:i<vs.length:=by omega
    obtain rfl:op=0:=by omega
    obtain rfl:imm=0:=by omega
    obtain rfl:iv=0:=by omega
    obtain rfl:n=0:=by omega
    rw [hi,Int.toNat_natCast] at HV2;obtain ⟨j,Hj⟩:=nm (i+1);have hj1:=Hj.out
    obtain rfl:v=(j:Int):=by omega
    have t1:decide ((j:Int)<1)=false:=decide_eq_false (by omega);have t2:decide ((j:Int) ≥ (vs.length:Int)+1)=false:=decide_eq_false (by omega)
    have cg:W.cell? ⟨g,j,none⟩=some (.int .i64 (vs.getD i 0)):=by have:=VBlk.cell hgW (i:=i+1) (by simpa using hil);rw [hj1] at this;rw [this,←hj1];simp
    have fg:=Blk.frozen hgW j
    have i0:(0:Int)≤(j:Int):=by omega
    have i1:(j:Int)<(vs.length:Int)+1:=by omega
    have hset:VBlk (W.setCell ⟨g,j,none⟩ (.int .i64 s)) g (0::vs.set i s):=by have:=VBlk.set_ hgW (i+1) s;rw [hj1] at this;rw [show (0::vs.set i s)=(0::vs).set j s by rw [←hj1];rfl];exact this
    have uset:=updCell W g j (.int .i64 s);clear hj1 hi;clear hbad HR Hv Hop Him Hiv Hn hpW
    by_cases hs0:s=0
    ·
     subst hs0
     have HV3:Hid (R=(true,vs)):=by
      show _=_;rw [HV2.out]
      by_cases hy:vs.getD i 0=0
      ·
       rw [if_pos hy]
       have : vs.set i 0=vs:=by
        apply List.ext_getElem (by simp);intro j h1 h2;rw [List.getElem_set]
        split
        ·
         rename_i e;subst e;rw [getD_of hil] at hy;exact hy.symm
        ·
         rfl
       rw [this]
      ·
       rw [if_neg hy];simp
     rw [HV3.out];clear HV2 HV3;go_enter Tryz.func51,Tryz.ntmps51
     go_wp2_with fail
     go_ret;exact ⟨rfl,hgW,hUg⟩
    ·
     have ts:(s != 0)=true:=by simpa using hs0
     have ts2:(s==0)=false:=by simpa using hs0
     obtain ⟨y,Hy⟩:=nm (vs.getD i 0);rw [Hy.out] at HV2 cg
     by_cases hy:y=0
     ·
      rw [if_pos hy] at HV2;subst hy;rw [HV2.out];clear HV2
      have tss:(s==s)=true:=by simp
      go_enter Tryz.func51,Tryz.ntmps51
      go_wp2_with fail
      go_ret;exact ⟨rfl,hset,hUg.trans uset (fun _ _ q=>q)⟩
     ·
      rw [if_neg hy] at HV2
      have ty:(y==0)=false:=by simpa using hy
      by_cases hsy:s=y
      ·
       subst hsy
       have tt:(s==s)=true:=by simp
       have HV3:Hid (R=(true,vs)):=by show _=_;rw [HV2.out];simp
       rw [HV3.out];clear HV2 HV3;go_enter Tryz.func51,Tryz.ntmps51
       go_wp2_with fail
       go_ret;exact ⟨rfl,hgW,hUg⟩
      ·
       have tt:(y==s)=false:=by simp;omega
       have HV3:Hid (R=(false,vs)):=by show _=_;rw [HV2.out];simp [hs0,hsy]
       rw [HV3.out];clear HV2 HV3;go_enter Tryz.func51,Tryz.ntmps51
       go_wp2_with fail
       go_ret;exact ⟨rfl,hgW,hUg⟩
theorem T_boolsX:SlT Tryz.prog 101 4 1 1:=by
 obtain ⟨i,h1,h2,h3,h4⟩:=info_parts (show (Tryz.prog.info? 4).map (fun i=>(i.zero,i.size,i.bytes))=some (some (.bool false),1,1) from by kernel_rfl)
 exact ⟨Tryz.underlying101,⟨i,_,h1,h2,h3,h4,rfl⟩,by omega⟩
theorem zero_boolX:(Tryz.prog.info? 4).bind (·.zero)=some (.bool false):=by kernel_rfl
theorem VBlk.new0 (w:World) (n:Nat):VBlk (w.alloc (.cells (Array.replicate (n+1) (.int .i64 0)) 3)) w.heap.size (0::List.replicate n 0):=by
 unfold VBlk;rw [show (icells (0::List.replicate n 0)).toArray=Array.replicate (n+1) (Value.int .i64 0) by rw [←List.replicate_succ];simp [icells]];exact Blk.new _ _ _
set_option maxRecDepth 100000 in
set_option maxHeartbeats 4000000 in
theorem validRule_c (r:Rl) (a:RlA) (F:Nat→Prop) (w:World) (hk:RlK w F r a) (hz:RlSz r) :
  Calls Tryz.prog 23 #[rlv r a] w fun e w'=>e=.returned (.bool (refF r))∧Upd Non w w':=by
 obtain ⟨W,HW⟩:=nm (w.alloc (.cells (rlCells r a) 43))
 have hU:Upd Non w W:=by rw [←HW.out];exact Upd.refl.alloc _
 have hb:Blk W w.heap.size 43 (rlCells r a):=by rw [←HW.out];exact Blk.new _ _ _
 have hsz:W.heap.size=w.heap.size+1:=by rw [←HW.out];simp
 have e0:=HW.out;have hK:=(hk.mono (G:=fun k=>k<w.heap.size) (fun _ h _=>h)).upd hU (fun _ _ _ f=>f);have HC:=Lib.hid (fun (w':World) (u:Upd Non W w')=>rl_cells (hb.upd u (fun f=>f)));obtain ⟨c0,c1,c2,c3,c4,c5,c6,c7,c8,c9,c10,c11,c12,c13⟩:=HC.out W Upd.refl;have CN:=Lib.hid (fun w'=>r15validName_c r.name w' hz.n)
 have CSL:=Lib.hid (fun (w':World) (u:Upd Non W w')=>r15Size_c r.l w' _ a.la a.lc (PtK.upd u (fun _ _ _ f=>f) _ _ _ hK.l) hz.l);have CSR:=Lib.hid (fun (w':World) (u:Upd Non W w')=>r15Size_c r.r w' _ a.ra a.rc (PtK.upd u (fun _ _ _ f=>f) _ _ _ hK.r) hz.r);have HZ:=Lib.hid hz;have HK:=Lib.hid hK;unfold pv at CSL CSR;unfold rlv;unfold rlCells at e0 ⊢
 obtain ⟨R,HR⟩:=nm (refF r);rw [HR.out];have HR1:Hid (R=refF r):=HR.out.symm;unfold refF at HR1;clear hk hz hK HR hb;obtain ⟨vn,Hvn⟩:=nm (nameF r.name);rw [Hvn.out] at CN HR1;obtain ⟨b1,f1⟩:∃b,decide (r.vars<0)=b:=⟨_,rfl⟩;obtain ⟨b2,f2⟩:∃b,decide (6<r.vars)=b:=⟨_,rfl⟩;obtain ⟨b3,f3⟩:∃b,decide (r.imms<0)=b:=⟨_,rfl⟩
 obtain ⟨b4,f4⟩:∃b,decide (6<r.imms)=b:=⟨_,rfl⟩;obtain ⟨b6,f6⟩:∃b,decide ((6:Int)<(r.conds.length:Int))=b:=⟨_,rfl⟩;have F1:=Lib.hid f1;have F2:=Lib.hid f2;have F3:=Lib.hid f3;have F4:=Lib.hid f4;have F6:=Lib.hid f6;go_enter Tryz.func23,Tryz.ntmps23
 go_upto_region 1 with fail
 go_cut [38] (fun t wx=>t=.bool (b1 || b2 || b3 || b4 || !vn || b6)∧Upd Non W wx)
 case first =>
  cases b1 with
  | true=>go_wp2_with fail;go_meet;exact ⟨rfl,Upd.refl⟩
  | false=>cases b2 with
   | true=>go_wp2_with fail;go_meet;exact ⟨rfl,Upd.refl⟩
   | false=>cases b3 with
    | true=>go_wp2_with fail;go_meet;exact ⟨rfl,Upd.refl⟩
    | false=>cases b4 with
     | true=>go_wp2_with fail;go_meet;exact ⟨rfl,Upd.refl⟩
     | false =>
      go_wp2_with fail
      refine (CN.out _).mono ?_;rintro e w3 ⟨rfl,q3,rfl⟩;have u3:Upd Non W (W.drewN q3):=Upd.refl.drewN _
      cases vn with
      | false=>go_wp2_with fail;go_meet;exact ⟨rfl,u3⟩
      | true=>go_wp2_with fail;go_meet;exact ⟨by cases b6 <;> rfl,u3⟩
 case rest =>
 obtain ⟨w1,rfl⟩:∃w1:World,w1=wc:=⟨_,rfl⟩;obtain ⟨rfl,u1⟩:=hcut;clear c0 c1 c2 c3 c4 c5 c6 c7 c8 c9 c10 c11 c12 c13;obtain ⟨c0,c1,c2,c3,c4,c5,c6,c7,c8,c9,c10,c11,c12,c13⟩:=HC.out _ u1;clear f1 f2 f3 f4 f6
 cases hT:(b1 || b2 || b3 || b4 || !vn || b6) with
 | true =>
  have HF:Hid (R=false):=by
   show _=_;rw [HR1.out];rw [show (decide (0≤r.vars∧r.vars≤6∧0≤r.imms∧r.imms≤6)&&vn&&decide (r.conds.length≤6))=false from ?_]
   ·
    simp
   ·
    rw [Bool.eq_false_iff];intro q;simp only [Bool.and_eq_true,decide_eq_true_eq] at q;obtain ⟨⟨⟨q1,q2,q3,q4⟩,q5⟩,q6⟩:=q;rw [←F1.out,←F2.out,←F3.out,←F4.out,←F6.out,q5] at hT;simp at hT;omega
  have HU:=hU.then_non u1;clear hT
  go_wp2_with fail
  go_ret;exact ⟨by rw [HF.out];rfl,HU⟩
 | false =>
  obtain ⟨hv,h6,hvn⟩:(0≤r.vars∧r.vars≤6∧0≤r.imms∧r.imms≤6)∧r.conds.length≤6∧vn=true:=by
   rw [←F1.out,←F2.out,←F3.out,←F4.out,←F6.out] at hT;simp only [Bool.or_eq_false_iff,decide_eq_false_iff_not,Bool.not_eq_false'] at hT;obtain ⟨⟨⟨⟨⟨q1,q2⟩,q3⟩,q4⟩,q5⟩,q6⟩:=hT;exact ⟨by omega,by omega,q5⟩
  subst hvn;rw [decide_eq_true hv,decide_eq_true h6] at HR1;have H6:=Lib.hid h6;have HT:=Lib.hid hT;clear h6 hT CN F1 F2 F3 F4 F6;obtain ⟨n,Hn⟩:∃n:Nat,Hid (r.vars=(n:Int)):=Int.eq_ofNat_of_zero_le hv.1;obtain ⟨m,Hm⟩:∃m:Nat,Hid (r.imms=(m:Int)):=Int.eq_ofNat_of_zero_le hv.2.2.1
  have hn6:n≤6:=by have:=Hn.out;omega
  have hm6:m≤6:=by have:=Hm.out;omega
  have HVN:Hid (r.vars.toNat=n):=by show _=_;rw [Hn.out];rfl
  rw [HVN.out,Hm.out] at HR1;rw [show ((m:Int)).toNat=m from rfl] at HR1;clear hv;obtain ⟨d0,g0⟩:∃b,(r.l.v != 0)=b:=⟨_,rfl⟩;obtain ⟨d1,g1⟩:∃b,decide ((24:Int)<(r.l.size:Int))=b:=⟨_,rfl⟩;obtain ⟨d2,g2⟩:∃b,decide ((24:Int)<(r.r.size:Int))=b:=⟨_,rfl⟩;have G0:=Lib.hid g0;have G1:=Lib.hid g1;have G2:=Lib.hid g2
  go_upto_region 3 with fail
  go_cut [54] (fun t wx=>t=.bool (d0 || d1 || d2)∧Upd Non W wx)
  case first =>
   cases d0 with
   | true=>go_wp2_with fail;go_meet;exact ⟨rfl,u1⟩
   | false =>
    go_wp2_with fail
    refine (CSL.out _ u1).mono ?_;rintro e w2 ⟨rfl,u2⟩;have U2:=u1.then_non u2;obtain ⟨c0,c1,c2,c3,c4,c5,c6,c7,c8,c9,c10,c11,c12,c13⟩:=HC.out _ U2
    cases d1 with
    | true=>go_wp2_with fail;go_meet;exact ⟨rfl,U2⟩
    | false =>
     go_wp2_with fail
     refine (CSR.out _ U2).mono ?_;rintro e w3 ⟨rfl,u3⟩
     go_wp2_with fail
     go_meet;exact ⟨by cases d2 <;> rfl,U2.then_non u3⟩
  case rest =>
  obtain ⟨w2,rfl⟩:∃w2:World,w2=wc:=⟨_,rfl⟩;obtain ⟨rfl,u2⟩:=hcut;clear c0 c1 c2 c3 c4 c5 c6 c7 c8 c9 c10 c11 c12 c13 u1 g0 g1 g2;obtain ⟨c0,c1,c2,c3,c4,c5,c6,c7,c8,c9,c10,c11,c12,c13⟩:=HC.out _ u2
  cases hT:(d0 || d1 || d2) with
  | true =>
   have HF:Hid (R=false):=by
    show _=_;rw [HR1.out,decide_eq_false]
    ·
     simp
    ·
     rintro ⟨q1,q2,q3⟩;rw [←G0.out,←G1.out,←G2.out,q1] at hT;simp at hT;omega
   have HU:=hU.then_non u2;clear hT
   go_wp2_with fail
   go_ret;exact ⟨by rw [HF.out];rfl,HU⟩
  | false =>
   have hq:r.l.v=0∧r.l.size≤24∧r.r.size≤24:=by
    rw [←G0.out,←G1.out,←G2.out] at hT;simp only [Bool.or_eq_false_iff,decide_eq_false_iff_not,bne_eq_false_iff_eq] at hT;obtain ⟨⟨q1,q2⟩,q3⟩:=hT;exact ⟨q1,by omega,by omega⟩
   rw [decide_eq_true hq] at HR1;have HT2:=Lib.hid hT;clear hT hq CSL CSR G0 G1 G2
   have hmkN:=fun w=>run_mk (P:=Tryz.prog) T_ints' zero_int_ rfl (n+1) (by omega) (by omega) w
   rw [show ((n+1:Nat):Int)=(n:Int)+1 by omega] at hmkN
   have hmkB:=fun w=>run_mk (P:=Tryz.prog) T_boolsX zero_boolX rfl (n+1) (by omega) (by omega) w
   rw [show ((n+1:Nat):Int)=(n:Int)+1 by omega] at hmkB
   have hmkC:=fun w=>run_mk (P:=Tryz.prog) T_boolsX zero_boolX rfl (m+1) (by omega) (by omega) w
   rw [show ((m+1:Nat):Int)=(m:Int)+1 by omega] at hmkC;rw [Hn.out] at c12;rw [Hm.out] at c13;have HSZ:Hid (r.l.size≤1000000000000∧r.r.size≤1000000000000):=⟨HZ.out.l,HZ.out.r⟩;obtain ⟨w3,Hw3⟩:=nm (w2.alloc (.cells (Array.replicate (n+1) (.int .i64 0)) 3));have ew3:=Hw3.out
   have uA:Upd Non w2 w3:=by rw [←ew3];exact Upd.refl.alloc _
   have hgA:VBlk w3 w2.heap.size (0::List.replicate n 0):=by rw [←ew3];exact VBlk.new0 _ _
   have u3:=u2.then_non uA;have hs2:=u2.size
   have hsA:w3.heap.size=w2.heap.size+1:=by rw [←ew3];simp
   clear c0 c1 c2 c3 c4 c5 c6 c7 c8 c9 c10 c11
   go_wp2_with fail
   obtain ⟨wD,HwD⟩:=nm w3.drew
   have uD:Upd Non w3 wD:=by rw [←HwD.out];exact Upd.refl.drew
   have vD:=u3.then_non uD
   have HS:∀w',Upd Non W w'→(w'.cell? ⟨w.heap.size,1,none⟩=some (.int .i64 r.l.v)∧w'.cell? ⟨w.heap.size,2,none⟩=some (.int .i64 r.l.op)∧w'.cell? ⟨w.heap.size,3,none⟩=some (.int .i64 r.l.imm)∧w'.cell? ⟨w.heap.size,4,none⟩=some (.int .i64 r.l.iv)∧w'.cell? ⟨w.heap.size,5,none⟩=some (.slice a.la r.l.kids.length a.lc)∧w'.cell? ⟨w.heap.size,6,none⟩=some (.int .i64 r.r.v)∧w'.cell? ⟨w.heap.size,7,none⟩=some (.int .i64 r.r.op)∧w'.cell? ⟨w.heap.size,8,none⟩=some (.int .i64 r.r.imm)∧w'.cell? ⟨w.heap.size,9,none⟩=some (.int .i64 r.r.iv)∧w'.cell? ⟨w.heap.size,10,none⟩=some (.slice a.ra r.r.kids.length a.rc)∧w'.cell? ⟨w.heap.size,13,none⟩=some (.int .i64 m)):=fun w' u=>by
    obtain ⟨c0,c1,c2,c3,c4,c5,c6,c7,c8,c9,c10,c11,c12,c13⟩:=HC.out w' u;rw [Hm.out] at c13;exact ⟨c1,c2,c3,c4,c5,c6,c7,c8,c9,c10,c13⟩
   have HS:=Lib.hid HS
   have hFg:¬(fun k=>k<w.heap.size) w2.heap.size:=by show ¬w2.heap.size<w.heap.size;omega
   have C2:=Lib.hid (r15fits_c r.l wD _ a.la a.lc w2.heap.size (n+1) 0 m (List.replicate n 0) (PtK.upd vD (fun _ _ _ f=>f) _ _ _ HK.out.l) hFg (Blk.upd hgA uD (fun f=>f)) HSZ.out.1 (by simp;omega) (by omega))
   rw [List.length_replicate] at C2
   have hl1:(vPt r.l 0 m (List.replicate n 0)).2.length=n:=by rw [vPt_len,List.length_replicate]
   obtain ⟨p1,Hp1⟩:=nm (vPt r.l 0 m (List.replicate n 0)).1;obtain ⟨v1,Hv1⟩:=nm (vPt r.l 0 m (List.replicate n 0)).2;rw [Hp1.out,Hv1.out] at C2 HR1;rw [Hv1.out] at hl1;have HL1:=Lib.hid hl1;unfold pv at C2;clear hl1 hgA
   go_wp2_with fail
   refine wp_region_held_drew (S:=fun w'=>w'.cell? ⟨w.heap.size,1,none⟩=some (.int .i64 r.l.v)∧w'.cell? ⟨w.heap.size,2,none⟩=some (.int .i64 r.l.op)∧w'.cell? ⟨w.heap.size,3,none⟩=some (.int .i64 r.l.imm)∧w'.cell? ⟨w.heap.size,4,none⟩=some (.int .i64 r.l.iv)∧w'.cell? ⟨w.heap.size,5,none⟩=some (.slice a.la r.l.kids.length a.lc)∧w'.cell? ⟨w.heap.size,6,none⟩=some (.int .i64 r.r.v)∧w'.cell? ⟨w.heap.size,7,none⟩=some (.int .i64 r.r.op)∧w'.cell? ⟨w.heap.size,8,none⟩=some (.int .i64 r.r.imm)∧w'.cell? ⟨w.heap.size,9,none⟩=some (.int .i64 r.r.iv)∧w'.cell? ⟨w.heap.size,10,none⟩=some (.slice a.ra r.r.kids.length a.rc)∧w'.cell? ⟨w.heap.size,13,none⟩=some (.int .i64 m)) (by kernel_rfl) (by rw [HwD.out];exact HS.out _ vD) (fun hHeld=>?_)
   rw [HwD.out] at hHeld ⊢;refine wpT 0 ?_
   try simp only [put_y,put_z]
   refine wpT 1 ?_
   try simp only [put_y,put_z]
   refine wpT 2 ?_
   try simp only [put_y,put_z]
   refine wpT 3 ?_
   try simp only [put_y,put_z]
   refine wpT 4 ?_
   try simp only [put_y,put_z]
   refine wpAnyH_ready (rs:=[5]) (by kernel_rfl) (by simp) ?_;refine AllReadyH.cons rfl (fun K hK=>?_) AllReadyH.nil;go_simp;refine C2.out.mono ?_;rintro e w5 ⟨rfl,hg5,u5⟩;have U5:Upd Non W w5:=vD.trans u5 (fun i hi h=>by omega);have HG5:=Lib.hid hg5;clear hg5 C2
   go_wp2_with fail
   refine hK.out _ _ ?_ (fun hHeld=>?_)
   ·
    exact HS.out _ U5
   clear hK K
   try simp only [put_y,put_z]
   cases p1 with
   | false =>
    refine wpT 6 ?_
    try simp only [put_y,put_z]
    refine wpT 7 ?_
    try simp only [put_y,put_z]
    refine wpU 8 ?_
    try simp only [put_y,put_z]
    refine wpU 9 ?_
    try simp only [put_y,put_z]
    refine wpU 10 ?_
    try simp only [put_y,put_z]
    refine wpU 11 ?_
    try simp only [put_y,put_z]
    refine wpU 12 ?_
    try simp only [put_y,put_z]
    refine wpU 13 ?_
    try simp only [put_y,put_z]
    refine wpU 14 ?_
    try simp only [put_y,put_z]
    refine wpU 15 ?_
    try simp only [put_y,put_z]
    refine wpU 16 ?_
    try simp only [put_y,put_z]
    refine wpU 17 ?_
    try simp only [put_y,put_z]
    refine wpU 18 ?_
    try simp only [put_y,put_z]
    refine wpT 19 ?_
    try simp only [put_y,put_z]
    refine wpAnyH_done (by kernel_rfl) ?_ _
    have HF:Hid (R=false):=by show _=_;rw [HR1.out];simp
    have HU:=hU.then_non U5
    go_wp2_with fail
    go_ret;exact ⟨by rw [HF.out];rfl,HU⟩
   | true =>
    have C3:=Lib.hid (fun (w':World) (u:Upd Non w5 w')=>r15fits_c r.r w' _ a.ra a.rc w2.heap.size (n+1) (pSortF r.l.op) m v1 (PtK.upd (U5.then_non u) (fun _ _ _ f=>f) _ _ _ HK.out.r) hFg (Blk.upd HG5.out u (fun f=>f)) HSZ.out.2 (by rw [HL1.out];omega) (by omega))
    rw [HL1.out] at C3;have CP:=Lib.hid (fun (w':World)=>pSort_c r.l.op w');obtain ⟨so,Hso⟩:=nm (pSortF r.l.op);rw [Hso.out] at C3 HR1 CP
    have hl2:(vPt r.r so m v1).2.length=n:=by rw [vPt_len,HL1.out]
    obtain ⟨p2,Hp2⟩:=nm (vPt r.r so m v1).1;obtain ⟨v2,Hv2⟩:=nm (vPt r.r so m v1).2;rw [Hp2.out,Hv2.out] at C3 HR1;rw [Hv2.out] at hl2;have HL2:=Lib.hid hl2;unfold pv at C3;clear hl2;refine wpT 6 ?_
    try simp only [put_y,put_z]
    refine wpT 7 ?_
    try simp only [put_y,put_z]
    refine wpT 8 ?_
    try simp only [put_y,put_z]
    refine wpT 9 ?_
    try simp only [put_y,put_z]
    refine wpT 10 ?_
    try simp only [put_y,put_z]
    refine wpT 11 ?_
    try simp only [put_y,put_z]
    refine wpT 12 ?_
    try simp only [put_y,put_z]
    refine wpAnyH_takeC (i:=13) (v:=?v1) rfl (by kernel_rfl) (by kernel_rfl) (by kernel_rfl) (fun _ _ _ h=>h) ⟨by rfl,?f1,?a1,?r1,?c1⟩ (by assumption) ?m1
    case r1=>intro w;go_simp;constructor <;> with_reducible rfl
    case c1=>intro W hSw;refine (CP.out W).mono ?_;rintro e w' ⟨rfl,rfl⟩;constructor <;> with_reducible rfl
    try simp only [put_y,put_z]
    refine wpT 14 ?_
    try simp only [put_y,put_z]
    refine wpT 15 ?_
    try simp only [put_y,put_z]
    refine wpT 16 ?_
    try simp only [put_y,put_z]
    refine wpAnyH_ready (rs:=[17]) (by kernel_rfl) (by simp) ?_;refine AllReadyH.cons rfl (fun K hK=>?_) AllReadyH.nil;go_simp;refine (C3.out _ Upd.refl).mono ?_;rintro e w7 ⟨rfl,hg7,u7⟩;have U7:Upd Non W w7:=U5.trans u7 (fun i hi h=>by omega);have HG7:=Lib.hid hg7;clear hg7 C3
    go_wp2_with fail
    refine hK.out _ _ ?_ (fun hHeld=>?_)
    ·
     exact HS.out _ U7
    clear hK K
    try simp only [put_y,put_z]
    refine wpT 18 ?_
    try simp only [put_y,put_z]
    refine wpT 19 ?_
    try simp only [put_y,put_z]
    refine wpAnyH_done (by kernel_rfl) ?_ _
    cases p2 with
    | false =>
     have HF:Hid (R=false):=by show _=_;rw [HR1.out];simp
     have HU:=hU.then_non U7
     go_wp2_with fail
     go_ret;exact ⟨by rw [HF.out];rfl,HU⟩
    | true =>
     obtain ⟨x1,Hx1⟩:=nm (((markV (nodes r.l) (List.replicate (n+1) false)).drop 1).all id);obtain ⟨x2,Hx2⟩:=nm (((markI (nodes r.l) (List.replicate (m+1) false)).drop 1).all id);obtain ⟨x3,Hx3⟩:=nm (r.conds.all fun c=>condF c (0::v2) (m:Int));rw [Hx1.out,Hx2.out,Hx3.out] at HR1
     have HR2:Hid (R=(x1&&(x2&&x3))):=by show _=_;rw [HR1.out];simp [Bool.and_assoc]
     have HVL1:Hid ((markV (nodes r.l) (List.replicate (n+1) false)).length=n+1):=by show _=_;rw [Go.Proofs.YtblkgjdhaibhgaaGreat.markV_len,List.length_replicate]
     have HIL1:Hid ((markI (nodes r.l) (List.replicate (m+1) false)).length=m+1):=by show _=_;rw [Go.Proofs.YtblkgjdhaibhgaaGreat.markI_len,List.length_replicate]
     have HB1:Hid (x1=true↔∀i:Nat,1≤i→i≤n→(markV (nodes r.l) (List.replicate (n+1) false)).getD i false=true):=by
      show _↔_;rw [←Hx1.out,all_drop (d:=false) HVL1.out];rfl
     have HB2:Hid (x2=true↔∀i:Nat,1≤i→i≤m→(markI (nodes r.l) (List.replicate (m+1) false)).getD i false=true):=by
      show _↔_;rw [←Hx2.out,all_drop (d:=false) HIL1.out];rfl
     obtain ⟨w8,Hw8⟩:=nm (w7.alloc (.cells (Array.replicate (n+1) (.bool false)) 4));have ew8:=Hw8.out
     have u8:Upd Non w7 w8:=by rw [←ew8];exact Upd.refl.alloc _
     have hgp:BBlk w8 w7.heap.size (List.replicate (n+1) false):=by rw [←ew8];exact BBlk.new _ _
     have hs8:w8.heap.size=w7.heap.size+1:=by rw [←ew8];simp
     obtain ⟨w9,Hw9⟩:=nm (w8.alloc (.cells (Array.replicate (m+1) (.bool false)) 4));have ew9:=Hw9.out
     have u9:Upd Non w8 w9:=by rw [←ew9];exact Upd.refl.alloc _
     have hgi:BBlk w9 (w7.heap.size+1) (List.replicate (m+1) false):=by rw [←ew9,←hs8];exact BBlk.new _ _
     have hgp9:BBlk w9 w7.heap.size (List.replicate (n+1) false):=Blk.upd hgp u9 (fun f=>f);have U8:=U7.then_non u8;have U9:=U8.then_non u9;have hs7:=U7.size
     have hFp:¬(fun k=>k<w.heap.size) w7.heap.size:=by show ¬w7.heap.size<w.heap.size;omega
     have hFi:¬(fun k=>k<w.heap.size) (w7.heap.size+1):=by show ¬w7.heap.size+1<w.heap.size;omega
     have C4:=Lib.hid (r15occurring_c r.l w9 _ a.la a.lc w7.heap.size (n+1) (w7.heap.size+1) (m+1) (List.replicate (n+1) false) (List.replicate (m+1) false) (PtK.upd U9 (fun _ _ _ f=>f) _ _ _ HK.out.l) hFp hFi (by omega) hgp9 hgi HSZ.out.1)
     rw [List.length_replicate,List.length_replicate] at C4;obtain ⟨V1,HV1⟩:=nm (markV (nodes r.l) (List.replicate (n+1) false));obtain ⟨I1,HI1⟩:=nm (markI (nodes r.l) (List.replicate (m+1) false));rw [HV1.out] at C4 HVL1 HB1;rw [HI1.out] at C4 HIL1 HB2;unfold pv at C4;obtain ⟨_,_,_,_,_,_,_,_,_,_,_,_,d12,_⟩:=HC.out _ U7;rw [Hn.out] at d12
     obtain ⟨_,_,_,_,_,_,_,_,_,_,_,_,_,d13⟩:=HC.out _ U8;rw [Hm.out] at d13;obtain ⟨_,f1,f2,f3,f4,f5,_,_,_,_,_,_,_,_⟩:=HC.out _ U9;clear hgp hgi hgp9 HR1 c12 c13
     go_wp2_with fail
     refine C4.out.mono ?_;rintro e wA ⟨rfl,hgp,hgi,uA⟩;have UA:Upd Non W wA:=U9.trans uA (fun i hi h=>by omega);have HU:=hU.then_non UA
     have HGA:Hid (VBlk wA w2.heap.size (0::v2)):=by
      have h1:=Blk.upd HG7.out u8 (fun f=>f);have h2:=Blk.upd h1 u9 (fun f=>f);exact Blk.upd h2 uA (by have:=Blk.lt HG7.out;omega)
     clear C4 d12 d13 f1 f2 f3 f4 f5 hmkN hmkB hmkC
     go_wp2_with fail
     go_loopg [6] n (fun g i wr=>∃k:Nat,Hid (g=n+1 - k)∧1≤k∧k≤n+1∧i=.int .i64 k∧Hid (∀j:Nat,1≤j→j<k→V1.getD j false=true)∧wA=wr)
     case atStart=>exact ⟨1,by show _=_;omega,by omega,by omega,rfl,fun j h1 h2=>by omega,rfl⟩
     case round =>
      obtain ⟨k,Hg,hk1,hk2,rfl,HA,rfl⟩:=hrel
      by_cases hlt:k<n+1
      ·
       have t3:decide ((k:Int)<(n:Int)+1)=true:=decide_eq_true (by omega)
       have hkN:(k:Int)<(n:Int)+1:=by omega
       have hk0:(0:Int)≤(k:Int):=by omega
       have z1:=BBlk.cell hgp (i:=k) (by rw [HVL1.out];omega);obtain ⟨z,Hz⟩:=nm (V1.getD k false);rw [Hz.out] at z1
       cases z with
       | false =>
        have hb:x1=false:=by
         rw [Bool.eq_false_iff];intro q;have:=HB1.out.1 q k hk1 (by omega);rw [Hz.out] at this
         cases this
        have HF:Hid (R=false):=by show _=_;rw [HR2.out,hb];simp
        clear hb
        go_wp2_with fail
        go_ret;exact ⟨by rw [HF.out];rfl,HU⟩
       | true =>
        have HA2:Hid (∀j:Nat,1≤j→j<k+1→V1.getD j false=true):=by
         intro j j1 j2
         by_cases e:j=k
         ·
          rw [e];exact Hz.out
         ·
          exact HA.out j j1 (by omega)
        go_wp2_with fail
        go_roundg (n+1 - (k+1))
        case measure=>rw [Hg.out];omega
        case rel=>exact ⟨k+1,rfl,by omega,by omega,by go_num,HA2,rfl⟩
      ·
       have t3:decide ((k:Int)<(n:Int)+1)=false:=decide_eq_false (by omega);have hb1:x1=true:=HB1.out.2 (fun i i1 i2=>HA.out i i1 (by omega));subst hb1
       have HR3:Hid (R=(x2&&x3)):=by show _=_;rw [HR2.out];rfl
       clear HA Hg hk1 hk2 hlt
       go_wp2_with fail
       go_loopg [7] m (fun g i wr=>∃k:Nat,Hid (g=m+1 - k)∧1≤k∧k≤m+1∧i=.int .i64 k∧Hid (∀j:Nat,1≤j→j<k→I1.getD j false=true)∧wA=wr)
       case atStart=>exact ⟨1,by show _=_;omega,by omega,by omega,rfl,fun j h1 h2=>by omega,rfl⟩
       case round =>
        obtain ⟨k,Hg,hk1,hk2,rfl,HA,rfl⟩:=hrel
        by_cases hlt:k<m+1
        ·
         have t3:decide ((k:Int)<(m:Int)+1)=true:=decide_eq_true (by omega)
         have hkN:(k:Int)<(m:Int)+1:=by omega
         have hk0:(0:Int)≤(k:Int):=by omega
         have z1:=BBlk.cell hgi (i:=k) (by rw [HIL1.out];omega);obtain ⟨z,Hz⟩:=nm (I1.getD k false);rw [Hz.out] at z1
         cases z with
         | false =>
          have hb:x2=false:=by
           rw [Bool.eq_false_iff];intro q;have:=HB2.out.1 q k hk1 (by omega);rw [Hz.out] at this
           cases this
          have HF:Hid (R=false):=by show _=_;rw [HR3.out,hb];simp
          clear hb
          go_wp2_with fail
          go_ret;exact ⟨by rw [HF.out];rfl,HU⟩
         | true =>
          have HA2:Hid (∀j:Nat,1≤j→j<k+1→I1.getD j false=true):=by
           intro j j1 j2
           by_cases e:j=k
           ·
            rw [e];exact Hz.out
           ·
            exact HA.out j j1 (by omega)
          go_wp2_with fail
          go_roundg (m+1 - (k+1))
          case measure=>rw [Hg.out];omega
          case rel=>exact ⟨k+1,rfl,by omega,by omega,by go_num,HA2,rfl⟩
        ·
         have t3:decide ((k:Int)<(m:Int)+1)=false:=decide_eq_false (by omega);have hb1:x2=true:=HB2.out.2 (fun i i1 i2=>HA.out i i1 (by omega));subst hb1
         have HR4:Hid (R=(x3)):=by show _=_;rw [HR3.out];rfl
         clear HA Hg hk1 hk2 hlt;obtain ⟨cn,Hcn⟩:=nm r.conds.length;have hcn:=H6.out;rw [Hcn.out] at hcn
         go_wp2_with fail
         go_loopg [8] cn (fun g i wr=>∃q:Nat,Hid (g=cn - q)∧q≤cn∧i=.int .i64 q∧Hid (∀j (h:j<r.conds.length),j<q→condF r.conds[j] (0::v2) (m:Int)=true)∧Upd Non wA wr)
         case atStart=>exact ⟨0,rfl,by omega,rfl,fun j h1 h2=>by omega,Upd.refl⟩
         case round =>
          obtain ⟨q,Hg,hq,rfl,HA,hu⟩:=hrel;have HUC:=UA.then_non hu
          by_cases hlt:q<cn
          ·
           have hql:q<r.conds.length:=by rw [Hcn.out];exact hlt
           have hcv:=HK.out.c.upd HUC (fun _ _ _ f=>f);obtain ⟨cb,co,ecA,hF,hcb,k0,k1,k2,k3⟩:=hcv.at_ hql
           have hcond:Hid (∀b,condF r.conds[q] (0::v2) (m:Int)=b→(b=false→R=false)∧(b=true→∀j (h:j<r.conds.length),j<q+1→condF r.conds[j] (0::v2) (m:Int)=true)):=by
            intro b hb;refine ⟨fun h=>?_,fun h j hj1 hj2=>?_⟩
            ·
             rw [HR4.out,←Hx3.out,Bool.eq_false_iff];intro h2;rw [List.all_eq_true] at h2;have:=h2 _ (List.getElem_mem hql);rw [hb,h] at this;cases this
            ·
             by_cases e:j=q
             ·
              subst e;rw [hb,h]
             ·
              exact HA.out j hj1 (by omega)
           generalize r.conds[q]=x at *;obtain ⟨wE,HwE⟩:=nm wr.drew
           have uE:Upd Non wr wE:=by rw [←HwE.out];exact Upd.refl.drew
           have UE:=HUC.then_non uE
           have HS3:Hid (∀w',Upd Non wr w'→(w'.cell? ⟨w.heap.size,11,none⟩=some (.slice (some ⟨cb,co,none⟩) cn a.cc)∧w'.cell? ⟨w.heap.size,13,none⟩=some (.int .i64 m)∧w'.cell? ⟨cb,co+q * 4,none⟩=some (.int .i64 x.kind)∧w'.cell? ⟨cb,co+q * 4+1,none⟩=some (.int .i64 x.a)∧w'.cell? ⟨cb,co+q * 4+2,none⟩=some (.int .i64 x.b)∧w'.cell? ⟨cb,co+q * 4+3,none⟩=some (.int .i64 x.n))):=fun w' u=>by
            obtain ⟨_,_,_,_,_,_,_,_,_,_,_,d11,_,d13⟩:=HC.out _ (HUC.then_non u);rw [ecA,Hcn.out] at d11;rw [Hm.out] at d13;exact ⟨d11,d13,cell_upd k0 u (fun f=>f),cell_upd k1 u (fun f=>f),cell_upd k2 u (fun f=>f),cell_upd k3 u (fun f=>f)⟩
           have CC:=Lib.hid (r15validCond_c x (0::v2) (m:Int) (some ⟨w2.heap.size,0,none⟩) (n+1) (fun _=>True) wE (VBlk.ints (Blk.upd (Blk.upd HGA.out hu (fun f=>f)) uE (fun f=>f))))
           rw [List.length_cons,HL2.out] at CC;obtain ⟨cr,Hcr⟩:=nm (condF x (0::v2) (m:Int));rw [Hcr.out] at CC hcond;have HCD:=Lib.hid (hcond.out cr rfl)
           have hq0:(0:Int)≤(q:Int):=by omega
           have hqn:(q:Int)<(cn:Int):=by omega
           obtain ⟨d11,d13,_⟩:=HS3.out wr Upd.refl;have t5:decide (q<cn)=true:=decide_eq_true hlt;clear hcv hcond k0 k1 k2 k3 HA
           go_wp2_with fail
           refine wp_region_held_drew (S:=fun w'=>w'.cell? ⟨w.heap.size,11,none⟩=some (.slice (some ⟨cb,co,none⟩) cn a.cc)∧w'.cell? ⟨w.heap.size,13,none⟩=some (.int .i64 m)∧w'.cell? ⟨cb,co+q * 4,none⟩=some (.int .i64 x.kind)∧w'.cell? ⟨cb,co+q * 4+1,none⟩=some (.int .i64 x.a)∧w'.cell? ⟨cb,co+q * 4+2,none⟩=some (.int .i64 x.b)∧w'.cell? ⟨cb,co+q * 4+3,none⟩=some (.int .i64 x.n)) (by kernel_rfl) (by rw [HwE.out];exact HS3.out _ uE) (fun hHeld=>?_)
           rw [HwE.out] at hHeld ⊢;refine wpT 0 ?_
           try simp only [put_y,put_z]
           refine wpT 1 ?_
           try simp only [put_y,put_z]
           refine wpT 2 ?_
           try simp only [put_y,put_z]
           refine wpT 3 ?_
           try simp only [put_y,put_z]
           refine wpT 4 ?_
           try simp only [put_y,put_z]
           refine wpT 5 ?_
           try simp only [put_y,put_z]
           refine wpT 6 ?_
           try simp only [put_y,put_z]
           refine wpT 7 ?_
           try simp only [put_y,put_z]
           refine wpAnyH_ready (rs:=[8]) (by kernel_rfl) (by simp) ?_;refine AllReadyH.cons rfl (fun K hK=>?_) AllReadyH.nil;go_simp;refine CC.out.mono ?_;rintro e wG ⟨rfl,uG⟩
           go_wp2_with fail
           refine hK.out _ _ ?_ (fun hHeld=>?_)
           ·
            exact HS3.out _ (uE.then_non uG)
           clear hK K
           try simp only [put_y,put_z]
           refine wpT 9 ?_
           try simp only [put_y,put_z]
           refine wpAnyH_done (by kernel_rfl) ?_ _;have HU11:=(hu.then_non uE).then_non uG;have HU:=HU.then_non HU11
           cases cr with
           | false =>
            have HF:Hid (R=false):=HCD.out.1 rfl
            go_wp2_with fail
            go_ret;exact ⟨by rw [HF.out];rfl,HU⟩
           | true =>
            have HA2:=Lib.hid (HCD.out.2 rfl)
            go_wp2_with fail
            simp only [←ecA]
            go_roundg (cn - (q+1))
            case measure=>rw [Hg.out];omega
            case rel=>exact ⟨q+1,rfl,by omega,by go_num,HA2.out,HU11⟩
          ·
           obtain rfl:cn=q:=by omega
           have HF:Hid (R=true):=by
            show _=_;rw [HR4.out,←Hx3.out,List.all_eq_true];intro c hc;obtain ⟨j,hj,rfl⟩:=List.mem_iff_getElem.1 hc;exact HA.out j hj (by rw [←Hcn.out];exact hj)
           have HU:=HU.then_non hu;obtain ⟨_,_,_,_,_,_,_,_,_,_,_,d11,_,_⟩:=HC.out _ HUC;rw [Hcn.out] at d11
           have t5:decide (cn<cn)=false:=by simp
           go_wp2_with fail
           go_ret;exact ⟨by rw [HF.out];rfl,HU⟩
set_option maxRecDepth 100000 in
set_option maxHeartbeats 4000000 in
theorem xPrint_c (w:World) (F:Nat→Prop) (A:Option Addr) (c:Nat) (L:List Rl) (hv:RlsV w F A L) (hz:∀r∈L,RlSz r) (hi:∀r∈L,RlI r) (hn:L.length≤1000000) :
  Calls Tryz.prog 24 #[.slice A L.length c] w fun e w'=>e=.returned (.string (kstr (printF L)))∧Upd Non w w':=by
 have HV:=Lib.hid hv;have HZ:=Lib.hid hz;have HI:=Lib.hid hi;obtain ⟨res,Hres⟩:=nm (kstr (printF L));rw [Hres.out];obtain ⟨n,Hn⟩:=nm L.length;rw [Hn.out] at hn ⊢;clear hv hz hi;go_enter Tryz.func24,Tryz.ntmps24
 go_wp2_with fail
 go_loopg [3,4,5,6] n (fun g v iv _ _ wr=>∃(k:Nat) (bs:Bs),Hid (g=n - k)∧k≤n∧iv=.int .i64 k∧v=.string (kstr bs)∧Hid (bs=fmtRs (L.take k))∧bs.length≤2000 * k∧Hid (∀r∈L.take k,implF r=true)∧Hid (Upd Non w wr))
 case atStart=>exact ⟨0,[],rfl,Nat.zero_le _,rfl,rfl,rfl,by simp,fun r hr=>by simp at hr,Upd.refl⟩
 case round =>
  obtain ⟨k,bs,Hg,hk,rfl,rfl,HB,hbl,HI2,HU⟩:=hrel
  by_cases hlt:k<n
  ·
   have hkl:k<L.length:=by rw [Hn.out];exact hlt
   obtain ⟨b,o,a,rfl,_,hbw0,hat0,hrk0⟩:=HV.out.at_ hkl;have hbw:b<wr.heap.size:=Nat.lt_of_lt_of_le hbw0 HU.out.size;have hat:=hat0.upd HU.out (fun f=>f);have hrk:=hrk0.upd HU.out (fun _ _ _ f=>f);have HRW:=Lib.hid hrk0;clear hat0 hrk0 hbw0;unfold RlAt at hat;have HRZ:=Lib.hid (HZ.out _ (List.getElem_mem hkl));have HRI:=Lib.hid (HI.out _ (List.getElem_mem hkl))
   have HTK:Hid (L.take (k+1)=L.take k++[L[k]]):=take_snoc' hkl;have HME:Hid (L[k]∈L):=List.getElem_mem hkl;generalize L[k]=r at *;obtain ⟨x0,x1,x2,x3,x4,x5,x6,x7,x8,x9,x10,x11,x12,x13⟩:=hat;have CV:=Lib.hid (validRule_c r a F _ (hrk.upd (Upd.refl.alloc (S:=Non) (.cells (rlCells r a) 43)) (fun _ _ _ f=>f)) HRZ.out);rw [←imp_ref] at CV
   have hb3:=Blk.new wr 43 (rlCells r a);have HB3:=Lib.hid hb3;have HRK:=Lib.hid hrk;have HB3A:Hid (rlCells r a=rlCells r a):=rfl;unfold rlv rlCells at CV;obtain ⟨v,Hv⟩:=nm (implF r);rw [Hv.out] at CV;obtain ⟨sb,Hsb⟩:=nm (kstr bs)
   have hsb:sb.size≤2000 * k:=by rw [←Hsb.out,kstr_size];exact hbl
   rw [Hsb.out];obtain ⟨W3,HW3⟩:=nm (wr.alloc (.cells (rlCells r a) 43));have e3:=HW3.out;rw [HW3.out] at HB3
   have u3:Upd Non wr W3:=by rw [←HW3.out];exact Upd.refl.alloc _
   have HU3:=Lib.hid (HU.out.then_non u3);have HRK3:=Lib.hid (HRK.out.upd u3 (fun _ _ _ f=>f));unfold rlCells at e3;rw [e3] at CV;have hb3:=HB3.out;unfold rlCells at hb3;clear hb3 hrk u3 HB3A HRK HW3;have y3:=HB3.out;unfold rlCells at y3;have z0:=y3.cell 0;have z1:=y3.cell 1;have z2:=y3.cell 2;have z3:=y3.cell 3;have z4:=y3.cell 4;have z5:=y3.cell 5;have z6:=y3.cell 6
   have z7:=y3.cell 7;have z8:=y3.cell 8;have z9:=y3.cell 9;have z10:=y3.cell 10;have z11:=y3.cell 11;have z12:=y3.cell 12;have z13:=y3.cell 13;clear y3
   go_upto_region 6 with fail
   try rw [e3]
   clear x0 x1 x2 x3 x4 x5 x6 x7 x8 x9 x10 x11 x12 x13 e3
   go_wp2_with fail
   refine CV.out.mono ?_;rintro e w4 ⟨rfl,hu4⟩;clear CV z0 z1 z2 z3 z4 z5 z6 z7 z8 z9 z10 z11 z12 z13;have HU4:=Lib.hid (HU3.out.then_non hu4);have HB4:=Lib.hid (HB3.out.upd hu4 (fun f=>f));have HRK4:=Lib.hid (HRK3.out.upd hu4 (fun _ _ _ f=>f));clear HB3 HRK3 hu4
   cases v with
   | false =>
    go_wp2_with fail
    go_ret;refine ⟨?_,HU4.out⟩;rw [←Hres.out,show printF L=[] from if_neg (fun q=>by have:=List.all_eq_true.1 q r HME.out;rw [Hv.out] at this;cases this)];rfl
   | true =>
    have HF:=Lib.hid (impl_fm Hv.out HRI.out);have hok:=imp_ok Hv.out;have HY1:=Lib.hid (shp_fy _ _ _ _ hok.shl);have HY2:=Lib.hid (shp_fy _ _ _ _ hok.shr);have hnl:r.name.size≤16:=HF.out.n;have hlz:r.l.size≤24:=HF.out.ls;have hrz:r.r.size≤24:=HF.out.rs;have hl1:(kstr (fmtF r.l)).size≤720:=ksz (by have:=fmtF_len _ HF.out.l;omega)
    have hl2:(kstr (fmtF r.r)).size≤720:=ksz (by have:=fmtF_len _ HF.out.r;omega);have CL:=Lib.hid (fun W (u:Upd Non w4 W)=>xFmtPattern_c r.l W F a.la a.lc (PtK.upd u (fun _ _ _ f=>f) _ _ _ HRK4.out.l) HF.out.l HY1.out (by omega))
    have CR:=Lib.hid (fun W (u:Upd Non w4 W)=>xFmtPattern_c r.r W F a.ra a.rc (PtK.upd u (fun _ _ _ f=>f) _ _ _ HRK4.out.r) HF.out.r HY2.out (by omega))
    have HE:Hid ((((((sb++({ data:=#[114,117,108,101,32] }:ByteArray))++r.name)++({ data:=#[58,32] }:ByteArray))++kstr (fmtF r.l))++({ data:=#[32,61,62,32] }:ByteArray))++kstr (fmtF r.r)=kstr (bs++hdF r)):=by
     show _=_;apply kx_inj;rw [kx_kstr,←Hsb.out,←hd_eq];simp [kx,kstr]
    have hsz:(hdF r).length≤1600:=hdF_len HF.out;obtain ⟨f1,Hf1⟩:=nm (kstr (fmtF r.l));obtain ⟨f2,Hf2⟩:=nm (kstr (fmtF r.r));rw [Hf1.out] at CL HE hl1;rw [Hf2.out] at CR HE hl2;unfold pv at CL CR;clear hok
    go_upto_region 8 with fail
    go_cut [3] (fun v wx=>v=.string (kstr (bs++hdF r))∧Upd Non w4 wx)
    case first =>
     obtain ⟨wD,HwD⟩:=nm w4.drew
     have uD:Upd Non w4 wD:=by rw [←HwD.out];exact Upd.refl.drew
     have hbD:=HB4.out.upd uD (fun f=>f);unfold rlCells at hbD
     have hq0:¬(9223372036854775807<sb.size+5):=by omega
     have hq1:¬(9223372036854775807<sb.size+5+r.name.size):=by omega
     have hq2:¬(9223372036854775807<sb.size+5+r.name.size+2):=by omega
     have hq3:¬(9223372036854775807<sb.size+5+r.name.size+2+f1.size):=by omega
     have hq4:¬(9223372036854775807<sb.size+5+r.name.size+2+f1.size+4):=by omega
     have hq5:¬(9223372036854775807<sb.size+5+r.name.size+2+f1.size+4+f2.size):=by omega
     refine wp_region_held_drew (S:=fun w'=>w'.cell? ⟨wr.heap.size,0,none⟩=some (.string r.name)∧w'.cell? ⟨wr.heap.size,1,none⟩=some (.int .i64 r.l.v)∧w'.cell? ⟨wr.heap.size,2,none⟩=some (.int .i64 r.l.op)∧w'.cell? ⟨wr.heap.size,3,none⟩=some (.int .i64 r.l.imm)∧w'.cell? ⟨wr.heap.size,4,none⟩=some (.int .i64 r.l.iv)∧w'.cell? ⟨wr.heap.size,5,none⟩=some (.slice a.la r.l.kids.length a.lc)∧w'.cell? ⟨wr.heap.size,6,none⟩=some (.int .i64 r.r.v)∧w'.cell? ⟨wr.heap.size,7,none⟩=some (.int .i64 r.r.op)∧w'.cell? ⟨wr.heap.size,8,none⟩=some (.int .i64 r.r.imm)∧w'.cell? ⟨wr.heap.size,9,none⟩=some (.int .i64 r.r.iv)∧w'.cell? ⟨wr.heap.size,10,none⟩=some (.slice a.ra r.r.kids.length a.rc)) (by kernel_rfl) (by rw [HwD.out];exact ⟨hbD.cell 0,hbD.cell 1,hbD.cell 2,hbD.cell 3,hbD.cell 4,hbD.cell 5,hbD.cell 6,hbD.cell 7,hbD.cell 8,hbD.cell 9,hbD.cell 10⟩) (fun hHeld=>?_)
     rw [HwD.out] at hHeld ⊢;refine wpT 0 ?_
     try simp only [put_y,put_z]
     refine wpT 1 ?_
     try simp only [put_y,put_z]
     refine wpT 2 ?_
     try simp only [put_y,put_z]
     refine wpT 3 ?_
     try simp only [put_y,put_z]
     refine wpT 4 ?_
     try simp only [put_y,put_z]
     refine wpT 5 ?_
     try simp only [put_y,put_z]
     refine wpT 6 ?_
     try simp only [put_y,put_z]
     refine wpT 7 ?_
     try simp only [put_y,put_z]
     refine wpT 11 ?_
     try simp only [put_y,put_z]
     refine wpT 12 ?_
     try simp only [put_y,put_z]
     refine wpAnyH_ready (rs:=[8]) (by kernel_rfl) (by simp) ?_;refine AllReadyH.cons rfl (fun K hK=>?_) AllReadyH.nil;go_simp;refine (CL.out _ uD).mono ?_;rintro e w5 ⟨rfl,u5⟩;have h5:Upd Non w4 w5:=uD.then_non u5;have hb5:=HB4.out.upd h5 (fun f=>f);unfold rlCells at hb5
     go_wp2_with fail
     refine hK.out _ _ ?_ (fun hHeld=>?_)
     ·
      exact ⟨hb5.cell 0,hb5.cell 1,hb5.cell 2,hb5.cell 3,hb5.cell 4,hb5.cell 5,hb5.cell 6,hb5.cell 7,hb5.cell 8,hb5.cell 9,hb5.cell 10⟩
     clear hK K
     try simp only [put_y,put_z]
     refine wpT 9 ?_
     try simp only [put_y,put_z]
     refine wpT 10 ?_
     try simp only [put_y,put_z]
     refine wpAnyH_ready (rs:=[13]) (by kernel_rfl) (by simp) ?_;refine AllReadyH.cons rfl (fun K hK=>?_) AllReadyH.nil;go_simp;refine (CR.out _ h5).mono ?_;rintro e w6 ⟨rfl,u6⟩;have h6:Upd Non w4 w6:=h5.then_non u6;have hb6:=HB4.out.upd h6 (fun f=>f);unfold rlCells at hb6
     go_wp2_with fail
     refine hK.out _ _ ?_ (fun hHeld=>?_)
     ·
      exact ⟨hb6.cell 0,hb6.cell 1,hb6.cell 2,hb6.cell 3,hb6.cell 4,hb6.cell 5,hb6.cell 6,hb6.cell 7,hb6.cell 8,hb6.cell 9,hb6.cell 10⟩
     clear hK K
     try simp only [put_y,put_z]
     refine wpT 14 ?_
     try simp only [put_y,put_z]
     refine wpT 15 ?_
     try simp only [put_y,put_z]
     refine wpAnyH_done (by kernel_rfl) ?_ _
     go_wp2_with fail
     go_meet
     case rel=>exact ⟨by rw [←HE.out],h6⟩
    case rest =>
     clear CL CR HE hl1 hl2;obtain ⟨rfl,hwc⟩:=hcut;have HUC:=Lib.hid (HU4.out.then_non hwc);have HBC:=Lib.hid (HB4.out.upd hwc (fun f=>f));obtain ⟨m,Hm⟩:=nm r.conds.length;obtain ⟨ca,Hca⟩:=nm a.ca
     have hm6:m≤6:=by rw [←Hm.out];exact HF.out.few
     obtain ⟨pre,Hpre⟩:=nm (bs++hdF r)
     have hpl:pre.length≤2000 * k+1600:=by rw [←Hpre.out,List.length_append];omega
     rw [Hpre.out];clear hwc
     go_wp2_with fail
     go_loopg [3,6] m (fun g v iv wq=>∃(q:Nat) (b3:Bs),Hid (g=m - q)∧q≤m∧iv=.int .i64 q∧v=.string (kstr b3)∧Hid (b3=pre++fmtCs (r.conds.take q) true)∧b3.length≤pre.length+50 * q∧Hid (Upd Non wc wq))
     case atStart=>exact ⟨0,pre,rfl,Nat.zero_le _,rfl,rfl,by show _=_;simp [fmtCs],by omega,Upd.refl⟩
     case round =>
      obtain ⟨q,b3,Hgq,hq,rfl,rfl,HB3,hb3l,HUQ⟩:=hrel;have hbq:=HBC.out.upd HUQ.out (fun f=>f);unfold rlCells at hbq;have c11:=hbq.cell 11;rw [Hm.out,Hca.out] at c11;have HUQ2:=Lib.hid (HUC.out.then_non HUQ.out);obtain ⟨s3,Hs3⟩:=nm (kstr b3)
      have hs3:s3.size≤10000000000:=by rw [←Hs3.out,kstr_size];omega
      rw [Hs3.out];clear hbq
      by_cases hqt:q<m
      ·
       have hql:q<r.conds.length:=by rw [Hm.out];exact hqt
       have htk:=(HRW.out.c.upd HUQ2.out (fun _ _ _ f=>f)).take hql;rw [Hca.out] at htk;obtain ⟨b',o',rfl,hbw',y0,y1,y2,y3⟩:=htk;have HCF:=Lib.hid (HF.out.c _ (List.getElem_mem hql));have HTC:Hid (r.conds.take (q+1)=r.conds.take q++[r.conds[q]]):=take_snoc' hql;generalize r.conds[q]=cd at *;have CFC:=Lib.hid (xFmtCond_c cd HCF.out wr)
       have hfl:=fmtC_len HCF.out;have hzc:(kstr (fmtC cd)).size≤40:=ksz hfl;have HKC:Hid (kx (kstr (fmtC cd))=fmtC cd):=kx_kstr _;obtain ⟨fc,Hfc⟩:=nm (kstr (fmtC cd));rw [Hfc.out] at CFC hzc
       by_cases hq0:q=0
       ·
        have tq:((q:Int)==0)=true:=by simp;omega
        have HE:Hid ((s3++({ data:=#[32,105,102,32] }:ByteArray))++fc=kstr (b3++((if true&&(r.conds.take q).isEmpty then [32,105,102,32] else [44,32])++fmtC cd))):=by
         show _=_
         rw [show (true&&(r.conds.take q).isEmpty)=true by rw [hq0];rfl,if_pos rfl,←Hs3.out,←Hfc.out,show ({ data:=#[32,105,102,32] }:ByteArray)=kstr [32,105,102,32] from rfl,kstr_app,kstr_app,List.append_assoc]
        clear hq0
        go_wp2_with fail
        refine CFC.out.mono ?_;rintro e w8 ⟨rfl,hu8⟩;clear CFC y0 y1 y2 y3
        go_wp2_with fail
        go_roundg (m - (q+1))
        case measure=>rw [Hgq.out];omega
        case rel =>
         refine ⟨q+1,b3++((if true&&(r.conds.take q).isEmpty then [32,105,102,32] else [44,32])++fmtC cd),rfl,by omega,by go_num,by rw [HE.out],?_,?_,HUQ.out.then_non hu8⟩
         ·
          show _=_;rw [HTC.out,fmtCs_snoc,HB3.out,List.append_assoc]
         ·
          have hi4:(if true&&(r.conds.take q).isEmpty then [32,105,102,32] else ([44,32]:Bs)).length≤4:=by split <;> simp
          rw [List.length_append,List.length_append];omega
       ·
        have tq:((q:Int)==0)=false:=by simp;omega
        have HE:Hid ((s3++({ data:=#[44,32] }:ByteArray))++fc=kstr (b3++((if true&&(r.conds.take q).isEmpty then [32,105,102,32] else [44,32])++fmtC cd))):=by
         show _=_
         rw [show (true&&(r.conds.take q).isEmpty)=false by rw [Bool.true_and,List.isEmpty_eq_false_iff];intro ht;have:=congrArg List.length ht;rw [List.length_take] at this;simp only [List.length_nil] at this;omega,if_neg (by decide),←Hs3.out,←Hfc.out,show ({ data:=#[44,32] }:ByteArray)=kstr [44,32] from rfl,kstr_app,kstr_app,List.append_assoc]
        clear hq0
        go_wp2_with fail
        refine CFC.out.mono ?_;rintro e w8 ⟨rfl,hu8⟩;clear CFC y0 y1 y2 y3
        go_wp2_with fail
        go_roundg (m - (q+1))
        case measure=>rw [Hgq.out];omega
        case rel =>
         refine ⟨q+1,b3++((if true&&(r.conds.take q).isEmpty then [32,105,102,32] else [44,32])++fmtC cd),rfl,by omega,by go_num,by rw [HE.out],?_,?_,HUQ.out.then_non hu8⟩
         ·
          show _=_;rw [HTC.out,fmtCs_snoc,HB3.out,List.append_assoc]
         ·
          have hi4:(if true&&(r.conds.take q).isEmpty then [32,105,102,32] else ([44,32]:Bs)).length≤4:=by split <;> simp
          rw [List.length_append,List.length_append];omega
      ·
       obtain rfl:m=q:=by omega
       have HT:Hid (b3++[59,10]=fmtRs (L.take (k+1))):=by
        show _=_;rw [HTK.out,fmtRs_snoc,fmtR_hd,HB3.out,←Hpre.out,HB.out,←Hm.out,List.take_length];simp
       have HE:Hid (s3++({ data:=#[59,10] }:ByteArray)=kstr (fmtRs (L.take (k+1)))):=by
        show _=_;rw [←HT.out,←Hs3.out,show ({ data:=#[59,10] }:ByteArray)=kstr [59,10] from rfl,kstr_app]
       have HIA:Hid (∀x∈L.take (k+1),implF x=true):=fun x hx=>by
        rw [HTK.out] at hx
        rcases List.mem_append.1 hx with hx | hx
        ·
         exact HI2.out x hx
        ·
         rw [List.mem_singleton] at hx;subst hx;exact Hv.out
       go_wp2_with fail
       go_roundg (n - (k+1))
       case measure=>rw [Hg.out];omega
       case rel =>
        refine ⟨k+1,fmtRs (L.take (k+1)),rfl,by omega,by go_num,by rw [HE.out],rfl,?_,HIA,HUQ2.out⟩;have:=fmtRs_len (L:=L.take (k+1)) (fun x hx=>impl_fm (HIA.out x hx) (HI.out x (List.mem_of_mem_take hx)));rw [List.length_take] at this;omega
  ·
   obtain rfl:n=k:=by omega
   have HE:Hid (kstr bs=res):=by
    show _=_;rw [←Hres.out,HB.out];unfold printF;have h1:=HI2.out;rw [←Hn.out,List.take_length] at h1 ⊢;rw [if_pos (List.all_eq_true.2 h1)]
   rw [HE.out]
   go_wp2_with fail
   go_ret;exact ⟨rfl,HU.out⟩
theorem xtk_lt {T:List (Bs×Nat)} {i:Nat} {s:Bs} (h:tkF T i=some s):i<T.length:=by
 rcases Nat.lt_or_ge i T.length with q | q
 ·
  exact q
 ·
  unfold tkF at h;rw [List.getElem?_eq_none q] at h;cases h
def ResX {α:Type} (x y:Xs) (r:Except Er (α×PS)) (P:α→Prop):Prop :=
 (x.why=0→match r with
  | .ok (v,ps)=>y.why=0∧y.ps=ps∧P v
  | .error e=>y.why=e.1∧y.ea=e.2)∧(x.why≠0→y.why=x.why∧y.ea=x.ea)
def GoodX (T:List (Bs×Nat)) (x:Xs):Prop:=x.i≤T.length∧x.vs.length≤x.i∧x.ms.length≤x.i
structure XOk (T:List (Bs×Nat)):Prop where
 ne:∀t∈T,t.1≠[]
 sz:∀t∈T,t.1.length≤20000
 len:T.length≤20000
theorem xfail_why {x:Xs} {a b:Int} (h:x.why≠0):x.fail a b=x:=if_neg h
theorem xfail_zero {x:Xs} {a b:Int} (h:x.why=0):x.fail a b={ x with why:=a,ea:=b }:=if_pos h
theorem xfail_i (x:Xs) (a b:Int):(x.fail a b).i=x.i:=by unfold Xs.fail;split <;> rfl
theorem xfail_left (x:Xs) (a b:Int):(x.fail a b).left=x.left:=by unfold Xs.fail;split <;> rfl
theorem xfail_vs (x:Xs) (a b:Int):(x.fail a b).vs=x.vs:=by unfold Xs.fail;split <;> rfl
theorem xfail_ms (x:Xs) (a b:Int):(x.fail a b).ms=x.ms:=by unfold Xs.fail;split <;> rfl
theorem xfail_ne (x:Xs) {a b:Int} (h:a≠0):(x.fail a b).why≠0:=by
 unfold Xs.fail
 split
 ·
  exact h
 ·
  assumption
theorem GoodX.fail {T:List (Bs×Nat)} {x:Xs} (h:GoodX T x) (a b:Int):GoodX T (x.fail a b):=by
 unfold GoodX;rw [xfail_i,xfail_vs,xfail_ms];exact h
theorem ResX.err {α:Type} {T:List (Bs×Nat)} {fin i:Nat} {x z:Xs} {P:α→Prop} (h:x.why=0→z.why=0) (h2:x.why≠0→z.why=x.why∧z.ea=x.ea):ResX x (z.fail 2 (offF T fin i)) (.error (serr T fin i)) P:=by
 refine ⟨fun h0=>?_,fun h0=>?_⟩
 ·
  rw [xfail_zero (h h0)];exact ⟨rfl,rfl⟩
 ·
  have:=h2 h0;rw [xfail_why (by rw [this.1];exact h0)];exact this
section
variable {T:List (Bs×Nat)} {fin:Nat} {x y:Xs} {s:Bs}
theorem nx_none (h:¬(x.why=0∧x.i<T.length)):nxS T x=[]∧nxY T fin x=x.fail 2 (offF T fin x.i):=by
 unfold nxS nxY;rw [if_neg h];refine ⟨?_,rfl⟩
 split
 ·
  rename_i q;unfold tkF;rw [List.getElem?_eq_none (by have : ¬x.i<T.length:=fun r=>h ⟨q,r⟩;omega)];rfl
 ·
  rfl
theorem nx_some (h0:x.why=0) (ht:tkF T x.i=some s):nxS T x=s∧nxY T fin x={ x with i:=x.i+1 }∧x.i<T.length:=by
 have hl:=xtk_lt ht;unfold nxS nxY;rw [if_pos h0,if_pos ⟨h0,hl⟩,ht];exact ⟨rfl,rfl,hl⟩
theorem tk_none (h:¬x.i<T.length):tkF T x.i=none:=by
 unfold tkF;rw [List.getElem?_eq_none (by omega)];rfl
theorem tk_some (h:x.i<T.length):∃s,tkF T x.i=some s:=by
 unfold tkF;rw [List.getElem?_eq_getElem h];exact ⟨_,rfl⟩
theorem XOk.tk (h:XOk T) {i:Nat} (ht:tkF T i=some s):s≠[]∧s.length≤20000:=by
 have hl:=xtk_lt ht;unfold tkF at ht;rw [List.getElem?_eq_getElem hl] at ht
 injection ht with ht
 rw [←ht];exact ⟨h.ne _ (List.getElem_mem hl),h.sz _ (List.getElem_mem hl)⟩
theorem nxY_good (h:GoodX T x):GoodX T (nxY T fin x)∧x.i≤(nxY T fin x).i∧(nxY T fin x).left=x.left∧(nxY T fin x).vs=x.vs∧(nxY T fin x).ms=x.ms:=by
 unfold nxY
 split
 ·
  rename_i q
  exact ⟨⟨q.2,by have:=h.2.1;show x.vs.length≤x.i+1;omega,by have:=h.2.2;show x.ms.length≤x.i+1;omega⟩,Nat.le_succ _,rfl,rfl,rfl⟩
 ·
  exact ⟨h.fail _ _,by rw [xfail_i];exact Nat.le_refl _,xfail_left _ _ _,xfail_vs _ _ _,xfail_ms _ _ _⟩
theorem wrd_none {α:Type} {f:Bs→PS→Option (α×PS)} {z:PS} (h:tkF T z.i=none):wrdF T fin f z=.error (serr T fin z.i):=by unfold wrdF;rw [h]
theorem wrd_some {α:Type} {f:Bs→PS→Option (α×PS)} {z:PS} (h:tkF T z.i=some s):wrdF T fin f z=if isPn (s.headD 0) then .error (serr T fin z.i) else match f s z with
  | some (a,y)=>.ok (a,{ y with i:=z.i+1 })
  | none=>.error (serr T fin z.i):=by
 unfold wrdF;rw [h];rfl
theorem wrd_bad {α:Type} {f:Bs→PS→Option (α×PS)} {z:PS} (h:tkF T z.i=some s) (hf:f s z=none):wrdF T fin f z=.error (serr T fin z.i):=by
 rw [wrd_some h,hf]
 split <;> rfl
theorem wrd_good {α:Type} {f:Bs→PS→Option (α×PS)} {z u:PS} {a:α} (h:tkF T z.i=some s) (hp:isPn (s.headD 0)=false) (hf:f s z=some (a,u)):wrdF T fin f z=.ok (a,{ u with i:=z.i+1 }):=by
 rw [wrd_some h,hf,hp];rfl
theorem exY_err (h0:y.why≠0):exY T fin s y=y:=by
 unfold exY;rw [if_neg (fun q=>h0 q.1)];exact xfail_why h0
theorem exY_res (h0:y.why=0):match expF T fin s y.ps with | .ok u=>(exY T fin s y).why=0∧(exY T fin s y).ps=u | .error e=>(exY T fin s y).why=e.1∧(exY T fin s y).ea=e.2:=by
 unfold exY expF;rw [show y.ps.i=y.i from rfl]
 by_cases ht:tkF T y.i=some s
 ·
  rw [if_pos ht,if_pos ⟨h0,ht⟩];exact ⟨h0,rfl⟩
 ·
  rw [if_neg ht,if_neg (fun q=>ht q.2)];dsimp only;rw [xfail_zero h0];exact ⟨rfl,rfl⟩
theorem exY_left:(exY T fin s y).left=y.left:=by
 unfold exY
 split
 ·
  rfl
 ·
  exact xfail_left _ _ _
theorem exY_i:y.i≤(exY T fin s y).i:=by
 unfold exY
 split
 ·
  exact Nat.le_succ _
 ·
  exact Nat.le_of_eq (xfail_i _ _ _).symm
theorem exY_good (h:GoodX T y):GoodX T (exY T fin s y):=by
 unfold exY
 split
 ·
  rename_i q;have:=xtk_lt q.2;exact ⟨this,by have:=h.2.1;show y.vs.length≤y.i+1;omega,by have:=h.2.2;show y.ms.length≤y.i+1;omega⟩
 ·
  exact h.fail _ _
end
theorem kids_stepX {g:PS→Except Er (Pt×PS)} {y0 y y':Xs} {j:Nat} {ks:List Pt} {q:Pt} (hs:ResX y0 y (kidsF g j y0.ps) (fun v=>v=ks)) (h0:y.why=0) (hg:∀x e,g x=.error e→e.1≠0)
  (hr:ResX y y' (g y.ps) (fun v=>v=q∧q.size+y.i≤y'.i)) (hz:y.why=0→Pt.sizeL ks+y0.i≤y.i) :
  ResX y0 y' (kidsF g (j+1) y0.ps) (fun v=>v=ks++[q])∧(y'.why=0→Pt.sizeL (ks++[q])+y0.i≤y'.i):=by
 have h00:y0.why=0:=by
  by_cases h:y0.why=0
  ·
   exact h
  ·
   exact absurd ((hs.2 h).1 ▸ h0) h
 have h1:=hs.1 h00;have h2:=hr.1 h0;have hz:=hz h0
 cases hk:kidsF g j y0.ps with
 | error e=>rw [hk] at h1;exact absurd (h1.1 ▸ h0) (kidsF_e0 hg hk)
 | ok v =>
  obtain ⟨l,ps⟩:=v;rw [hk] at h1;obtain ⟨_,rfl,rfl⟩:=h1;refine ⟨⟨fun _=>?_,fun h=>absurd h00 h⟩,fun hy=>?_⟩
  ·
   rw [kidsF_snoc,hk];dsimp only
   cases ht:g y.ps with
   | error e=>rw [ht] at h2;exact h2
   | ok v =>
    obtain ⟨q2,z⟩:=v;rw [ht] at h2;exact ⟨h2.1,h2.2.1,by rw [h2.2.2.1]⟩
  ·
   cases ht:g y.ps with
   | error e=>rw [ht] at h2;exact absurd (h2.1 ▸ hy) (hg _ _ ht)
   | ok v =>
    rw [ht] at h2;have h3:q.size+y.i≤y'.i:=h2.2.2.2;rw [sizeL_snoc];omega
theorem kids_exitX {g:PS→Except Er (Pt×PS)} {y0 y:Xs} {j n:Nat} {ks:List Pt} (hs:ResX y0 y (kidsF g j y0.ps) (fun v=>v=ks)) (hj:j≤n) (hd:(decide (j<n)&&(y.why==0))=false):ResX y0 y (kidsF g n y0.ps) (fun v=>v=ks):=by
 by_cases hlt:j<n
 ·
  have h0:y.why≠0:=fun h=>by rw [h,decide_eq_true hlt] at hd;cases hd
  refine ⟨fun h00=>?_,hs.2⟩;have h1:=hs.1 h00
  cases hk:kidsF g j y0.ps with
  | error e=>rw [hk] at h1;rw [kidsF_err hk hj];exact h1
  | ok v=>rw [hk] at h1;exact absurd h1.1 h0
 ·
  obtain rfl:j=n:=by omega
  exact hs
theorem app_finX {T:List (Bs×Nat)} {fin:Nat} {y:Xs} {left:Bool} {f n:Nat} {x y0:Xs} {q:Pt} {ks:List Pt} (hx:x.why=0)
  (hr:ResX x y0 (wrdF T fin (operF left) x.ps) (fun v=>v=q∧x.i+1≤y0.i)) (hn:n=(arF q.op).getD 0)
  (hs:ResX y0 y (kidsF (termF T fin left f) n y0.ps) (fun v=>v=ks)) (hz:y.why=0→Pt.sizeL ks+y0.i≤y.i) :
  ResX x (exY T fin [41] y) (appF T fin left f x.ps) (fun v=>v=.mk q.v q.op q.imm q.iv ks∧(Pt.mk q.v q.op q.imm q.iv ks).size+x.i≤(exY T fin [41] y).i):=by
 refine ⟨fun _=>?_,fun h=>absurd hx h⟩;have h1:=hr.1 hx;unfold appF
 cases hw:wrdF T fin (operF left) x.ps with
 | error e =>
  rw [hw] at h1
  have hne:y0.why≠0:=by rw [h1.1];exact wrdF_err hw
  have h2:=hs.2 hne;rw [exY_err (by rw [h2.1];exact hne)];exact ⟨h2.1.trans h1.1,h2.2.trans h1.2⟩
 | ok v =>
  obtain ⟨q',ps⟩:=v;rw [hw] at h1;obtain ⟨h00,rfl,h1q,h1i⟩:=h1;subst h1q;have h2:=hs.1 h00;dsimp only;rw [←hn]
  cases hk:kidsF (termF T fin left f) n y0.ps with
  | error e =>
   rw [hk] at h2
   have hne:y.why≠0:=by rw [h2.1];exact kidsF_e0 (termF_err f) hk
   rw [exY_err hne];exact h2
  | ok v =>
   obtain ⟨l,ps⟩:=v;rw [hk] at h2;obtain ⟨hy0,rfl,h2l⟩:=h2;subst h2l;dsimp only;have h3:=exY_res (T:=T) (fin:=fin) (s:=[41]) hy0
   cases he:expF T fin [41] y.ps with
   | error e=>rw [he] at h3;exact h3
   | ok u =>
    rw [he] at h3;refine ⟨h3.1,h3.2,by rw [wrdF_v hw],?_⟩;have h4:=hz hy0;have h5:y.i≤(exY T fin [41] y).i:=exY_i;rw [Pt.size_eq];show 1+Pt.sizeL l+x.i≤_;omega
theorem dec_pn {s:Bs} {n:Int} (h:decF s=some n):isPn (s.headD 0)=false:=by
 cases s with
 | nil=>rfl
 | cons c l =>
  show isPn c=false
  cases hp:isPn c with
  | false=>rfl
  | true =>
   exfalso
   simp only [isPn,decide_eq_true_eq] at hp
   have h1:c≠45:=fun e=>by rw [e] at hp;exact absurd hp (by decide)
   have h3:isDg c=false:=by simp only [isDg,decide_eq_false_iff_not];omega
   unfold decF at h;simp [h1,h3] at h
theorem atom_dec {left:Bool} {s:Bs} {x:PS} {n:Int} (h:decF s=some n):atomF left s x=some (.mk 0 1 n 0 [],x):=by
 unfold atomF;rw [h]
theorem decF_q (b:UInt8):decF [63,b]=none:=by simp [decF,isDg]
theorem decF_d (b:UInt8):decF [36,b]=none:=by simp [decF,isDg]
theorem atom_q {left:Bool} {b:UInt8} (x:PS) (hb:isLw b=true):atomF left [63,b] x=if 0<(lookF x.vs b left).1 then some (.mk (lookF x.vs b left).1 0 0 0 [],{ x with vs:=(lookF x.vs b left).2 }) else none:=by
 unfold atomF;rw [decF_q];dsimp only
 have e1:varF [63,b] 63 x.vs left=lookF x.vs b left:=by
  show (if (63:UInt8).toNat=63∧isLw b=true then lookF x.vs b left else (0,x.vs))=_;rw [if_pos ⟨rfl,hb⟩]
 have e2:varF [63,b] 36 x.ms left=(0,x.ms):=by
  show (if (63:UInt8).toNat=36∧isLw b=true then lookF x.ms b left else (0,x.ms))=_;rw [if_neg (fun q=>absurd q.1 (by decide))]
 rw [e1,e2]
 split
 ·
  rfl
 ·
  exact if_neg (Nat.lt_irrefl 0)
theorem atom_d {left:Bool} {b:UInt8} (x:PS) (hb:isLw b=true):atomF left [36,b] x=if 0<(lookF x.ms b left).1 then some (.mk 0 1 0 (lookF x.ms b left).1 [],{ x with ms:=(lookF x.ms b left).2 }) else none:=by
 unfold atomF;rw [decF_d];dsimp only
 have e1:varF [36,b] 63 x.vs left=(0,x.vs):=by
  show (if (36:UInt8).toNat=63∧isLw b=true then lookF x.vs b left else (0,x.vs))=_;rw [if_neg (fun q=>absurd q.1 (by decide))]
 have e2:varF [36,b] 36 x.ms left=lookF x.ms b left:=by
  show (if (36:UInt8).toNat=36∧isLw b=true then lookF x.ms b left else (0,x.ms))=_;rw [if_pos ⟨rfl,hb⟩]
 rw [e1,e2];rw [if_neg (Nat.lt_irrefl 0)]
theorem varF_no {s:Bs} {c:Nat} {l:Bs} {left:Bool} (h:∀a b,s=[a,b]→isLw b=true→a.toNat≠c):varF s c l left=(0,l):=by
 match s,h with
 | [],_=>rfl
 | [_],_=>rfl
 | [a,b],h =>
  show (if a.toNat=c∧isLw b=true then lookF l b left else (0,l))=_;rw [if_neg (fun q=>h a b rfl q.2 q.1)]
 | _::_::_::_,_=>rfl
theorem atom_no {left:Bool} {s:Bs} {x:PS} (hd:decF s=none) (h:∀a b,s=[a,b]→isLw b=true→a.toNat≠63∧a.toNat≠36):atomF left s x=none:=by
 unfold atomF;rw [hd];dsimp only;rw [varF_no (c:=63) (fun a b e hb=>(h a b e hb).1),varF_no (c:=36) (fun a b e hb=>(h a b e hb).2)];rfl
theorem oper_i {left:Bool} {s:Bs} {i j:Nat} {vs ms:Bs}:operF left s ⟨j,vs,ms⟩=(operF left s ⟨i,vs,ms⟩).map fun v=>(v.1,{ v.2 with i:=j }):=by
 unfold operF;dsimp only
 split
 ·
  rfl
 ·
  split
  ·
   rfl
  ·
   split
   ·
    rfl
   ·
    split
    ·
     rfl
    ·
     split
     ·
      split <;> rfl
     ·
      rfl
theorem nameL_pn:∀s∈nameL,s≠[]∧isPn (s.headD 0)=false:=by decide
theorem findL_mem {l:List Bs} {s:Bs}:∀{k i:Nat},findL l s k=some i→s∈l:=by
 induction l with
 | nil=>intro k i h;cases h
 | cons x l ih =>
  intro k i h;rw [findL] at h
  split at h
  ·
   rename_i e;rw [e];exact List.mem_cons_self
  ·
   exact List.mem_cons_of_mem _ (ih h)
theorem oper_pn {left:Bool} {s:Bs} {z:PS} {v:Pt×PS} (h:operF left s z=some v):isPn (s.headD 0)=false:=by
 unfold operF at h;dsimp only at h
 split at h
 ·
  cases h
 ·
  rename_i op ho;unfold opF at ho
  cases hf:findL nameL (List.takeWhile (fun c=>decide (c.toNat≠46)) s) 0 with
  | none=>rw [hf] at ho;cases ho
  | some i =>
   have:=nameL_pn _ (findL_mem hf)
   cases s with
   | nil=>exact absurd rfl this.1
   | cons c l =>
    rw [List.takeWhile_cons] at this
    split at this
    ·
     exact this.2
    ·
     exact absurd rfl this.1
theorem op_resX {T:List (Bs×Nat)} {fin:Nat} {left:Bool} {y1 y2 y0:Xs} {s2:Bs} {q0:Pt} {b:Bool} (hg:GoodX T y1) (h0:y1.why=0) (hs:nxS T y1=s2) (hy2:nxY T fin y1=y2) (hl:y1.left=left) (hb:b=true→s2≠[])
  (ho:match operF y2.left s2 y2.ps with | some (q',ps)=>b=true∧q0=q'∧y0={ y2 with ms:=ps.ms }∧ps.vs=y2.vs∧ps.i=y2.i | none=>(b=false∧y0=y2)∨(b=true∧y0=y2.fail 2 (offF T fin y1.i))) :
  ResX y1 (bif b then y0 else y0.fail 2 (offF T fin y1.i)) (wrdF T fin (operF left) y1.ps) (fun v=>v=q0∧y1.i+1≤y0.i)∧GoodX T y0∧y0.left=left∧y1.i≤y0.i∧(b=true→y0.i=y1.i+1):=by
 subst hl
 by_cases q:y1.i<T.length
 ·
  obtain ⟨t,ht⟩:=tk_some q;obtain ⟨e1,e2,_⟩:=nx_some (fin:=fin) h0 ht;rw [e1] at hs;rw [e2] at hy2;subst hs hy2
  have hg2:GoodX T { y1 with i:=y1.i+1 }:=⟨q,by have:=hg.2.1;show y1.vs.length≤y1.i+1;omega,by have:=hg.2.2;show y1.ms.length≤y1.i+1;omega⟩
  have e3:operF y1.left t y1.ps=(operF y1.left t ⟨y1.i+1,y1.vs,y1.ms⟩).map fun v=>(v.1,{ v.2 with i:=y1.i }):=oper_i
  change match operF y1.left t ⟨y1.i+1,y1.vs,y1.ms⟩ with | some (q',ps)=>b=true∧q0=q'∧y0={ ({ y1 with i:=y1.i+1 }:Xs) with ms:=ps.ms }∧ps.vs=y1.vs∧ps.i=y1.i+1 | none=>(b=false∧y0={ y1 with i:=y1.i+1 })∨(b=true∧y0=({ y1 with i:=y1.i+1 }:Xs).fail 2 (offF T fin y1.i)) at ho
  cases ho2:operF y1.left t ⟨y1.i+1,y1.vs,y1.ms⟩ with
  | some v =>
   obtain ⟨q',ps⟩:=v;rw [ho2] at ho e3;obtain ⟨rfl,rfl,rfl,h4,h5⟩:=ho;have hol:=oper_len ho2;refine ⟨?_,⟨q,hg2.2.1,?_⟩,rfl,Nat.le_succ _,fun _=>rfl⟩
   ·
    rw [wrd_good (z:=y1.ps) ht (oper_pn ho2) e3];refine ⟨fun _=>⟨h0,?_,rfl,Nat.le_refl _⟩,fun q=>absurd h0 q⟩;show (⟨y1.i+1,y1.vs,ps.ms⟩:PS)=⟨y1.i+1,ps.vs,ps.ms⟩;rw [h4]
   ·
    have:=hol.2;have:=hg.2.2;show ps.ms.length≤y1.i+1;dsimp only at *;omega
  | none =>
   rw [ho2] at ho e3;rw [wrd_bad (z:=y1.ps) ht e3]
   rcases ho with ⟨rfl,rfl⟩ | ⟨rfl,rfl⟩
   ·
    exact ⟨ResX.err (fun _=>h0) (fun q=>absurd h0 q),hg2,rfl,Nat.le_succ _,fun q=>by cases q⟩
   ·
    exact ⟨ResX.err (z:={ y1 with i:=y1.i+1 }) (fun _=>h0) (fun q=>absurd h0 q),hg2.fail _ _,by rw [xfail_left],by rw [xfail_i];exact Nat.le_succ _,fun _=>xfail_i _ _ _⟩
 ·
  obtain ⟨e1,e2⟩:=nx_none (T:=T) (fin:=fin) (x:=y1) (fun r=>q r.2);rw [e1] at hs;rw [e2] at hy2;subst hs hy2
  have hbf:b=false:=by
   cases b with
   | false=>rfl
   | true=>exact absurd rfl (hb rfl)
  subst hbf
  have e3:y0=y1.fail 2 (offF T fin y1.i):=by
   split at ho
   ·
    cases ho.1
   ·
    rcases ho with ho | ho
    ·
     exact ho.2
    ·
     cases ho.1
  subst e3;refine ⟨?_,hg.fail _ _,by rw [xfail_left],by rw [xfail_i];exact Nat.le_refl _,fun q=>by cases q⟩;rw [wrd_none (z:=y1.ps) (tk_none q),cond_false,xfail_why (xfail_ne _ (by decide))];exact ResX.err (fun _=>h0) (fun q=>absurd h0 q)
theorem var_resX {T:List (Bs×Nat)} {fin:Nat} {left:Bool} {x y1:Xs} {Yf:Bs→Xs} {s:Bs} {K:Nat×Bs} {q:Pt} {u:PS} (hg:GoodX T x) (h0:x.why=0) (hy:y1={ x with i:=x.i+1 }) (ht:tkF T x.i=some s) (hp:isPn (s.headD 0)=false)
  (ha:atomF left s x.ps=if 0<K.1 then some (q,u) else none) (hY:(Yf K.2).why=0) (hi:(Yf K.2).i=x.i+1) (hps:(Yf K.2).ps={ u with i:=x.i+1 }) (hv:(Yf K.2).vs.length≤x.i+1) (hm:(Yf K.2).ms.length≤x.i+1) (hl:(Yf K.2).left=x.left) (hq:q.size=1) :
  ∀y,y=xvY y1 (offF T fin x.i) Yf K→GoodX T y∧y.left=x.left∧y.i=x.i+1∧ResX x y (wrdF T fin (atomF left) x.ps) (fun v=>v=q∧q.size+x.i≤y.i):=by
 intro y ey;unfold xvY at ey;have hlt:=xtk_lt ht
 have hg1:GoodX T y1:=by subst hy;exact ⟨hlt,by have:=hg.2.1;show x.vs.length≤x.i+1;omega,by have:=hg.2.2;show x.ms.length≤x.i+1;omega⟩
 by_cases h:K.1=0
 ·
  rw [if_pos h] at ey;subst ey;refine ⟨hg1.fail _ _,by rw [xfail_left,hy],by rw [xfail_i,hy],?_⟩;rw [wrd_bad (z:=x.ps) ht (by rw [ha,if_neg (by omega)])];exact ResX.err (fun _=>by rw [hy];exact h0) (fun q=>absurd h0 q)
 ·
  rw [if_neg h] at ey;subst ey;refine ⟨⟨by omega,by omega,by omega⟩,hl,hi,?_⟩;rw [wrd_good (z:=x.ps) ht hp (by rw [ha,if_pos (by omega)])];exact ⟨fun _=>⟨hY,hps,rfl,by omega⟩,fun q=>absurd h0 q⟩
end Go.Proofs.YtblkgjdhaibhgaaGreat
