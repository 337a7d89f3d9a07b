/-
  Lemmas and walks that the claim rests on, part 12 (packed by a program).
-/
import Derived.Test.YtblkgjdhaibhgaaGreatR11
import Derived.Test.YtblkgjdhaibhgaaGreatR9
import Derived.Deep.CutBlock
namespace Go.Proofs.YtblkgjdhaibhgaaGreat
open Go.RowKit
theorem xDelimiter_c (s:ByteArray) (w:World):Calls Tryz.prog 70 #[.string s] w fun e w'=>e=.returned (.bool (xdl (kx s)))∧w'=w:=by
 have HL:Hid (xdl (kx s)=(decide (s.size=1)&&isPn ((kx s).getD 0 0))):=by
  show _=_;unfold xdl;rw [kx_len]
  cases kx s <;> rfl
 obtain ⟨R,HR⟩:=nm (xdl (kx s));rw [HR.out] at HL ⊢;obtain ⟨n,Hn⟩:=nm s.size;rw [Hn.out] at HL
 by_cases h1:n=1
 ·
  have i1:=fun W=>run_at_str Hn.out (show 0<n by omega) W
  rw [show ((0:Nat):Int)=0 from rfl] at i1;obtain ⟨ch,Hch⟩:=nm ((kx s).getD 0 0);rw [Hch.out] at i1 HL;have CD:=Lib.hid (xIsDelim_c ch w);obtain ⟨b,Hb⟩:=nm (isPn ch);rw [Hb.out] at CD HL;subst h1
  have f0:(((s.size:Nat):Int)==1)=true:=by rw [Hn.out];rfl
  obtain rfl:R=b:=by rw [HL.out];rfl
  clear HL;go_enter Tryz.func70,Tryz.ntmps70
  go_wp2_with fail
  refine CD.out.mono ?_;rintro e w2 ⟨rfl,rfl⟩
  go_wp2_with fail
  go_ret;exact ⟨rfl,rfl⟩
 ·
  have f1:(((s.size:Nat):Int)==1)=false:=by rw [Hn.out];simp;omega
  obtain rfl:R=false:=by rw [HL.out];simp [h1]
  clear HL;go_enter Tryz.func70,Tryz.ntmps70
  go_wp2_with fail
  go_ret;exact ⟨rfl,rfl⟩
theorem ax_impl_all:axL.all (fun x=>match parseG (fun _=>none) (axTx x) with | .ok [r]=>implF r | _=>false)=true:=by decide +kernel
theorem ax_impl {s:Bs} {r:Rl} (h:axiomF s=some r):implF r=true:=by
 rw [axiomF_eq] at h
 split at h
 ·
  cases h
 ·
  rename_i x hx;have h1:=List.all_eq_true.1 ax_impl_all x (List.mem_of_find?_eq_some hx);obtain ⟨r2,h2,_⟩:=ax_parse (List.mem_of_find?_eq_some hx);rw [h2] at h h1
  injection h with h
  subst h;exact h1
def dupX (y:Xs) (Q:List Rl) (rl:Rl) (tp:Nat) (j:Nat):Xs:=if (Q.take j).any (fun q=>decide (q.name=rl.name)) then y.fail 4 tp else y
theorem dupX_zero {y:Xs} {Q:List Rl} {rl:Rl} {tp:Nat}:dupX y Q rl tp 0=y:=rfl
theorem dupX_succ {y:Xs} {Q:List Rl} {rl:Rl} {tp j:Nat} (h:j<Q.length):dupX y Q rl tp (j+1)=if decide (Q[j].name=rl.name) then (dupX y Q rl tp j).fail 4 tp else dupX y Q rl tp j:=by
 have e:Q.take (j+1)=Q.take j++[Q[j]]:=take_snoc' h;unfold dupX;rw [e,List.any_append]
 cases h1:(Q.take j).any (fun q=>decide (q.name=rl.name)) with
 | true =>
  rw [Bool.true_or];simp only [if_true]
  split
  ·
   by_cases h0:y.why=0
   ·
    exact (xfail_why (x:=y.fail 4 tp) (by rw [xfail_zero h0];show (4:Int)≠0;decide)).symm
   ·
    rw [xfail_why h0,xfail_why h0]
  ·
   rfl
 | false =>
  rw [Bool.false_or];simp [List.any_cons]
theorem dupX_good {T:List (Bs×Nat)} {y:Xs} {Q:List Rl} {rl:Rl} {tp j:Nat} (h:GoodX T y):GoodX T (dupX y Q rl tp j):=by
 unfold dupX
 split
 ·
  exact h.fail _ _
 ·
  exact h
set_option maxRecDepth 100000 in
set_option maxHeartbeats 8000000 in
theorem xparse_c (s:ByteArray) (w:World):Calls Tryz.prog 31 #[.string s] w (ParseP (parseF (kx s)) w):=by
 have HP:Hid (parseF (kx s)=if 20000<(kx s).length then .error (6,20000) else loopF (goodT (toksF (kx s))) (finT (toksF (kx s))) axiomF (kx s).length ((kx s).length+1) ⟨0,[],[]⟩ []):=rfl
 obtain ⟨R,HR⟩:=nm (parseF (kx s));rw [HR.out] at HP ⊢;obtain ⟨n,Hn⟩:=nm s.size;have hn:=Hn.out
 have hkn:(kx s).length=n:=by rw [kx_len,hn]
 rw [hkn] at HP;have hx0:Upd Non w (w.alloc (.cells #[.int .i64 0,.int .i64 0] 31)):=Upd.refl.alloc _;have hb0:Blk (w.alloc (.cells #[.int .i64 0,.int .i64 0] 31)) w.heap.size 31 #[.int .i64 0,.int .i64 0]:=Blk.new _ _ _
 by_cases hbig:20000<n
 ·
  have t0:decide ((20000:Int)<(n:Int))=true:=decide_eq_true (by omega)
  have HE:Hid (R=.error (6,20000)):=by show _=_;rw [HP.out,if_pos hbig]
  clear hbig hkn;go_enter Tryz.func31,Tryz.ntmps31
  go_wp2_with fail
  refine bodyPost_ret (results_tmp_cell rfl _ _ w.heap.size 31 _ (0,0) _ rfl (Blk.new _ _ _) Tryz.underlying31 rfl (by kernel_rfl)) rfl ?_;exact ⟨Upd.refl.alloc _,.inl ⟨_,HE.out,rfl⟩⟩
 ·
  have t0:decide ((20000:Int)<(n:Int))=false:=decide_eq_false (by omega)
  have HE:Hid (R=loopF (goodT (toksF (kx s))) (finT (toksF (kx s))) axiomF n (n+1) ⟨0,[],[]⟩ []):=by show _=_;rw [HP.out,if_neg hbig]
  have hn2:n≤20000:=by omega
  obtain ⟨W1,HW1⟩:=nm (w.alloc (.cells #[.int .i64 0,.int .i64 0] 31));have CT:=Lib.hid (xTokens_c s W1 (by omega));have e1:=HW1.out;rw [e1] at hx0 hb0
  have s1:W1.heap.size=w.heap.size+1:=by rw [←e1];simp
  have HB1:=Lib.hid hb0;have HU1:=Lib.hid hx0
  have HXO:Hid ((goodT (toksF (kx s))).length≤n→XOk (goodT (toksF (kx s)))):=fun q=>xok_toks (by omega) (by omega)
  have HPK:=Lib.hid (xpk_toks (kx s));rw [hkn] at HPK;obtain ⟨T,HT⟩:=nm (goodT (toksF (kx s)));obtain ⟨F,HF⟩:=nm (finT (toksF (kx s)));rw [HT.out] at HE HXO HPK CT;rw [HF.out] at HE CT;rw [hn] at CT;clear hbig hkn hx0 hb0 HP;go_enter Tryz.func31,Tryz.ntmps31
  go_wp2_with fail
  refine CT.out.mono ?_;rintro e w2 ⟨A,c,mm,rfl,hto,hat,hlen,hfin,hmm,u2⟩;have HXT:=Lib.hid (HXO.out hlen);have hTl:=HXT.out.len;obtain ⟨bd,Hbd⟩:=nm (decide (F<n))
  have tb:decide ((0:Int)≤mm)=bd:=by
   rw [←Hbd.out,hmm]
   split
   ·
    simp [*]
   ·
    simp [*]
  have HMM:Hid (bd=true→mm=(F:Int)):=fun q=>by
   rw [←Hbd.out,decide_eq_true_eq] at q;rw [hmm,if_pos q]
  have HFN:Hid (bd=false→F=n):=fun q=>by
   rw [←Hbd.out,decide_eq_false_iff_not] at q;show F=n;omega
  have hs2:=u2.size
  obtain ⟨W3,HW3⟩:=nm (w2.alloc (.cells #[.slice A T.length c,.int .i64 0,.int .i64 (n:Nat),.int .i64 0,.int .i64 0,.string ⟨#[]⟩,.string ⟨#[]⟩,.bool false] 88))
  have u3:Upd Non w2 W3:=by rw [←HW3.out];exact Upd.refl.alloc _
  have b3:Blk W3 w2.heap.size 88 (xcells A T.length c n ⟨0,0,0,[],[],false⟩):=by rw [←HW3.out];exact Blk.new _ _ _
  have hxd:XdS W3 w2.heap.size A c T n ⟨0,0,0,[],[],false⟩:=⟨b3,((xt_view hto).upd u3 (fun _ _ _ f=>f)).mono (fun k hk q=>Own.lt hto q),Own.le hto⟩
  have HS3:Hid (PxS w W3 w2.heap.size A c T n ⟨0,0,0,[],[],false⟩ none 0 []) :=
   ⟨hxd,(HB1.out.upd u2 (fun f=>f)).upd u3 (fun f=>f),RlO.none_,fun k q=>(At.none_ q).elim,by omega,(HU1.out.then_non u2).then_non u3⟩
  have HG:Hid (GoodX T ⟨0,0,0,[],[],false⟩):=⟨Nat.zero_le _,Nat.zero_le _,Nat.zero_le _⟩
  have HL:Hid (LpR T F axiomF n R (⟨0,0,0,[],[],false⟩:Xs).st [] (n+1)):=⟨fun _=>⟨by show T.length<n+1+0;omega,Nat.zero_le _,HE.out.symm⟩,fun q=>absurd rfl q⟩
  clear b3 u3 hxd u2 hat hto HB1 HU1 HE HXO e1 hmm hfin CT
  go_upto_region 5 with fail
  rw [HW3.out]
  go_upto_if 30 with fail
  go_cut [] (fun wx=>Hid (PxS w wx w2.heap.size A c T F ⟨0,0,0,[],[],false⟩ none 0 []))
  case first =>
   obtain ⟨c0,c1,c2,c3,c4,c5,c6,c7⟩:=HS3.out.xd.cells;have cf:=HS3.out.xd.blk.frozen;clear c0 c1 c3 c4 c5 c6 c7
   cases bd with
   | true =>
    have em:=HMM.out rfl;subst em;have hb:=HS3.out.xd.blk.set_ 2 (.int .i64 (F:Nat));have hu:Upd (·=w2.heap.size) W3 (W3.setCell ⟨w2.heap.size,2,none⟩ (.int .i64 (F:Nat))):=updCell _ _ _ _
    have HN:Hid (PxS w (W3.setCell ⟨w2.heap.size,2,none⟩ (.int .i64 (F:Nat))) w2.heap.size A c T F ⟨0,0,0,[],[],false⟩ none 0 []):=by
     have h:=HS3.out;have hlt:=h.lt
     exact ⟨⟨by simpa [xcells] using hb,h.xd.tok.upd hu (fun _ _ hk e=>Nat.ne_of_lt hk e),h.xd.le⟩,h.er.upd hu (by omega),h.out.upd hu (fun k q=>(At.none_ q).elim) (fun k _ q e=>by omega),h.oat,hlt,h.upd.trans hu (fun k hk e=>by omega)⟩
    clear hb hu
    go_wp2_with fail
    go_meet
    case rel=>exact HN
   | false =>
    have em:=HFN.out rfl
    go_wp2_with fail
    go_meet
    case rel=>rw [em];exact HS3
  case rest =>
   clear HS3 HMM HFN;have HS:=hcut;clear hcut
   go_wp2_with fail
   go_loopg [7,8,9,10,11,12,13,14] (n+1) (fun g o _ _ _ _ _ _ _ wr=>∃(fu:Nat) (y:Xs) (OA:Option Addr) (oc:Nat) (Q:List Rl),Hid (g=fu)∧o=.slice OA Q.length oc∧Hid (PxS w wr w2.heap.size A c T F y OA oc Q)∧Hid (GoodX T y)∧Hid (LpR T F axiomF n R y.st Q fu)∧Q.length≤161)
   case atStart=>exact ⟨_,_,none,0,[],rfl,rfl,HS,HG,HL,Nat.zero_le _⟩
   case round =>
    clear HS HG HL;obtain ⟨fu,y,OA,oc,Q,Hfu,rfl,HS,HG,HL,hQl⟩:=hrel;obtain ⟨z,Hz⟩:=nm (y.why==0);obtain ⟨dl,Hdl⟩:=nm (decide (y.i<T.length));obtain ⟨D,HD⟩:=nm (z&&(dl || bd))
    have HD0:Hid ((y.why==0&&decide (offF T F y.i<n))=D):=by
     show _=_;rw [off_lt HPK.out,Hz.out,Hdl.out,Hbd.out,HD.out]
    go_upto_region 8 with fail
    go_cut [53] (fun s wx=>s=.bool D∧wx=wr)
    case first =>
     obtain ⟨c0,c1,c2,c3,c4,c5,c6,c7⟩:=HS.out.xd.cells;have tz:=Hz.out;have tl:=Hdl.out;have hd:=HD.out;clear c0 c2 c4 c5 c6 c7 HS HG HL
     cases z with
     | false =>
      go_wp2_with fail
      go_meet
      case rel=>exact ⟨by rw [←hd];rfl,rfl⟩
     | true =>
      cases dl with
      | true =>
       go_wp2_with fail
       go_meet
       case rel=>exact ⟨by rw [←hd];rfl,rfl⟩
      | false =>
       go_wp2_with fail
       go_meet
       case rel=>exact ⟨by rw [←hd];rfl,rfl⟩
    case rest =>
     obtain ⟨rfl,rfl⟩:=hcut
     cases D with
     | false =>
      have hxx:=HL.out.exit HG.out.1 HD0.out;obtain ⟨yf,Hyf⟩:=nm y;obtain rfl:=Hyf.out;have HXX:Hid ((y.why=0→R=.ok Q)∧(y.why≠0→R=.error (y.why,y.ea))):=hxx;obtain ⟨yf,rfl⟩:∃v:Xs,v=y:=⟨_,rfl⟩;obtain ⟨wf,rfl⟩:∃v:World,v=wc:=⟨_,rfl⟩;clear hxx HL HG HD HD0 Hz Hdl Hyf;have her:=HS.out.er;have r0:=her.cell 0;have r1:=her.cell 1
      have rf:=her.frozen;obtain ⟨c0,c1,c2,c3,c4,c5,c6,c7⟩:=HS.out.xd.cells;obtain ⟨z,Hz⟩:=nm (yf.why==0);have hz:=Hz.out;clear c0 c1 c2 c5 c6 c7 her
      cases z with
      | true =>
       have H0:Hid (yf.why=0):=beq_iff_eq.1 hz
       go_wp2_with fail
       rw [setE2_eq];obtain ⟨f1,f2,f3,f4⟩:=HS.out.res (.int .i64 0) (.int .i64 0);refine bodyPost_ret (results_tmp_cell rfl _ _ w.heap.size 31 _ (0,0) _ rfl f1 Tryz.underlying31 rfl (by kernel_rfl)) rfl ?_;exact ⟨f2,.inr ⟨Q,OA,oc,HXX.out.1 H0.out,rfl,f4,HS.out.out.le⟩⟩
      | false =>
       have H0:Hid (yf.why≠0):=fun q=>by rw [q] at hz;cases hz
       go_upto_region 38 with fail
       obtain ⟨wD,HwD⟩:=nm wf.drew
       have uD:Upd Non wf wD:=by rw [←HwD.out];exact Upd.refl.drew
       have HS:=Lib.hid (HS.out.non uD);clear r0 r1 rf c3 c4;have hcs:=HS.out.xd.cells
       refine wp_region_held_drew (S:=fun w'=>w'.cell? ⟨w2.heap.size,3,none⟩=some (.int .i64 yf.why)∧w'.cell? ⟨w2.heap.size,4,none⟩=some (.int .i64 yf.ea)) (by kernel_rfl) (by rw [HwD.out];exact ⟨hcs.2.2.2.1,hcs.2.2.2.2.1⟩) (fun hHeld=>?_)
       rw [HwD.out] at hHeld ⊢;refine wpT 0 ?_
       try simp only [put_y,put_z]
       refine wpT 1 ?_
       try simp only [put_y,put_z]
       refine wpT 2 ?_
       try simp only [put_y,put_z]
       refine wpT 3 ?_
       try simp only [put_y,put_z]
       refine wpT 4 ?_
       try simp only [put_y,put_z]
       have her:=HS.out.er;have r0:=her.cell 0;have r1:=her.cell 1;have rf:=her.frozen;refine wpAnyH_ready (rs:=[5]) (by kernel_rfl) (by simp) ?_;refine AllReadyH.cons rfl (fun K hK=>?_) AllReadyH.nil;go_simp;rw [setE2_eq];have HF:=Lib.hid (HS.out.res (.int .i64 yf.why) (.int .i64 yf.ea));obtain ⟨W9,HW9⟩:=nm (setE2 wD w.heap.size (.int .i64 yf.why) (.int .i64 yf.ea))
       rw [HW9.out] at HF ⊢;refine hK.out _ _ ?_ (fun hHeld=>?_)
       ·
        exact ⟨HF.out.2.2.1.cell 3,HF.out.2.2.1.cell 4⟩
       clear hK K
       try simp only [put_y,put_z]
       refine wpAnyH_done (by kernel_rfl) ?_ _
       go_wp2_with fail
       refine bodyPost_ret (results_tmp_cell rfl _ _ w.heap.size 31 _ (0,0) _ rfl HF.out.1 Tryz.underlying31 rfl (by kernel_rfl)) rfl ?_;exact ⟨HF.out.2.1,.inl ⟨_,HXX.out.2 H0.out,rfl⟩⟩
     | true =>
      have hD:=HD0.out;simp only [Bool.and_eq_true,beq_iff_eq,decide_eq_true_eq] at hD;have H0:=Lib.hid hD.1;have HDT:=Lib.hid hD.2;obtain ⟨za,Hza⟩:=nm (decide (tkF T y.i=some [97,120,105,111,109]));obtain ⟨zr,Hzr⟩:=nm (decide (tkF T y.i=some [114,117,108,101]));have e0:(y.why==0)=true:=beq_iff_eq.2 H0.out;clear hD HD HD0 Hz Hdl
      have hQ2:Q.length≤160:=(HL.out.1 H0.out).2.1;obtain ⟨zn,Hzn⟩:=nm (!za&&!zr);have CA:=Lib.hid (xAt_c HS.out.xd [97,120,105,111,109]);rw [Hza.out,e0,Bool.true_and] at CA
      go_wp2_with fail
      refine CA.out.mono ?_;rintro e w5 ⟨rfl,u5⟩;have HS5:=Lib.hid (HS.out.non u5);clear u5 CA HS
      go_upto_region 10 with fail
      go_cut [62] (fun s wx=>s=.bool zn∧Hid (Upd Non w5 wx))
      case first =>
       have hzn:=Hzn.out
       cases za with
       | true =>
        go_wp2_with fail
        go_meet
        case rel=>exact ⟨by rw [←hzn];rfl,Upd.refl⟩
       | false =>
        have CB:=Lib.hid (xAt_c HS5.out.xd [114,117,108,101]);rw [Hzr.out,e0,Bool.true_and] at CB
        go_wp2_with fail
        refine CB.out.mono ?_;rintro e w6 ⟨rfl,u6⟩
        go_wp2_with fail
        go_meet
        case rel=>exact ⟨by rw [←hzn];rfl,u6⟩
      case rest =>
       obtain ⟨rfl,HU⟩:=hcut;have HS:=Lib.hid (HS5.out.non HU.out);clear HS5 HU
       cases zn with
       | true =>
        have hzz:za=false∧zr=false:=by
         have h:=Hzn.out
         cases za <;> cases zr <;> simp at h ⊢
        have h1:¬tkF T y.i=some [97,120,105,111,109]:=of_decide_eq_false (Hza.out.trans hzz.1);have h2:¬tkF T y.i=some [114,117,108,101]:=of_decide_eq_false (Hzr.out.trans hzz.2);obtain ⟨off,Hoff⟩:=nm (offF T F y.i)
        have hres:ResX y (y.fail 2 off) (itemF T F axiomF y.ps) (fun v=>v.2=0∧(true=true→v.1=some (⟨⟨#[]⟩,.mk 0 0 0 0 [],.mk 0 0 0 0 [],[],0,0⟩:Rl))∧(true=false→v.1=none)):=by
         rw [itemX_no h1 h2,xfail_zero H0.out];refine ⟨fun _=>⟨rfl,?_⟩,fun q=>absurd H0.out q⟩;show (off:Int)=_;rw [←Hoff.out];rfl
        have HRD:=(HL.out.item (xlok HXT.out) axiomF_sz HG.out.1 H0.out HDT.out (y':=(y.fail 2 off).st) hres).2.1
        have HXX:Hid (((y.fail 2 off).why=0→R=.ok Q)∧((y.fail 2 off).why≠0→R=.error ((y.fail 2 off).why,(y.fail 2 off).ea))) :=
         ⟨fun q=>absurd q (xfail_ne y (by decide)),HRD⟩
        have CO:=Lib.hid (xOffset_c HS.out.xd);rw [Hoff.out] at CO;clear hzz h1 h2 hres HRD HL HG Hzn
        go_wp2_with fail
        refine CO.out.mono ?_;rintro e w7 ⟨rfl,u7⟩;have HS7:=Lib.hid (HS.out.non u7);have CF:=Lib.hid (xFail_c HS7.out.xd 2 off);clear CO u7 HS
        go_wp2_with fail
        refine CF.out.mono ?_;rintro e wf ⟨rfl,h8,u8⟩;have hs8:=HS7.out.call h8 u8;obtain ⟨yf,Hyf⟩:=nm (y.fail 2 off);rw [Hyf.out] at hs8 HXX;have HS:=Lib.hid hs8;clear CF h8 u8 hs8 HS7 e0;have her:=HS.out.er;have r0:=her.cell 0;have r1:=her.cell 1;have rf:=her.frozen;obtain ⟨c0,c1,c2,c3,c4,c5,c6,c7⟩:=HS.out.xd.cells;obtain ⟨z,Hz⟩:=nm (yf.why==0)
        have hz:=Hz.out;clear c0 c1 c2 c5 c6 c7 her
        cases z with
        | true =>
         have H0:Hid (yf.why=0):=beq_iff_eq.1 hz
         go_wp2_with fail
         rw [setE2_eq];obtain ⟨f1,f2,f3,f4⟩:=HS.out.res (.int .i64 0) (.int .i64 0);refine bodyPost_ret (results_tmp_cell rfl _ _ w.heap.size 31 _ (0,0) _ rfl f1 Tryz.underlying31 rfl (by kernel_rfl)) rfl ?_;exact ⟨f2,.inr ⟨Q,OA,oc,HXX.out.1 H0.out,rfl,f4,HS.out.out.le⟩⟩
        | false =>
         have H0:Hid (yf.why≠0):=fun q=>by rw [q] at hz;cases hz
         go_upto_region 38 with fail
         obtain ⟨wD,HwD⟩:=nm wf.drew
         have uD:Upd Non wf wD:=by rw [←HwD.out];exact Upd.refl.drew
         have HS:=Lib.hid (HS.out.non uD);clear r0 r1 rf c3 c4;have hcs:=HS.out.xd.cells
         refine wp_region_held_drew (S:=fun w'=>w'.cell? ⟨w2.heap.size,3,none⟩=some (.int .i64 yf.why)∧w'.cell? ⟨w2.heap.size,4,none⟩=some (.int .i64 yf.ea)) (by kernel_rfl) (by rw [HwD.out];exact ⟨hcs.2.2.2.1,hcs.2.2.2.2.1⟩) (fun hHeld=>?_)
         rw [HwD.out] at hHeld ⊢;refine wpT 0 ?_
         try simp only [put_y,put_z]
         refine wpT 1 ?_
         try simp only [put_y,put_z]
         refine wpT 2 ?_
         try simp only [put_y,put_z]
         refine wpT 3 ?_
         try simp only [put_y,put_z]
         refine wpT 4 ?_
         try simp only [put_y,put_z]
         have her:=HS.out.er;have r0:=her.cell 0;have r1:=her.cell 1;have rf:=her.frozen;refine wpAnyH_ready (rs:=[5]) (by kernel_rfl) (by simp) ?_;refine AllReadyH.cons rfl (fun K hK=>?_) AllReadyH.nil;go_simp;rw [setE2_eq];have HF:=Lib.hid (HS.out.res (.int .i64 yf.why) (.int .i64 yf.ea));obtain ⟨W9,HW9⟩:=nm (setE2 wD w.heap.size (.int .i64 yf.why) (.int .i64 yf.ea))
         rw [HW9.out] at HF ⊢;refine hK.out _ _ ?_ (fun hHeld=>?_)
         ·
          exact ⟨HF.out.2.2.1.cell 3,HF.out.2.2.1.cell 4⟩
         clear hK K
         try simp only [put_y,put_z]
         refine wpAnyH_done (by kernel_rfl) ?_ _
         go_wp2_with fail
         refine bodyPost_ret (results_tmp_cell rfl _ _ w.heap.size 31 _ (0,0) _ rfl HF.out.1 Tryz.underlying31 rfl (by kernel_rfl)) rfl ?_;exact ⟨HF.out.2.1,.inl ⟨_,HXX.out.2 H0.out,rfl⟩⟩
       | false =>
        have hzz:za=true∨zr=true:=by
         have h:=Hzn.out
         cases za <;> cases zr <;> simp at h ⊢
        have hiT:y.i<T.length:=by
         rcases hzz with q | q
         ·
          exact xtk_lt (of_decide_eq_true (Hza.out.trans q))
         ·
          exact xtk_lt (of_decide_eq_true (Hzr.out.trans q))
        have HZZ:Hid (za=false→zr=true):=fun q=>by
         rcases hzz with r | r
         ·
          rw [r] at q;cases q
         ·
          exact r
        obtain ⟨c0,c1,c2,c3,c4,c5,c6,c7⟩:=HS.out.xd.cells;have cf:=HS.out.xd.blk.frozen;have hs6:=HS.out.call (HS.out.xd.setI (y.i+1)) (updCell _ _ _ _);have hg1:GoodX T { y with i:=y.i+1 }:=⟨hiT,Nat.le_succ_of_le HG.out.2.1,Nat.le_succ_of_le HG.out.2.2⟩;obtain ⟨i,Hi⟩:=nm y.i
        have hi20:i<20000:=by rw [←Hi.out];omega
        rw [Hi.out] at c1 hs6;rw [show (.int .i64 ((i+1:Nat):Int):Value)=.int .i64 ((i:Int)+1) from rfl] at hs6;obtain ⟨W6,HW6⟩:=nm (wc.setCell ⟨w2.heap.size,1,none⟩ (.int .i64 ((i:Int)+1)));have e6:=HW6.out;rw [e6,←Hi.out] at hs6;obtain ⟨y1,Hy1⟩:=nm ({ y with i:=y.i+1 }:Xs);rw [Hy1.out] at hs6 hg1;have HG1:=Lib.hid hg1;have HS6:=Lib.hid hs6
        have CO:=Lib.hid (xOffset_c HS6.out.xd);obtain ⟨tp,Htp⟩:=nm (offF T F y1.i);rw [Htp.out] at CO
        have HTP:Hid (offF T F (y.i+1)=tp):=by
         have h:=Htp.out;rw [←Hy1.out] at h;exact h
        clear hzz hiT c0 c2 c3 c4 c5 c6 c7 hs6 hg1 Hzn HS
        go_wp2_with fail
        refine CO.out.mono ?_;rintro e w7 ⟨rfl,u7⟩;have HS7:=Lib.hid (HS6.out.non u7)
        obtain ⟨W8,HW8⟩:=nm (w7.alloc (.cells #[.string ⟨#[]⟩,.int .i64 0,.int .i64 0,.int .i64 0,.int .i64 0,.slice none 0 0,.int .i64 0,.int .i64 0,.int .i64 0,.int .i64 0,.slice none 0 0,.slice none 0 0,.int .i64 0,.int .i64 0] 43))
        have u8:Upd Non w7 W8:=by rw [←HW8.out];exact Upd.refl.alloc _
        have HB8:Hid (Blk W8 w7.heap.size 43 z14):=by show Blk _ _ _ _;rw [←HW8.out];exact Blk.new _ _ _
        have hp7:w2.heap.size<w7.heap.size:=HS7.out.xd.blk.lt
        have ho7:∀k,At OA k→k<w7.heap.size:=fun k q=>HS7.out.out.lt q
        have HO7:=Lib.hid ho7;have HS8:=Lib.hid (HS7.out.pg.non u8);have hl8:w7.heap.size<W8.heap.size:=HB8.out.lt;clear c1 cf e6 HW6 CO u7 u8 ho7 HS6 HS7
        go_upto_region 15 with fail
        rw [HW8.out];clear HW8
        go_upto_if 76 with fail
        go_cut [] (fun wx=>∃(y5:Xs) (rl:Rl) (a:RlA),Hid (PxS w wx w2.heap.size A c T F y5 OA oc Q)∧Hid (Blk wx w7.heap.size 43 (rlCells rl a))∧Hid (RlK wx (fun k=>w7.heap.size<k) rl a)∧Hid (GoodX T y5)∧0<fu∧Hid (PndX T F axiomF n R y5 Q (fu - 1) rl tp))
        case first =>
         cases za with
         | false =>
          have HTK:Hid (tkF T y.i=some [114,117,108,101]):=by show _=_;exact of_decide_eq_true (Hzr.out.trans (HZZ.out rfl))
          have CR:=Lib.hid (xRule_c HXT.out HS8.out.xd HG1.out)
          go_wp2_with fail
          refine CR.out.mono ?_;rintro e w9 ⟨rl,a,yE,rfl,hrk,hxd9,hg9,hi9,u9,hsz9,hnm9,hres9⟩;have HS9:=Lib.hid (HS8.out.call hxd9 u9);have HRK9:=Lib.hid hrk;have b0:=HB8.out.upd u9 (by omega);have HB9:=Lib.hid b0;have HGE:=Lib.hid hg9;have HSZ:=Lib.hid hsz9;obtain ⟨dd,Hdd⟩:=nm (xdl (kx rl.name))
          obtain ⟨yR,HyR⟩:=nm (if dd then { yE with why:=2,ea:=(tp:Int) } else yE)
          have HRS:Hid (0<fu∧RndR T F axiomF n R yR.st Q (fu - 1) rl tp true):=by
           have h1:=itemX_ru (ax:=axiomF) (yR:=yR) HPK.out H0.out HTK.out Hy1.out.symm hnm9 hres9 (by rw [HTP.out,Hdd.out];exact HyR.out.symm);rw [HTP.out] at h1;exact HL.out.item (xlok HXT.out) axiomF_sz HG.out.1 H0.out HDT.out (y':=yR.st) h1
          have HGR:Hid (GoodX T yR):=by
           show GoodX T yR;rw [←HyR.out]
           cases dd
           ·
            exact hg9
           ·
            exact hg9
          unfold z14 at b0;have z0:=b0.cell 0;have z1:=b0.cell 1;have z2:=b0.cell 2;have z3:=b0.cell 3;have z4:=b0.cell 4;have z5:=b0.cell 5;have z6:=b0.cell 6;have z7:=b0.cell 7;have z8:=b0.cell 8;have z9:=b0.cell 9;have z10:=b0.cell 10;have z11:=b0.cell 11;have z12:=b0.cell 12;have z13:=b0.cell 13;have zf:=b0.frozen
          clear hrk hxd9 hg9 hi9 u9 hsz9 hnm9 hres9 b0 CR;unfold rlv rlCells
          go_upto_region 25 with fail
          rw [set14_eq]
          obtain ⟨W10,HW10⟩:=nm (set14 w9 w7.heap.size (.string rl.name) (.int .i64 rl.l.v) (.int .i64 rl.l.op) (.int .i64 rl.l.imm) (.int .i64 rl.l.iv) (.slice a.la rl.l.kids.length a.lc) (.int .i64 rl.r.v) (.int .i64 rl.r.op) (.int .i64 rl.r.imm) (.int .i64 rl.r.iv) (.slice a.ra rl.r.kids.length a.rc) (.slice a.ca rl.conds.length a.cc) (.int .i64 rl.vars) (.int .i64 rl.imms))
          rw [HW10.out]
          have u10:Upd (·=w7.heap.size) w9 W10:=by rw [←HW10.out];exact set14_upd _ _ _ _ _ _ _ _ _ _ _ _ _ _ _ _
          have b10:Blk W10 w7.heap.size 43 (rlCells rl a):=by rw [←HW10.out];exact set14_blk HB9.out _ _ _ _ _ _ _ _ _ _ _ _ _ _
          have HS10:=Lib.hid (HS9.out.set u10 (Nat.le_refl _));have HRK10:Hid (RlK W10 (fun k=>w7.heap.size<k) rl a):=(HRK9.out.upd u10 (fun k _ q e=>by omega)).mono (fun k _ q=>by omega);have HB10:=Lib.hid b10;clear z0 z1 z2 z3 z4 z5 z6 z7 z8 z9 z10 z11 z12 z13 zf u10 HW10 HS9 HRK9 HB9 HS8 HB8;unfold rlCells at b10;have k0:=b10.cell 0
          have CD:=Lib.hid (xDelimiter_c rl.name W10);rw [Hdd.out] at CD;clear b10
          go_wp2_with fail
          refine CD.out.mono ?_;rintro e w11 ⟨rfl,rfl⟩;clear CD k0
          go_upto_if 101 with fail
          go_cut [] (fun wx=>Hid (PxG w7.heap.size w wx w2.heap.size A c T F yR OA oc Q)∧Hid (Upd (·=w2.heap.size) w11 wx))
          case first =>
           have hyR:=HyR.out
           cases dd with
           | true =>
            obtain ⟨c0,c1,c2,c3,c4,c5,c6,c7⟩:=HS10.out.xd.cells;have cf:=HS10.out.xd.blk.frozen;have hx:=HS10.out.xd.err 2 tp;rw [if_pos rfl] at hyR;rw [hyR] at hx
            have hu:Upd (·=w2.heap.size) w11 ((w11.setCell ⟨w2.heap.size,3,none⟩ (.int .i64 2)).setCell ⟨w2.heap.size,4,none⟩ (.int .i64 (tp:Nat))):=(updCell _ _ 3 _).trans (updCell _ _ 4 _) (fun _ _ q=>q)
            have HN:=Lib.hid (HS10.out.call hx hu);have HU:=Lib.hid hu;clear hx hu c0 c1 c2 c5 c6 c7 hyR
            go_wp2_with fail
            go_meet
            case rel=>exact ⟨HN,HU⟩
           | false =>
            rw [if_neg (by decide)] at hyR;subst hyR
            go_wp2_with fail
            go_meet
            case rel=>exact ⟨HS10,Upd.refl⟩
          case rest =>
           obtain ⟨HS12,HU⟩:=hcut;have HB12:=Lib.hid (HB10.out.upd HU.out (by omega));have HRK12:=Lib.hid (HRK10.out.upd HU.out (fun k _ q e=>by omega));clear HS10 HB10 HRK10 HU;have CV:=Lib.hid (validRule_c rl a _ _ HRK12.out HSZ.out);unfold rlv rlCells at CV;obtain ⟨v,Hv⟩:=nm (refF rl);rw [Hv.out] at CV;have hbx:=HB12.out;unfold rlCells at hbx;have k0:=hbx.cell 0
           have k1:=hbx.cell 1;have k2:=hbx.cell 2;have k3:=hbx.cell 3;have k4:=hbx.cell 4;have k5:=hbx.cell 5;have k6:=hbx.cell 6;have k7:=hbx.cell 7;have k8:=hbx.cell 8;have k9:=hbx.cell 9;have k10:=hbx.cell 10;have k11:=hbx.cell 11;have k12:=hbx.cell 12;have k13:=hbx.cell 13;clear hbx
           go_wp2_with fail
           refine CV.out.mono ?_;rintro e w13 ⟨rfl,u13⟩;have HS13:=Lib.hid (HS12.out.non u13);have HB13:=Lib.hid (HB12.out.upd u13 (fun f=>f));have HRK13:=Lib.hid (HRK12.out.upd u13 (fun _ _ _ f=>f))
           have HVI:Hid (v=implF rl):=by show _=_;rw [imp_ref];exact Hv.out.symm
           clear CV u13 HS12 HB12 HRK12 k0 k1 k2 k3 k4 k5 k6 k7 k8 k9 k10 k11 k12 k13
           cases v with
           | true =>
            have HPN:Hid (PndX T F axiomF n R yR Q (fu - 1) rl tp):=PndX.of HRS.out.2 (v:=true) (fun _=>HVI.out) rfl (fun q=>by cases q) rfl
            go_wp2_with fail
            go_meet
            case rel=>exact ⟨yR,rl,a,HS13.out.px,HB13,HRK13,HGR,HRS.out.1,HPN⟩
           | false =>
            have HPN:Hid (PndX T F axiomF n R (yR.fail 1 tp) Q (fu - 1) rl tp):=PndX.of HRS.out.2 (v:=false) (fun _=>HVI.out) rfl (fun q=>by cases q) rfl;have CF:=Lib.hid (xFail_c HS13.out.xd 1 tp)
            go_wp2_with fail
            refine CF.out.mono ?_;rintro e w14 ⟨rfl,h14,u14⟩;have HS14:=Lib.hid (HS13.out.call h14 u14).px;have HB14:=Lib.hid (HB13.out.upd u14 (by omega));have HRK14:=Lib.hid (HRK13.out.upd u14 (fun k _ q e=>by omega));clear CF h14 u14
            go_wp2_with fail
            go_meet
            case rel=>exact ⟨_,rl,a,HS14,HB14,HRK14,HGR.out.fail _ _,HRS.out.1,HPN⟩
         | true =>
          have HTK:Hid (tkF T y.i=some [97,120,105,111,109]):=by show _=_;exact of_decide_eq_true Hza.out
          have CN:=Lib.hid (xNext_c HS8.out.xd (by have:=HG1.out.1;omega));have HNG:=Lib.hid (nxY_good (fin:=F) HG1.out);obtain ⟨sN,HsN⟩:=nm (nxS T y1);obtain ⟨y2,Hy2⟩:=nm (nxY T F y1);rw [HsN.out,Hy2.out] at CN;rw [Hy2.out] at HNG;obtain ⟨dd,Hdd⟩:=nm (xdl sN);obtain ⟨y3,Hy3⟩:=nm (if dd then y2.fail 2 tp else y2)
          have HG3:Hid (GoodX T y3):=by
           show GoodX T y3;rw [←Hy3.out]
           cases dd
           ·
            exact HNG.out.1
           ·
            exact HNG.out.1.fail _ _
          go_wp2_with fail
          refine CN.out.mono ?_;rintro e w9 ⟨rfl,h9,u9⟩;have HS9:=Lib.hid (HS8.out.call h9 u9);have HB9:=Lib.hid (HB8.out.upd u9 (by omega));have hl9:=u9.size;have CD:=Lib.hid (xDelimiter_c (kstr sN) w9);rw [kx_kstr,Hdd.out] at CD;clear h9 u9 CN HS8 HB8
          go_wp2_with fail
          refine CD.out.mono ?_;rintro e w10 ⟨rfl,rfl⟩;clear CD
          go_upto_if 80 with fail
          go_cut [] (fun wx=>Hid (PxG w7.heap.size w wx w2.heap.size A c T F y3 OA oc Q)∧Hid (Upd (·=w2.heap.size) w10 wx))
          case first =>
           have hy3:=Hy3.out
           cases dd with
           | true =>
            rw [if_pos rfl] at hy3;have CF:=Lib.hid (xFail_c HS9.out.xd 2 tp);rw [hy3] at CF;clear hy3
            go_wp2_with fail
            refine CF.out.mono ?_;rintro e w11 ⟨rfl,h11,u11⟩;have HN:=Lib.hid (HS9.out.call h11 u11);have HU:=Lib.hid u11;clear CF h11 u11
            go_wp2_with fail
            go_meet
            case rel=>exact ⟨HN,HU⟩
           | false =>
            rw [if_neg (by decide)] at hy3;subst hy3
            go_wp2_with fail
            go_meet
            case rel=>exact ⟨HS9,Upd.refl⟩
          case rest =>
           obtain ⟨HS12,HU⟩:=hcut;have HB12:=Lib.hid (HB9.out.upd HU.out (by omega));have hl12:=HU.out.size;clear HS9 HB9 HU;have CE:=Lib.hid (xExpect_c HS12.out.xd [59] (by have:=HG3.out.1;omega));have HG4:Hid (GoodX T (exY T F [59] y3)):=exY_good HG3.out
           go_wp2_with fail
           refine CE.out.mono ?_;rintro e w13 ⟨rfl,h13,u13⟩;have HS13:=Lib.hid (HS12.out.call h13 u13);have HB13:=Lib.hid (HB12.out.upd u13 (by omega));have hl13:=u13.size;have CX:=Lib.hid (xAxiom_c sN w13);clear CE h13 u13 HS12 HB12
           go_wp2_with fail
           refine CX.out.mono ?_;rintro e w14 ⟨rl,a,b,rfl,hrk,u14,hb1,hb2⟩;have HS14:=Lib.hid (HS13.out.non u14);have HB14:=Lib.hid (HB13.out.upd u14 (fun f=>f));have hl14:=u14.size;have hw13:w7.heap.size<w13.heap.size:=HB13.out.lt;obtain ⟨W15,HW15⟩:=nm (w14.alloc (.cells (rlCells rl a) 43))
           have u15:Upd Non w14 W15:=by rw [←HW15.out];exact Upd.refl.alloc _
           have b15:Blk W15 w14.heap.size 43 (rlCells rl a):=by rw [←HW15.out];exact Blk.new _ _ _
           have HS15:=Lib.hid (HS14.out.non u15);have HB15:=Lib.hid (HB14.out.upd u15 (fun f=>f));have HQ15:=Lib.hid b15;have HRK15:Hid (RlK W15 (fun k=>w7.heap.size<k) rl a):=(hrk.upd u15 (fun _ _ _ f=>f)).mono (fun k _ q=>by omega);obtain ⟨y4,Hy4⟩:=nm (exY T F [59] y3)
           have HRS:Hid (0<fu∧RndR T F axiomF n R y4.st Q (fu - 1) rl tp b):=by
            have h1:=itemX_ax (ax:=axiomF) (b:=b) (rl:=rl) HPK.out H0.out HTK.out Hy1.out.symm HsN.out Hy2.out (y3:=y3) (by rw [HTP.out,Hdd.out];exact Hy3.out.symm) ⟨hb1,hb2⟩
            rw [HTP.out,Hy4.out] at h1;exact HL.out.item (xlok HXT.out) axiomF_sz HG.out.1 H0.out HDT.out (y':=y4.st) h1
           have HVI:Hid (b=true→b=implF rl):=fun q=>by rw [q,ax_impl (hb1 q)]
           rw [Hy4.out] at HS15 HG4;clear CX hrk u14 hb1 hb2 u15 b15 HS13 HB13 HS14 HB14;unfold rlv rlCells;unfold rlCells at HW15
           go_upto_region 21 with fail
           rw [show w14.alloc _=W15 from HW15.out];clear HW15;obtain ⟨y5,Hy5⟩:=nm (if b then y4 else y4.fail (if b then 1 else 3) tp);have HPN:Hid (PndX T F axiomF n R y5 Q (fu - 1) rl tp):=PndX.of HRS.out.2 (v:=b) HVI.out rfl (fun q=>q) Hy5.out.symm
           have HG5:Hid (GoodX T y5):=by
            show GoodX T y5;rw [←Hy5.out]
            cases b
            ·
             exact HG4.out.fail _ _
            ·
             exact HG4.out
           go_upto_if 92 with fail
           go_cut [] (fun wx=>Hid (PxG w7.heap.size w wx w2.heap.size A c T F y5 OA oc Q)∧Hid (Upd (·=w2.heap.size) W15 wx))
           case first =>
            have hy5:=Hy5.out
            cases b with
            | true =>
             rw [if_pos rfl] at hy5;subst hy5
             go_wp2_with fail
             go_meet
             case rel=>exact ⟨HS15,Upd.refl⟩
            | false =>
             rw [if_neg (by decide),if_neg (by decide)] at hy5;have CF:=Lib.hid (xFail_c HS15.out.xd 3 tp);rw [hy5] at CF;clear hy5
             go_wp2_with fail
             refine CF.out.mono ?_;rintro e w16 ⟨rfl,h16,u16⟩;have HN:=Lib.hid (HS15.out.call h16 u16);have HU:=Lib.hid u16;clear CF h16 u16
             go_wp2_with fail
             go_meet
             case rel=>exact ⟨HN,HU⟩
           case rest =>
            obtain ⟨HS17,HU⟩:=hcut;have HB17:=Lib.hid (HB15.out.upd HU.out (by omega));have HQ17:=Lib.hid (HQ15.out.upd HU.out (by omega));have HRK17:=Lib.hid (HRK15.out.upd HU.out (fun k _ q e=>by omega));clear HS15 HB15 HQ15 HRK15 HU;have hbx:=HQ17.out;unfold rlCells at hbx;have k0:=hbx.cell 0;have k1:=hbx.cell 1;have k2:=hbx.cell 2;have k3:=hbx.cell 3
            have k4:=hbx.cell 4;have k5:=hbx.cell 5;have k6:=hbx.cell 6;have k7:=hbx.cell 7;have k8:=hbx.cell 8;have k9:=hbx.cell 9;have k10:=hbx.cell 10;have k11:=hbx.cell 11;have k12:=hbx.cell 12;have k13:=hbx.cell 13;have b0:=HB17.out;unfold z14 at b0;have z0:=b0.cell 0;have z1:=b0.cell 1;have z2:=b0.cell 2;have z3:=b0.cell 3;have z4:=b0.cell 4
            have z5:=b0.cell 5;have z6:=b0.cell 6;have z7:=b0.cell 7;have z8:=b0.cell 8;have z9:=b0.cell 9;have z10:=b0.cell 10;have z11:=b0.cell 11;have z12:=b0.cell 12;have z13:=b0.cell 13;have zf:=b0.frozen;obtain ⟨w17,rfl⟩:∃v:World,v=wc:=⟨_,rfl⟩
            obtain ⟨W18,HW18⟩:=nm (set14 w17 w7.heap.size (.string rl.name) (.int .i64 rl.l.v) (.int .i64 rl.l.op) (.int .i64 rl.l.imm) (.int .i64 rl.l.iv) (.slice a.la rl.l.kids.length a.lc) (.int .i64 rl.r.v) (.int .i64 rl.r.op) (.int .i64 rl.r.imm) (.int .i64 rl.r.iv) (.slice a.ra rl.r.kids.length a.rc) (.slice a.ca rl.conds.length a.cc) (.int .i64 rl.vars) (.int .i64 rl.imms))
            have u18:Upd (·=w7.heap.size) w17 W18:=by rw [←HW18.out];exact set14_upd _ _ _ _ _ _ _ _ _ _ _ _ _ _ _ _
            have b18:Blk W18 w7.heap.size 43 (rlCells rl a):=by rw [←HW18.out];exact set14_blk HB17.out _ _ _ _ _ _ _ _ _ _ _ _ _ _
            have HS18:=Lib.hid (HS17.out.set u18 (Nat.le_refl _)).px;have HRK18:=Lib.hid (HRK17.out.upd u18 (fun k _ q e=>by omega));have HB18:=Lib.hid b18;clear hbx b0 u18 b18
            go_wp2_with fail
            rw [set14_eq,HW18.out];go_meet
            case rel=>exact ⟨y5,rl,a,HS18,HB18,HRK18,HG5,HRS.out.1,HPN⟩
        case rest =>
         obtain ⟨y5,rl,a,HS5,HB5,HRK5,HG5,hfu,HPN⟩:=hcut;obtain ⟨wt,rfl⟩:∃v:World,v=wc:=⟨_,rfl⟩;clear HS8 HB8 HG1 HL HG H0 HDT Hza Hzr HZZ Hy1 Htp HTP e0
         go_wp2_with fail
         go_loopg [14] Q.length (fun g iv wr=>∃j:Nat,Hid (g=Q.length - j)∧j≤Q.length∧iv=.int .i64 j∧Hid (PxS w wr w2.heap.size A c T F (dupX y5 Q rl tp j) OA oc Q)∧Hid (Upd (·=w2.heap.size) wt wr))
         case atStart=>exact ⟨0,rfl,Nat.zero_le _,rfl,by rw [dupX_zero];exact HS5,Upd.refl⟩
         case round =>
          obtain ⟨j,Hg,hj,rfl,HS,HU⟩:=hrel
          by_cases hlt:j<Q.length
          ·
           have hv:RlsV wr (fun _=>True) OA Q:=HS.out.out.view (fun _ _=>trivial) (fun _ _ _=>trivial);obtain ⟨b,o,a',hOA,_,hb,hat,_⟩:=hv.at_ hlt;subst hOA;unfold RlAt at hat;have x0:=hat.1;have b5:=HB5.out.upd HU.out (by omega);unfold rlCells at b5;have k0:=b5.cell 0
           have HDS:Hid (dupX y5 Q rl tp (j+1)=if decide (Q[j].name=rl.name) then (dupX y5 Q rl tp j).fail 4 tp else dupX y5 Q rl tp j):=dupX_succ hlt;obtain ⟨na,Hna⟩:=nm Q[j].name;obtain ⟨nb,Hnb⟩:=nm rl.name;rw [Hna.out] at x0 HDS;rw [Hnb.out] at HDS
           have k0:wr.cell? ⟨w7.heap.size,0,none⟩=some (.string nb):=by rw [←Hnb.out];exact k0
           obtain ⟨wD,HwD⟩:=nm wr.drew
           have uD:Upd Non wr wD:=by rw [←HwD.out];exact Upd.refl.drew
           have HSD:=Lib.hid (HS.out.non uD);have HUD:=Lib.hid (HU.out.then_non uD);have d0:=cell_upd x0 uD (fun f=>f);have d1:=cell_upd k0 uD (fun f=>f);obtain ⟨yj,Hyj⟩:=nm (dupX y5 Q rl tp j);rw [Hyj.out] at HSD HDS;clear hv hat b5 x0 uD HS HU
           go_upto_region 32 with fail
           clear k0;obtain ⟨d,Hd⟩:=nm (na.toList==nb.toList);have hd:=Hd.out
           refine wp_region_held_drew (S:=fun w'=>w'.cell? ⟨b,o+j * 14,none⟩=some (.string na)∧w'.cell? ⟨w7.heap.size,0,none⟩=some (.string nb)) (by kernel_rfl) (by rw [HwD.out];exact ⟨d0,d1⟩) (fun hHeld=>?_)
           rw [HwD.out] at hHeld ⊢;refine wpT 0 ?_
           try simp only [put_y,put_z]
           refine wpT 1 ?_
           try simp only [put_y,put_z]
           refine wpT 2 ?_
           try simp only [put_y,put_z]
           refine wpT 3 ?_
           try simp only [put_y,put_z]
           refine wpT 4 ?_
           try simp only [put_y,put_z]
           refine wpT 5 ?_
           try simp only [put_y,put_z]
           refine wpT 6 ?_
           try simp only [put_y,put_z]
           refine wpT 7 ?_
           try simp only [put_y,put_z]
           refine wpAnyH_done (by kernel_rfl) ?_ _;clear d0 d1 hHeld;clear hd
           cases d with
           | true =>
            have hq:na=nb:=by
             have q:=beq_iff_eq.1 Hd.out;rw [ByteArray.toList_eq,ByteArray.toList_eq] at q
             cases na;cases nb;simpa using q
            have HYN:Hid (dupX y5 Q rl tp (j+1)=yj.fail 4 tp):=by
             show _=_;rw [HDS.out,if_pos (decide_eq_true hq)]
            have CF:=Lib.hid (xFail_c HSD.out.xd 4 tp);clear hq
            go_wp2_with fail
            refine CF.out.mono ?_;rintro e w9 ⟨rfl,h9,u9⟩;have HS9:=Lib.hid (HSD.out.call h9 u9);have HU9:=Lib.hid (HUD.out.trans u9 (fun _ _ q=>q));clear CF h9 u9
            go_wp2_with fail
            go_roundg (Q.length - (j+1))
            case measure=>rw [Hg.out];omega
            case rel=>exact ⟨j+1,rfl,by omega,by go_num,by rw [HYN.out];exact HS9,HU9⟩
           | false =>
            have hq:¬na=nb:=fun q=>by
             have h:=Hd.out;rw [q] at h;simp at h
            have HYN:Hid (dupX y5 Q rl tp (j+1)=yj):=by
             show _=_;rw [HDS.out,if_neg (by simpa using hq)]
            clear hq
            go_wp2_with fail
            go_roundg (Q.length - (j+1))
            case measure=>rw [Hg.out];omega
            case rel=>exact ⟨j+1,rfl,by omega,by go_num,by rw [HYN.out];exact HSD,HUD⟩
          ·
           obtain rfl:j=Q.length:=by omega
           have HB6:=Lib.hid (HB5.out.upd HU.out (by omega));have HRK6:=Lib.hid (HRK5.out.upd HU.out (fun k _ q e=>by omega));obtain ⟨y6,Hy6⟩:=nm (dupX y5 Q rl tp Q.length)
           have H6:Hid (y6=if Q.any (fun q=>decide (q.name=rl.name)) then y5.fail 4 tp else y5):=by
            show _=_;rw [←Hy6.out];unfold dupX;rw [List.take_length]
           have HG6:Hid (GoodX T y6):=by show GoodX T y6;rw [←Hy6.out];exact dupX_good HG5.out
           rw [Hy6.out] at HS;obtain ⟨q160,Hq⟩:=nm (decide (160≤Q.length))
           have t1:decide ((160:Int)≤(Q.length:Int))=q160:=by rw [←Hq.out];congr 1;exact propext (by omega)
           have t2:=Hq.out;obtain ⟨y7,Hy7⟩:=nm (if q160 then y6.fail 6 tp else y6);have HLN:Hid (LpR T F axiomF n R y7.st (Q++[rl]) (fu - 1)):=HPN.out.done (.inl hQ2) H6.out (by rw [←Hy7.out,←Hq.out];simp)
           have HG7:Hid (GoodX T y7):=by
            show GoodX T y7;rw [←Hy7.out]
            cases q160
            ·
             exact HG6.out
            ·
             exact HG6.out.fail _ _
           obtain ⟨w6,rfl⟩:∃v:World,v=wr:=⟨_,rfl⟩;clear HS5 HB5 HRK5 HPN HU Hg hj
           go_upto_if 132 with fail
           go_cut [] (fun wx=>Hid (PxS w wx w2.heap.size A c T F y7 OA oc Q)∧Hid (Upd (·=w2.heap.size) w6 wx))
           case first =>
            have hy7:=Hy7.out
            cases q160 with
            | true =>
             rw [if_pos rfl] at hy7;have CF:=Lib.hid (xFail_c HS.out.xd 6 tp);rw [hy7] at CF;clear hy7
             go_wp2_with fail
             refine CF.out.mono ?_;rintro e w9 ⟨rfl,h9,u9⟩;have HN:=Lib.hid (HS.out.call h9 u9);have HU:=Lib.hid u9;clear CF h9 u9
             go_wp2_with fail
             go_meet
             case rel=>exact ⟨HN,HU⟩
            | false =>
             rw [if_neg (by decide)] at hy7;subst hy7
             go_wp2_with fail
             go_meet
             case rel=>exact ⟨HS,Upd.refl⟩
           case rest =>
            obtain ⟨HS7,HU⟩:=hcut;have hbx:=HB6.out.upd HU.out (by omega);have HRK7:=Lib.hid ((HRK6.out.upd HU.out (fun k _ q e=>by omega)).mono (G:=fun k=>w7.heap.size≤k) (fun k _ q=>Nat.le_of_lt q));unfold rlCells at hbx;obtain ⟨_,cs,hown,hcells⟩:=id HS7.out.out;have HCS:Hid (RsCells wc (fun k=>w2.heap.size<k∧¬At OA k) cs Q):=hcells
            have z0:=hbx.cell 0;have z1:=hbx.cell 1;have z2:=hbx.cell 2;have z3:=hbx.cell 3;have z4:=hbx.cell 4;have z5:=hbx.cell 5;have z6:=hbx.cell 6;have z7:=hbx.cell 7;have z8:=hbx.cell 8;have z9:=hbx.cell 9;have z10:=hbx.cell 10;have z11:=hbx.cell 11;have z12:=hbx.cell 12;have z13:=hbx.cell 13;clear hcells hbx HS HB6 HRK6 HU t1 t2
            go_wp2_with (at_builtin;refine wpList_app rfl rfl T_rules rfl (hown.alloc _) rfl (Sl.new _ _ _) rfl (by simp [Value.oneCell']) (by simp only [maxLen];omega) (by omega) ?_;intro A4 c4 w4 ho4 hu4 hat4)
            have HN:Hid (PxS w w4 w2.heap.size A c T F y7 A4 c4 (Q++[rl])):=HS7.out.app HRK7.out hp7 HO7.out HCS.out (Upd.refl.alloc _) ho4 hu4 hat4;clear z0 z1 z2 z3 z4 z5 z6 z7 z8 z9 z10 z11 z12 z13 ho4 hu4 hat4 HCS hown
            go_roundg (fu - 1)
            case measure=>rw [Hfu.out];omega
            case rel=>exact ⟨fu - 1,y7,A4,c4,Q++[rl],rfl,by rw [List.length_append];rfl,HN,HG7,HLN,by rw [List.length_append,List.length_singleton];omega⟩
end Go.Proofs.YtblkgjdhaibhgaaGreat
