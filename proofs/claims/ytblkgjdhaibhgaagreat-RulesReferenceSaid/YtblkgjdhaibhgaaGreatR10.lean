/-
  Lemmas and walks that the claim rests on, part 10 (packed by a program).
-/
import Derived.Test.YtblkgjdhaibhgaaGreatR9
import Derived.Test.YtblkgjdhaibhgaaGreatR5
import Derived.Test.YtblkgjdhaibhgaaGreatR6
namespace Go.Proofs.YtblkgjdhaibhgaaGreat
open Go.RowKit
def XTermP (w:World) (p:Nat) (A:Option Addr) (c:Nat) (T:List (Bs×Nat)) (fin:Nat) (x:Xs) (r:Except Er (Pt×PS)) (e:Ending) (w':World):Prop :=
 ∃(q:Pt) (KA:Option Addr) (kc:Nat) (y:Xs),e=.returned (pv q KA kc)∧PtK w' (fun k=>w.heap.size≤k) q KA kc∧XdS w' p A c T fin y∧GoodX T y∧y.left=x.left∧x.i≤y.i∧q.size+x.i≤y.i+1∧Upd (·=p) w w'∧ResX x y r (fun v=>v=q∧q.size+x.i≤y.i)
structure XAp (w0 w:World) (g p:Nat) (A:Option Addr) (c:Nat) (T:List (Bs×Nat)) (fin:Nat) (y:Xs) (pc:Array Value):Prop where
 xd:XdS w p A c T fin y
 res:Blk w w0.heap.size 40 (p0 (.mk 0 0 0 0 []))
 pat:Blk w g 40 pc
 lt:w0.heap.size<g
 plt:p<w0.heap.size
 upd:Upd (·=p) w0 w
section
variable {w0 w w':World} {g p:Nat} {A:Option Addr} {c:Nat} {T:List (Bs×Nat)} {fin:Nat} {y y':Xs} {pc pc':Array Value} {S:Nat→Prop}
theorem XAp.non (h:XAp w0 w g p A c T fin y pc) (u:Upd Non w w'):XAp w0 w' g p A c T fin y pc :=
 ⟨h.xd.non u,h.res.upd u (fun f=>f),h.pat.upd u (fun f=>f),h.lt,h.plt,h.upd.then_non u⟩
theorem XAp.call (h:XAp w0 w g p A c T fin y pc) (hr:XdS w' p A c T fin y') (u:Upd (·=p) w w'):XAp w0 w' g p A c T fin y' pc :=
 ⟨hr,h.res.upd u (by have:=h.plt;omega),h.pat.upd u (by have:=h.plt;have:=h.lt;omega),h.lt,h.plt,h.upd.trans u (fun _ _ e=>e)⟩
theorem XAp.far (h:XAp w0 w g p A c T fin y pc) (u:Upd S w w') (hS:∀k,S k→g<k):XAp w0 w' g p A c T fin y pc :=
 ⟨h.xd.upd u (fun k _ s=>by have:=hS k s;have:=h.lt;have:=h.plt;omega),h.res.upd u (fun s=>by have:=hS _ s;have:=h.lt;omega),h.pat.upd u (fun s=>by have:=hS _ s;omega),h.lt,h.plt,h.upd.trans u (fun k hk s=>by have:=hS k s;have:=h.lt;omega)⟩
theorem XAp.setPat (h:XAp w0 w g p A c T fin y pc) (u:Upd (·=g) w w') (hb:Blk w' g 40 pc'):XAp w0 w' g p A c T fin y pc' :=
 ⟨h.xd.upd u (fun k _ s=>by have:=h.lt;have:=h.plt;omega),h.res.upd u (by have:=h.lt;omega),hb,h.lt,h.plt,h.upd.trans u (fun k hk s=>by have:=h.lt;omega)⟩
end
set_option maxRecDepth 100000 in
set_option maxHeartbeats 4000000 in
theorem xTerm_c {T:List (Bs×Nat)} {fin:Nat} (hT:XOk T) (left:Bool) (f:Nat)
  (HT:Hid (∀{w:World} {p:Nat} {A:Option Addr} {c:Nat} {x:Xs},XdS w p A c T fin x→GoodX T x→x.left=left→x.why=0→T.length<x.i+f→Calls Tryz.prog 83 #[.pointer (some ⟨p,0,none⟩)] w (XTermP w p A c T fin x (termF T fin left f x.ps))))
  {w:World} {p:Nat} {A:Option Addr} {c:Nat} {x:Xs} (h:XdS w p A c T fin x) (hx:GoodX T x) (hl:x.left=left) (hf:x.why=0→T.length<x.i+(f+1)) :
  Calls Tryz.prog 83 #[.pointer (some ⟨p,0,none⟩)] w (XTermP w p A c T fin x (termF T fin left (f+1) x.ps)):=by
 have HS:Hid (termF T fin left (f+1) x.ps=if tkF T x.i=some [40] then appF T fin left f { x.ps with i:=x.i+1 } else wrdF T fin (atomF left) x.ps):=rfl
 obtain ⟨r,Hr⟩:=nm (termF T fin left (f+1) x.ps);rw [Hr.out] at HS ⊢;have hTl:=hT.len;have hxi:=hx.1;obtain ⟨W1,HW1⟩:=nm (w.alloc (.cells #[.int .i64 0,.int .i64 0,.int .i64 0,.int .i64 0,.slice none 0 0] 40))
 have u1:Upd Non w W1:=by rw [←HW1.out];exact Upd.refl.alloc _
 have b1:Blk W1 w.heap.size 40 (p0 (.mk 0 0 0 0 [])):=by rw [←HW1.out];exact Blk.new _ _ _
 have e1:=HW1.out;have hpw:p<w.heap.size:=h.blk.lt;have CO:=Lib.hid (xOffset_c (h.non u1));have CN:=Lib.hid (fun W (u:Upd Non W1 W)=>xNext_c ((h.non u1).non u) (by omega));have HX:=Lib.hid hx;have HB1:=Lib.hid b1;have HU1:=Lib.hid u1;have HXT:=Lib.hid hT;have HNG:=Lib.hid (nxY_good (fin:=fin) hx)
 have HNN:Hid (¬(x.why=0∧x.i<T.length)→nxS T x=[]∧nxY T fin x=x.fail 2 (offF T fin x.i)):=nx_none
 have HNS:Hid (∀s,x.why=0→tkF T x.i=some s→nxS T x=s∧nxY T fin x={ x with i:=x.i+1 }∧x.i<T.length):=fun s=>nx_some
 have hsl:(nxS T x).length≤20000:=by
  by_cases q:x.why=0∧x.i<T.length
  ·
   obtain ⟨s,hs⟩:=tk_some q.2;rw [(nx_some (fin:=fin) q.1 hs).1];exact (hT.tk hs).2
  ·
   rw [(nx_none (fin:=fin) q).1];simp
 obtain ⟨off,Hoff⟩:=nm (offF T fin x.i);obtain ⟨s,Hs⟩:=nm (nxS T x);obtain ⟨y1,Hy1⟩:=nm (nxY T fin x);rw [Hs.out] at hsl HNN HNS;rw [Hs.out] at CN;rw [Hy1.out] at CN HNG HNN HNS;rw [Hoff.out] at CO HNN
 have HTK:Hid (s≠[]→x.why=0∧tkF T x.i=some s∧y1={ x with i:=x.i+1 }∧x.i<T.length):=fun hne=>by
  by_cases q:x.why=0∧x.i<T.length
  ·
   obtain ⟨t,ht⟩:=tk_some q.2;obtain ⟨e1,e2,e3⟩:=HNS.out t q.1 ht;subst e1;exact ⟨q.1,ht,e2,e3⟩
  ·
   exact absurd (HNN.out q).1 hne
 have CP:=Lib.hid (fun W=>r1Parse_c s W (by omega));obtain ⟨m,Hm⟩:=nm s.length
 have hqz:(kstr s).size=m:=by rw [kstr_size,Hm.out]
 obtain ⟨qs,Hqs⟩:=nm (kstr s);rw [Hqs.out] at CN CP hqz;clear h hx HW1 u1 b1 hT
 cases hd:decF s with
 | some n =>
  obtain ⟨k1,k2,k3,k4⟩:=HTK.out (fun q=>by rw [q] at hd;cases hd)
  have HR:Hid (r=.ok (.mk 0 1 n 0 [],{ x.ps with i:=x.i+1 })):=by
   show _=_;rw [HS.out,if_neg (fun q=>by rw [k2] at q;injection q with q;rw [q] at hd;cases hd)];exact wrd_good (z:=x.ps) k2 (dec_pn hd) (atom_dec hd)
  have HY:Hid (y1={ x with i:=x.i+1 }):=k3;rw [hd] at CP;simp only [Option.getD_some,Option.isSome_some] at CP;have hw0:=k1;clear HS HNN HNS HTK hd k1 k2 k3 HT hf;go_enter Tryz.func83,Tryz.ntmps83
  go_wp2_with fail
  refine CO.out.mono ?_;rintro e w2 ⟨rfl,u2⟩;have CN2:=Lib.hid (CN.out _ u2)
  go_wp2_with fail
  refine CN2.out.mono ?_;rintro e w3 ⟨rfl,h3,u3⟩;have H3:=Lib.hid h3;have U3:Hid (Upd (·=p) w w3):=(upd_eq (HU1.out.then_non u2)).trans u3 (fun _ _ e=>e);have HB3:=Lib.hid ((HB1.out.upd u2 (fun f=>f)).upd u3 (by omega));clear CO CN CN2 h3 u2 u3 e1
  go_wp2_with fail
  refine (CP.out w3).mono ?_;rintro e w4 ⟨rfl,rfl⟩;clear CP;obtain ⟨w9,rfl⟩:∃v:World,v=w4:=⟨_,rfl⟩;have HB9:=HB3;unfold p0 at HB9;have b9:=HB9.out;have rc0:=b9.cell 0;have rc1:=b9.cell 1;have rc2:=b9.cell 2;have rc3:=b9.cell 3;have rc4:=b9.cell 4;have rcf:=b9.frozen;clear b9
  go_wp2_with fail
  rw [set5_eq];have us:=set5_upd w9 w.heap.size;refine bodyPost_ret (results_cell_row rfl _ _ w.heap.size 40 _ (0,0) _ rfl (set5_blk HB9.out _ _ _ _ _) Tryz.underlying40 rfl (by kernel_rfl)) rfl ?_
  refine ⟨.mk 0 1 n 0 [],none,0,y1,rfl,PtK.leaf,H3.out.upd (us _ _ _ _ _) (fun k _ e=>by omega),HNG.out.1,HNG.out.2.2.1,HNG.out.2.1,?_,U3.out.trans (us _ _ _ _ _) (fun k hk e=>by omega),?_⟩
  ·
   rw [Pt.size_leaf];have:=HNG.out.2.1;omega
  ·
   rw [HR.out];refine ⟨fun _=>?_,fun q=>absurd hw0 q⟩;rw [HY.out];exact ⟨hw0,rfl,rfl,by rw [Pt.size_leaf];show 1+x.i≤x.i+1;omega⟩
 | none =>
  rw [hd] at CP;simp only [Option.getD_none,Option.isSome_none] at CP;have HD:=Lib.hid hd;clear hd
  have HRB:Hid ((∀a b,s=[a,b]→isLw b=true→a.toNat≠63∧a.toNat≠36)→s≠[40]→ResX x (y1.fail 2 off) r (fun v=>v=(Pt.mk 0 0 0 0 [])∧(Pt.mk 0 0 0 0 []).size+x.i≤(y1.fail 2 off).i)):=fun hno h40=>by
   have hr:x.why=0→r=.error (serr T fin x.i):=fun h0=>by
    rw [HS.out]
    by_cases q:x.i<T.length
    ·
     obtain ⟨t,ht⟩:=tk_some q;obtain ⟨e1,_⟩:=HNS.out t h0 ht;subst e1;rw [if_neg (fun q=>by rw [ht] at q;injection q with q;exact h40 q)];exact wrd_bad (z:=x.ps) ht (atom_no HD.out hno)
    ·
     rw [if_neg (fun q2=>by rw [tk_none q] at q2;cases q2)];exact wrd_none (z:=x.ps) (tk_none q)
   by_cases h0:x.why=0
   ·
    rw [hr h0]
    have key:(y1.fail 2 off).why=2∧(y1.fail 2 off).ea=off:=by
     by_cases q:x.i<T.length
     ·
      obtain ⟨t,ht⟩:=tk_some q;obtain ⟨_,e2,_⟩:=HNS.out t h0 ht;rw [e2,xfail_zero (show ({ x with i:=x.i+1 }:Xs).why=0 from h0)];exact ⟨rfl,rfl⟩
     ·
      obtain ⟨_,e2⟩:=HNN.out (fun r=>q r.2);rw [e2,xfail_why (xfail_ne _ (by decide)),xfail_zero h0];exact ⟨rfl,rfl⟩
    refine ⟨fun _=>⟨key.1,key.2.trans ?_⟩,fun q=>absurd h0 q⟩;rw [←Hoff.out];rfl
   ·
    obtain ⟨_,e2⟩:=HNN.out (fun q=>h0 q.1);rw [e2,xfail_why h0,xfail_why h0];exact ⟨fun q=>absurd q h0,fun _=>⟨rfl,rfl⟩⟩
  by_cases h2:m=2
  ·
   obtain ⟨a,b,rfl⟩:∃a b,s=[a,b]:=by
    have h3:=Hm.out;rw [h2] at h3
    match s,h3 with
    | [a,b],_=>exact ⟨a,b,rfl⟩
   subst h2
   have hsl1:∀W,(Instr.slice 9 (.string qs) (some (.int .i64 (1:Int))) none none).run Tryz.prog W=.ok (.string (kstr [b])) W:=fun W=>by
    have:=run_from_str (s:=[a,b]) (n:=2) (i:=1) rfl (by omega) W;rw [Hqs.out] at this;exact this
   have CL:=Lib.hid (fun W=>xIsLetter_c (kstr [b]) W);rw [kx_kstr,show isLt [b]=isLw b from rfl] at CL
   have i0:=fun W=>run_at_str hqz (show 0<2 by omega) W
   rw [←Hqs.out,kx_kstr,show ([a,b]:Bs).getD 0 0=a from rfl,show ((0:Nat):Int)=0 from rfl,Hqs.out] at i0
   have HN40:Hid ([a,b]≠[40]):=by show _≠_;simp
   obtain ⟨qb,Hqb⟩:=nm (kstr [b]);rw [Hqb.out] at hsl1 CL;obtain ⟨lw,Hlw⟩:=nm (isLw b);rw [Hlw.out] at CL
   cases lw with
   | false =>
    have HR:=Lib.hid (HRB.out (fun a' b' e hb=>by injection e with _ e;injection e with e _;subst e;rw [Hlw.out] at hb;cases hb) HN40.out);clear HRB HTK HNS HNN HS HT hf;go_enter Tryz.func83,Tryz.ntmps83
    go_wp2_with fail
    refine CO.out.mono ?_;rintro e w2 ⟨rfl,u2⟩;have CN2:=Lib.hid (CN.out _ u2)
    go_wp2_with fail
    refine CN2.out.mono ?_;rintro e w3 ⟨rfl,h3,u3⟩;have H3:=Lib.hid h3;have U3:Hid (Upd (·=p) w w3):=(upd_eq (HU1.out.then_non u2)).trans u3 (fun _ _ e=>e);have HB3:=Lib.hid ((HB1.out.upd u2 (fun f=>f)).upd u3 (by omega));clear CO CN CN2 h3 u2 u3 e1
    go_wp2_with fail
    refine (CP.out w3).mono ?_;rintro e w4 ⟨rfl,rfl⟩;clear CP
    go_wp2_with fail
    refine (CL.out _).mono ?_;rintro e w5 ⟨rfl,rfl⟩;obtain ⟨w4,rfl⟩:∃v:World,v=w5:=⟨_,rfl⟩;clear CL
    have hfq:(qs.toList==[40])=false:=by
     rw [←Hqs.out,xktl];exact beq_eq_false_iff_ne.2 HN40.out
    have CF:=Lib.hid (fun W (u:Upd Non w4 W)=>xFail_c (H3.out.non u) 2 off)
    go_wp2_with fail
    refine (CF.out _ (by first | exact Upd.refl | assumption)).mono ?_;rintro e w9 ⟨rfl,h9,u9⟩;have HB9:=Lib.hid (HB3.out.upd u9 (by omega));have H9:=Lib.hid h9;have U9:Hid (Upd (·=p) w w9):=U3.out.trans u9 (fun _ _ e=>e);clear CF h9 u9;unfold p0 at HB9;have b9:=HB9.out;have rc0:=b9.cell 0;have rc1:=b9.cell 1;have rc2:=b9.cell 2;have rc3:=b9.cell 3;have rc4:=b9.cell 4
    have rcf:=b9.frozen;clear b9
    go_wp2_with fail
    rw [set5_eq];have us:=set5_upd w9 w.heap.size;refine bodyPost_ret (results_cell_row rfl _ _ w.heap.size 40 _ (0,0) _ rfl (set5_blk HB9.out _ _ _ _ _) Tryz.underlying40 rfl (by kernel_rfl)) rfl ?_
    refine ⟨.mk 0 0 0 0 [],none,0,y1.fail 2 off,rfl,PtK.leaf,H9.out.upd (us _ _ _ _ _) (fun k _ e=>by omega),HNG.out.1.fail _ _,by rw [xfail_left];exact HNG.out.2.2.1,by rw [xfail_i];exact HNG.out.2.1,?_,U9.out.trans (us _ _ _ _ _) (fun k hk e=>by omega),HR.out⟩
    rw [Pt.size_leaf,xfail_i];have:=HNG.out.2.1;omega
   | true =>
    obtain ⟨k1,k2,k3,k4⟩:=HTK.out (by simp)
    by_cases h63:a.toNat=63
    ·
     obtain rfl:a=63:=UInt8.toNat_inj.1 h63;have f63:((((63:UInt8).toNat:Nat):Int)==63)=true:=rfl
     have HR:Hid (r=wrdF T fin (atomF left) x.ps):=by show _=_;rw [HS.out,if_neg (fun q=>by rw [k2] at q;cases q)]
     have HA:=Lib.hid (atom_q (left:=left) x.ps Hlw.out);have HK1:=Lib.hid k1;have HK2:=Lib.hid k2;have HK3:=Lib.hid k3;clear HRB HTK HNS HNN HS HT hf k1 k2 k3 h63;go_enter Tryz.func83,Tryz.ntmps83
     go_wp2_with fail
     refine CO.out.mono ?_;rintro e w2 ⟨rfl,u2⟩;have CN2:=Lib.hid (CN.out _ u2)
     go_wp2_with fail
     refine CN2.out.mono ?_;rintro e w3 ⟨rfl,h3,u3⟩;have H3:=Lib.hid h3;have U3:Hid (Upd (·=p) w w3):=(upd_eq (HU1.out.then_non u2)).trans u3 (fun _ _ e=>e);have HB3:=Lib.hid ((HB1.out.upd u2 (fun f=>f)).upd u3 (by omega));clear CO CN CN2 h3 u2 u3 e1
     go_wp2_with fail
     refine (CP.out w3).mono ?_;rintro e w4 ⟨rfl,rfl⟩;clear CP
     go_wp2_with fail
     refine (CL.out _).mono ?_;rintro e w5 ⟨rfl,rfl⟩;obtain ⟨w4,rfl⟩:∃v:World,v=w5:=⟨_,rfl⟩;clear CL
     go_upto_region 8 with fail
     have CK:=Lib.hid (fun W (u:Upd Non w4 W)=>xVariable_g (H3.out.non u) 5 y1.vs (fun v=>{ y1 with vs:=v }) rfl (fun v=>rfl) (by have h5:=HNG.out.1.2.1;have h6:=HNG.out.1.1;omega) b off)
     obtain ⟨wD,HwD⟩:=nm w4.drew
     have uD:Upd Non w4 wD:=by rw [←HwD.out];exact Upd.refl.drew
     have HYLE:Hid (y1.left=left):=HNG.out.2.2.1.trans hl;rw [Hqb.out] at CK;refine wp_region_held_drew (S:=fun _=>True) (by kernel_rfl) trivial (fun hHeld=>?_);rw [HwD.out];refine wpT 0 ?_
     try simp only [put_y,put_z]
     refine wpT 1 ?_
     try simp only [put_y,put_z]
     refine wpT 2 ?_
     try simp only [put_y,put_z]
     refine wpT 3 ?_
     try simp only [put_y,put_z]
     refine wpT 4 ?_
     try simp only [put_y,put_z]
     refine wpT 5 ?_
     try simp only [put_y,put_z]
     refine wpT 6 ?_
     try simp only [put_y,put_z]
     refine wpAnyH_ready (rs:=[7]) (by kernel_rfl) (by simp) ?_;refine AllReadyH.cons rfl (fun K hK=>?_) AllReadyH.nil;go_simp;refine (CK.out _ uD).mono ?_;rintro e w7 ⟨rfl,h7,u7⟩
     go_wp2_with fail
     refine hK.out _ _ ?_ (fun hHeld=>?_)
     ·
      exact trivial
     clear hK K
     try simp only [put_y,put_z]
     refine wpT 8 ?_
     try simp only [put_y,put_z]
     have HB9:=Lib.hid ((HB3.out.upd uD (fun f=>f)).upd u7 (by omega));have H7:=Lib.hid h7;have U7:Hid (Upd (·=p) w w7):=(U3.out.then_non uD).trans u7 (fun _ _ e=>e);clear h7 u7 CK uD;unfold p0 at HB9;have b9:=HB9.out;have rc0:=b9.cell 0;have rc1:=b9.cell 1;have rc2:=b9.cell 2;have rc3:=b9.cell 3;have rc4:=b9.cell 4;have rcf:=b9.frozen;clear b9
     refine wpAnyH_ready (rs:=[9]) (by kernel_rfl) (by simp) ?_;refine AllReadyH.cons rfl (fun K hK=>?_) AllReadyH.nil;go_simp;rw [set5_eq];refine hK.out _ _ ?_ (fun hHeld=>?_)
     ·
      exact trivial
     clear hK K
     try simp only [put_y,put_z]
     refine wpAnyH_done (by kernel_rfl) ?_ _
     go_wp2_with fail
     have us:=set5_upd w7 w.heap.size;refine bodyPost_ret (results_cell_row rfl _ _ w.heap.size 40 _ (0,0) _ rfl (set5_blk HB9.out _ _ _ _ _) Tryz.underlying40 rfl (by kernel_rfl)) rfl ?_;have hyv:y1.vs=x.vs:=HNG.out.2.2.2.1;have hkl:=lookF_len y1.vs b y1.left
     have hv7:y1.vs.length=x.vs.length:=by rw [hyv]
     have hv:=var_resX (fin:=fin) (left:=left) (Yf:=fun v=>{ y1 with vs:=v }) (K:=lookF y1.vs b y1.left) (q:=.mk (lookF y1.vs b y1.left).1 0 0 0 []) (u:={ x.ps with vs:=(lookF x.vs b left).2 }) HX.out HK1.out HK3.out HK2.out rfl (by have h5:=HA.out;rw [hyv,HYLE.out];exact h5) (by rw [HK3.out];exact HK1.out) (by rw [HK3.out]) (by rw [HK3.out];show (⟨x.i+1,(lookF x.vs b x.left).2,x.ms⟩:PS)=⟨x.i+1,(lookF x.vs b left).2,x.ms⟩;rw [hl]) (by have h5:=HX.out.2.1;show (lookF y1.vs b y1.left).2.length≤x.i+1;omega) (by rw [HK3.out];have h5:=HX.out.2.2;show x.ms.length≤x.i+1;omega) (by rw [HK3.out]) (Pt.size_leaf _ _ _ _) _ rfl
     rw [Hoff.out] at hv
     refine ⟨_,none,0,_,rfl,PtK.leaf,H7.out.upd (us _ _ _ _ _) (fun k _ e=>by omega),hv.1,hv.2.1,by rw [hv.2.2.1];omega,?_,U7.out.trans (us _ _ _ _ _) (fun k hk e=>by omega),by rw [HR.out];exact hv.2.2.2⟩
     rw [Pt.size_leaf,hv.2.2.1];omega
    ·
     have f63:(((a.toNat:Nat):Int)==63)=false:=by simp;omega
     by_cases h36:a.toNat=36
     ·
      obtain rfl:a=36:=UInt8.toNat_inj.1 h36;have f36:((((36:UInt8).toNat:Nat):Int)==36)=true:=rfl
      have HR:Hid (r=wrdF T fin (atomF left) x.ps):=by show _=_;rw [HS.out,if_neg (fun q=>by rw [k2] at q;cases q)]
      have HA:=Lib.hid (atom_d (left:=left) x.ps Hlw.out);have HK1:=Lib.hid k1;have HK2:=Lib.hid k2;have HK3:=Lib.hid k3;clear HRB HTK HNS HNN HS HT hf k1 k2 k3 h63 h36;go_enter Tryz.func83,Tryz.ntmps83
      go_wp2_with fail
      refine CO.out.mono ?_;rintro e w2 ⟨rfl,u2⟩;have CN2:=Lib.hid (CN.out _ u2)
      go_wp2_with fail
      refine CN2.out.mono ?_;rintro e w3 ⟨rfl,h3,u3⟩;have H3:=Lib.hid h3;have U3:Hid (Upd (·=p) w w3):=(upd_eq (HU1.out.then_non u2)).trans u3 (fun _ _ e=>e);have HB3:=Lib.hid ((HB1.out.upd u2 (fun f=>f)).upd u3 (by omega));clear CO CN CN2 h3 u2 u3 e1
      go_wp2_with fail
      refine (CP.out w3).mono ?_;rintro e w4 ⟨rfl,rfl⟩;clear CP
      go_wp2_with fail
      refine (CL.out _).mono ?_;rintro e w5 ⟨rfl,rfl⟩;obtain ⟨w4,rfl⟩:∃v:World,v=w5:=⟨_,rfl⟩;clear CL
      go_upto_region 10 with fail
      have CK:=Lib.hid (fun W (u:Upd Non w4 W)=>xVariable_g (H3.out.non u) 6 y1.ms (fun v=>{ y1 with ms:=v }) rfl (fun v=>rfl) (by have h5:=HNG.out.1.2.2;have h6:=HNG.out.1.1;omega) b off)
      obtain ⟨wD,HwD⟩:=nm w4.drew
      have uD:Upd Non w4 wD:=by rw [←HwD.out];exact Upd.refl.drew
      have HYLE:Hid (y1.left=left):=HNG.out.2.2.1.trans hl;rw [Hqb.out] at CK;refine wp_region_held_drew (S:=fun _=>True) (by kernel_rfl) trivial (fun hHeld=>?_);rw [HwD.out];refine wpT 0 ?_
      try simp only [put_y,put_z]
      refine wpT 1 ?_
      try simp only [put_y,put_z]
      refine wpT 2 ?_
      try simp only [put_y,put_z]
      refine wpT 3 ?_
      try simp only [put_y,put_z]
      refine wpT 4 ?_
      try simp only [put_y,put_z]
      refine wpT 5 ?_
      try simp only [put_y,put_z]
      refine wpT 6 ?_
      try simp only [put_y,put_z]
      refine wpAnyH_ready (rs:=[7]) (by kernel_rfl) (by simp) ?_;refine AllReadyH.cons rfl (fun K hK=>?_) AllReadyH.nil;go_simp;refine (CK.out _ uD).mono ?_;rintro e w7 ⟨rfl,h7,u7⟩
      go_wp2_with fail
      refine hK.out _ _ ?_ (fun hHeld=>?_)
      ·
       exact trivial
      clear hK K
      try simp only [put_y,put_z]
      refine wpT 8 ?_
      try simp only [put_y,put_z]
      have HB9:=Lib.hid ((HB3.out.upd uD (fun f=>f)).upd u7 (by omega));have H7:=Lib.hid h7;have U7:Hid (Upd (·=p) w w7):=(U3.out.then_non uD).trans u7 (fun _ _ e=>e);clear h7 u7 CK uD;unfold p0 at HB9;have b9:=HB9.out;have rc0:=b9.cell 0;have rc1:=b9.cell 1;have rc2:=b9.cell 2;have rc3:=b9.cell 3;have rc4:=b9.cell 4;have rcf:=b9.frozen;clear b9
      refine wpAnyH_ready (rs:=[9]) (by kernel_rfl) (by simp) ?_;refine AllReadyH.cons rfl (fun K hK=>?_) AllReadyH.nil;go_simp;rw [set5_eq];refine hK.out _ _ ?_ (fun hHeld=>?_)
      ·
       exact trivial
      clear hK K
      try simp only [put_y,put_z]
      refine wpAnyH_done (by kernel_rfl) ?_ _
      go_wp2_with fail
      have us:=set5_upd w7 w.heap.size;refine bodyPost_ret (results_cell_row rfl _ _ w.heap.size 40 _ (0,0) _ rfl (set5_blk HB9.out _ _ _ _ _) Tryz.underlying40 rfl (by kernel_rfl)) rfl ?_;have hyv:y1.ms=x.ms:=HNG.out.2.2.2.2;have hkl:=lookF_len y1.ms b y1.left
      have hv7:y1.ms.length=x.ms.length:=by rw [hyv]
      have hv:=var_resX (fin:=fin) (left:=left) (Yf:=fun v=>{ y1 with ms:=v }) (K:=lookF y1.ms b y1.left) (q:=.mk 0 1 0 (lookF y1.ms b y1.left).1 []) (u:={ x.ps with ms:=(lookF x.ms b left).2 }) HX.out HK1.out HK3.out HK2.out rfl (by have h5:=HA.out;rw [hyv,HYLE.out];exact h5) (by rw [HK3.out];exact HK1.out) (by rw [HK3.out]) (by rw [HK3.out];show (⟨x.i+1,x.vs,(lookF x.ms b x.left).2⟩:PS)=⟨x.i+1,x.vs,(lookF x.ms b left).2⟩;rw [hl]) (by rw [HK3.out];have h5:=HX.out.2.1;show x.vs.length≤x.i+1;omega) (by have h5:=HX.out.2.2;show (lookF y1.ms b y1.left).2.length≤x.i+1;omega) (by rw [HK3.out]) (Pt.size_leaf _ _ _ _) _ rfl
      rw [Hoff.out] at hv
      refine ⟨_,none,0,_,rfl,PtK.leaf,H7.out.upd (us _ _ _ _ _) (fun k _ e=>by omega),hv.1,hv.2.1,by rw [hv.2.2.1];omega,?_,U7.out.trans (us _ _ _ _ _) (fun k hk e=>by omega),by rw [HR.out];exact hv.2.2.2⟩
      rw [Pt.size_leaf,hv.2.2.1];omega
     ·
      have f36:(((a.toNat:Nat):Int)==36)=false:=by simp;omega
      have HR:=Lib.hid (HRB.out (fun a' b' e hb=>by injection e with e _;subst e;exact ⟨h63,h36⟩) HN40.out);clear HRB HTK HNS HNN HS HT hf k1 k2 k3 h63 h36;go_enter Tryz.func83,Tryz.ntmps83
      go_wp2_with fail
      refine CO.out.mono ?_;rintro e w2 ⟨rfl,u2⟩;have CN2:=Lib.hid (CN.out _ u2)
      go_wp2_with fail
      refine CN2.out.mono ?_;rintro e w3 ⟨rfl,h3,u3⟩;have H3:=Lib.hid h3;have U3:Hid (Upd (·=p) w w3):=(upd_eq (HU1.out.then_non u2)).trans u3 (fun _ _ e=>e);have HB3:=Lib.hid ((HB1.out.upd u2 (fun f=>f)).upd u3 (by omega));clear CO CN CN2 h3 u2 u3 e1
      go_wp2_with fail
      refine (CP.out w3).mono ?_;rintro e w4 ⟨rfl,rfl⟩;clear CP
      go_wp2_with fail
      refine (CL.out _).mono ?_;rintro e w5 ⟨rfl,rfl⟩;obtain ⟨w4,rfl⟩:∃v:World,v=w5:=⟨_,rfl⟩;clear CL
      have hfq:(qs.toList==[40])=false:=by
       rw [←Hqs.out,xktl];exact beq_eq_false_iff_ne.2 HN40.out
      have CF:=Lib.hid (fun W (u:Upd Non w4 W)=>xFail_c (H3.out.non u) 2 off)
      go_wp2_with fail
      refine (CF.out _ (by first | exact Upd.refl | assumption)).mono ?_;rintro e w9 ⟨rfl,h9,u9⟩;have HB9:=Lib.hid (HB3.out.upd u9 (by omega));have H9:=Lib.hid h9;have U9:Hid (Upd (·=p) w w9):=U3.out.trans u9 (fun _ _ e=>e);clear CF h9 u9;unfold p0 at HB9;have b9:=HB9.out;have rc0:=b9.cell 0;have rc1:=b9.cell 1;have rc2:=b9.cell 2;have rc3:=b9.cell 3
      have rc4:=b9.cell 4;have rcf:=b9.frozen;clear b9
      go_wp2_with fail
      rw [set5_eq];have us:=set5_upd w9 w.heap.size;refine bodyPost_ret (results_cell_row rfl _ _ w.heap.size 40 _ (0,0) _ rfl (set5_blk HB9.out _ _ _ _ _) Tryz.underlying40 rfl (by kernel_rfl)) rfl ?_
      refine ⟨.mk 0 0 0 0 [],none,0,y1.fail 2 off,rfl,PtK.leaf,H9.out.upd (us _ _ _ _ _) (fun k _ e=>by omega),HNG.out.1.fail _ _,by rw [xfail_left];exact HNG.out.2.2.1,by rw [xfail_i];exact HNG.out.2.1,?_,U9.out.trans (us _ _ _ _ _) (fun k hk e=>by omega),HR.out⟩
      rw [Pt.size_leaf,xfail_i];have:=HNG.out.2.1;omega
  ·
   have fm:((m:Int)==2)=false:=by simp;omega
   by_cases h40:s=[40]
   ·
    obtain ⟨k1,k2,k3,k4⟩:=HTK.out (by rw [h40];simp)
    have HR:Hid (r=appF T fin left f { x.ps with i:=x.i+1 }):=by show _=_;rw [HS.out,if_pos (by rw [k2,h40])]
    have hfq:(qs.toList==[40])=true:=by
     rw [←Hqs.out,xktl,h40];rfl
    have HY1:Hid (y1={ x with i:=x.i+1 }):=k3
    have h1i:y1.i=x.i+1:=by rw [k3]
    have h1w:y1.why=0:=by rw [k3];exact k1
    have HK1:=Lib.hid k1;have h1l:y1.left=left:=HNG.out.2.2.1.trans hl;have HL1:=Lib.hid h1l;have HW1Y:=Lib.hid h1w;have HNG2:=Lib.hid (nxY_good (fin:=fin) HNG.out.1)
    have hs2l:(nxS T y1).length≤20000:=by
     by_cases q:y1.i<T.length
     ·
      obtain ⟨t,ht⟩:=tk_some q;rw [(nx_some (fin:=fin) h1w ht).1];exact (HXT.out.tk ht).2
     ·
      rw [(nx_none (fin:=fin) (fun r=>q r.2)).1];simp
    have HFU:Hid (T.length<x.i+(f+1)):=hf k1;clear HRB HTK HNS HNN HS hf k1 k2 k3 h40 h2;go_enter Tryz.func83,Tryz.ntmps83
    go_wp2_with fail
    refine CO.out.mono ?_;rintro e w2 ⟨rfl,u2⟩;have CN2:=Lib.hid (CN.out _ u2)
    go_wp2_with fail
    refine CN2.out.mono ?_;rintro e w3 ⟨rfl,h3,u3⟩;have H3:=Lib.hid h3;have U3:Hid (Upd (·=p) w w3):=(upd_eq (HU1.out.then_non u2)).trans u3 (fun _ _ e=>e);have HB3:=Lib.hid ((HB1.out.upd u2 (fun f=>f)).upd u3 (by omega));clear CO CN CN2 h3 u2 u3 e1
    go_wp2_with fail
    refine (CP.out w3).mono ?_;rintro e w4 ⟨rfl,rfl⟩;clear CP;have CO2:=Lib.hid (xOffset_c H3.out);have CN2:=Lib.hid (fun W (u:Upd Non w4 W)=>xNext_c (H3.out.non u) (by omega));obtain ⟨off2,Hoff2⟩:=nm (offF T fin y1.i);obtain ⟨s2,Hs2⟩:=nm (nxS T y1);obtain ⟨y2,Hy2⟩:=nm (nxY T fin y1)
    have h2ms:y2.ms.length≤100000:=by
     have:=HNG2.out.1;rw [Hy2.out] at this;have h5:=this.2.2;have h6:=this.1;omega
    rw [Hs2.out] at hs2l;have COP:=Lib.hid (fun (W:World) (h:XdS W p A c T fin y2)=>xOperation_c h h2ms s2 (by omega) off2);rw [Hs2.out,Hy2.out] at CN2;rw [Hoff2.out] at CO2;have HLB3:w.heap.size<w4.heap.size:=HB3.out.lt;clear h2ms hs2l h1i h1w h1l
    go_wp2_with fail
    refine CO2.out.mono ?_;rintro e w5 ⟨rfl,u5⟩;have CN5:=Lib.hid (CN2.out _ u5);clear CO2 CN2
    go_wp2_with fail
    refine CN5.out.mono ?_;rintro e w6 ⟨rfl,h6,u6⟩;have CO6:=Lib.hid (COP.out _ h6);have U6:Hid (Upd (·=p) w w6):=(U3.out.then_non u5).trans u6 (fun _ _ e=>e);have HB6:=Lib.hid ((HB3.out.upd u5 (fun f=>f)).upd u6 (by omega));have z6:=u6.size;have z5:=u5.size;clear CN5 COP h6 u6 u5
    go_wp2_with fail
    refine CO6.out.mono ?_;rintro e w8 ⟨q0,b,y0,rfl,hqk,h8,u8,hb8,hop⟩
    have HOP:Hid (ResX y1 (bif b then y0 else y0.fail 2 off2) (wrdF T fin (operF left) y1.ps) (fun v=>v=q0∧y1.i+1≤y0.i)∧GoodX T y0∧y0.left=left∧y1.i≤y0.i∧(b=true→y0.i=y1.i+1)):=by
     have:=op_resX (fin:=fin) (b:=b) (q0:=q0) (y0:=y0) HNG.out.1 HW1Y.out Hs2.out Hy2.out HL1.out (fun q=>(hb8 q).1) (by rw [Hoff2.out];exact hop);rw [Hoff2.out] at this;exact this
    have HB8:=Lib.hid (HB6.out.upd u8 (by omega));have U8:Hid (Upd (·=p) w w8):=U6.out.trans u8 (fun _ _ e=>e);have HQK:=Lib.hid hqk;have z8:=u8.size;have HBT:=Lib.hid hb8;have H8:=Lib.hid h8;clear CO6 hop h8 u8 hqk hb8 HB6 U6 HB3 U3;unfold pv;rw [HQK.out]
    obtain ⟨W9,HW9⟩:=nm (w8.alloc (.cells #[.int .i64 q0.v,.int .i64 q0.op,.int .i64 q0.imm,.int .i64 q0.iv,.slice none 0 0] 40))
    have u9:Upd Non w8 W9:=by rw [←HW9.out];exact Upd.refl.alloc _
    have b9:Blk W9 w8.heap.size 40 #[.int .i64 q0.v,.int .i64 q0.op,.int .i64 q0.imm,.int .i64 q0.iv,.slice none 0 0]:=by rw [←HW9.out];exact Blk.new _ _ _
    have s9:W9.heap.size=w8.heap.size+1:=by rw [←HW9.out];simp
    have HS9:Hid (XAp w W9 w8.heap.size p A c T fin y0 #[.int .i64 q0.v,.int .i64 q0.op,.int .i64 q0.imm,.int .i64 q0.iv,.slice none 0 0]):=⟨H8.out.non u9,HB8.out.upd u9 (fun f=>f),b9,by omega,hpw,U8.out.then_non u9⟩
    clear u9 b9
    go_upto_region 16 with fail
    rw [HW9.out];clear HW9
    cases b with
    | false =>
     have CF:=Lib.hid (xFail_c HS9.out.xd 2 off2)
     go_wp2_with fail
     refine CF.out.mono ?_;rintro e w9 ⟨rfl,h9,u9⟩;have HS10:=Lib.hid (HS9.out.call h9 u9);have HB9:=Lib.hid HS10.out.res;clear CF h9 u9 HT;unfold p0 at HB9;have b9:=HB9.out;have rc0:=b9.cell 0;have rc1:=b9.cell 1;have rc2:=b9.cell 2;have rc3:=b9.cell 3;have rc4:=b9.cell 4;have rcf:=b9.frozen;clear b9
     go_wp2_with fail
     rw [set5_eq];have us:=set5_upd w9 w.heap.size;refine bodyPost_ret (results_cell_row rfl _ _ w.heap.size 40 _ (0,0) _ rfl (set5_blk HB9.out _ _ _ _ _) Tryz.underlying40 rfl (by kernel_rfl)) rfl ?_;have hor:=HOP.out;dsimp only [cond_false] at hor
     have h1i:y1.i=x.i+1:=by rw [HY1.out]
     refine ⟨.mk 0 0 0 0 [],none,0,y0.fail 2 off2,rfl,PtK.leaf,HS10.out.xd.upd (us _ _ _ _ _) (fun k _ e=>by omega),hor.2.1.fail _ _,by rw [xfail_left,hor.2.2.1,hl],by rw [xfail_i];have:=hor.2.2.2.1;omega,?_,HS10.out.upd.trans (us _ _ _ _ _) (fun k hk e=>by omega),?_⟩
     ·
      rw [Pt.size_leaf,xfail_i];have:=hor.2.2.2.1;omega
     ·
      rw [HR.out];refine ⟨fun _=>?_,fun q=>absurd HK1.out q⟩;have h5:=hor.1.1 HW1Y.out;rw [HY1.out] at h5;unfold appF;have e:({ x with i:=x.i+1 }:Xs).ps={ x.ps with i:=x.i+1 }:=rfl;rw [e] at h5
      cases hw:wrdF T fin (operF left) { x.ps with i:=x.i+1 } with
      | error e=>rw [hw] at h5;exact h5
      | ok v=>rw [hw] at h5;exact absurd h5.1 (xfail_ne _ (by decide))
    | true =>
     obtain ⟨-,hv0,har⟩:=HBT.out rfl;have HV0:=Lib.hid hv0;have HOR:=HOP.out;dsimp only [cond_true] at HOR
     have h0i:y0.i=x.i+2:=by rw [HOR.2.2.2.2 rfl,HY1.out]
     have H0I:=Lib.hid h0i;have HR0:=Lib.hid HOR.1;have CA:=Lib.hid (fun W=>arity_c q0.op W);rw [har] at CA;obtain ⟨n,Hn⟩:=nm ((arF q0.op).getD 0);rw [Hn.out] at CA
     have hn3:n≤3:=by rw [←Hn.out];exact arF_le _
     have HG0:=Lib.hid HOR.2.1;have HYL:=Lib.hid HOR.2.2.1;have d1:=HS9.out.pat.cell 1;clear hv0 har HOR HOP HBT h0i
     go_wp2_with fail
     refine (CA.out _).mono ?_;rintro e wa ⟨rfl,rfl⟩;clear CA d1
     go_wp2_with fail
     go_loopg [11] n (fun g i wr=>∃(j:Nat) (Ak:Option Addr) (ck:Nat) (ks:List Pt) (y:Xs),Hid (g=n - j)∧j≤n∧i=.int .i64 j∧Hid (XAp w wr w8.heap.size p A c T fin y #[.int .i64 q0.v,.int .i64 q0.op,.int .i64 q0.imm,.int .i64 q0.iv,.slice Ak j ck])∧Hid (PtO wr (fun k=>w8.heap.size<k) Ak j ck ks)∧Hid (∀k,At Ak k→w8.heap.size<k)∧Hid (GoodX T y)∧Hid (y.left=left)∧Hid (ResX y0 y (kidsF (termF T fin left f) j y0.ps) (fun v=>v=ks))∧Hid ((y.why=0→Pt.sizeL ks+y0.i≤y.i)∧Pt.sizeL ks+y0.i≤y.i+1∧y0.i≤y.i))
     case atStart=>exact ⟨0,none,0,[],y0,rfl,Nat.zero_le _,rfl,HS9.out,PtO.none_,fun k h=>(At.none_ h).elim,HG0.out,HYL.out,⟨fun h=>⟨h,rfl,rfl⟩,fun h=>⟨rfl,rfl⟩⟩,⟨fun _=>by show Pt.sizeL []+y0.i≤y0.i;simp [Pt.sizeL],by show Pt.sizeL []+y0.i≤y0.i+1;simp [Pt.sizeL],Nat.le_refl _⟩⟩
     case round =>
      obtain ⟨j,Ak,ck,ks,y,Hg,hj,rfl,HS1,HK,HAT,HG1,HL2,HRK,HZ⟩:=hrel;obtain ⟨D,HD⟩:=nm (decide (j<n)&&(y.why==0));have c3:=HS1.out.xd.cells.2.2.2.1;clear HS9 HYL
      go_upto_region 21 with fail
      go_cut [94] (fun s wx=>s=.bool D∧wx=wr)
      case first =>
       obtain ⟨yw,Hyw⟩:=nm y.why;rw [Hyw.out] at c3 HD;obtain ⟨bw,Hbw⟩:=nm (yw==0);rw [Hbw.out] at HD;have hbw:=Hbw.out
       by_cases hlt:j<n
       ·
        have tj:decide ((j:Int)<(n:Int))=true:=decide_eq_true (by omega)
        have hD:D=bw:=by rw [←HD.out,decide_eq_true hlt];rfl
        subst hD
        go_wp2_with fail
        go_meet
        case rel=>exact ⟨rfl,rfl⟩
       ·
        have tj:decide ((j:Int)<(n:Int))=false:=decide_eq_false (by omega)
        have hD:D=false:=by rw [←HD.out,decide_eq_false hlt];rfl
        subst hD
        go_wp2_with fail
        go_meet
        case rel=>exact ⟨rfl,rfl⟩
      case rest =>
       obtain ⟨rfl,hwc⟩:=hcut;subst hwc;obtain ⟨wr,rfl⟩:∃v:World,v=wc:=⟨_,rfl⟩
       cases D with
       | true =>
        have hDD:=HD.out;simp only [Bool.and_eq_true,decide_eq_true_eq,beq_iff_eq] at hDD;have hlt:=hDD.1;have H0Y:Hid (y.why=0):=hDD.2
        have HF2:Hid (T.length<y.i+f):=by
         show T.length<y.i+f;have h5:=HFU.out;have h6:=HZ.out.2.2;have h7:=H0I.out;omega
        clear hDD HD c3
        go_upto_region 23 with fail
        obtain ⟨wD,HwD⟩:=nm wr.drew
        have uD:Upd Non wr wD:=by rw [←HwD.out];exact Upd.refl.drew
        have HS:=Lib.hid (HS1.out.non uD);have HKD:=Lib.hid (HK.out.upd uD (fun _ _ f=>f) (fun _ _ _ f=>f));have CT:=Lib.hid (HT.out HS.out.xd HG1.out HL2.out H0Y.out HF2.out);have hckj:j≤ck:=HK.out.le;clear HS1 HK uD;refine wp_region_held_drew (S:=fun _=>True) (by kernel_rfl) trivial (fun hHeld=>?_);rw [HwD.out];refine wpT 0 ?_
        try simp only [put_y,put_z]
        refine wpT 2 ?_
        try simp only [put_y,put_z]
        refine wpAnyH_ready (rs:=[1,3]) (by kernel_rfl) (by simp) ?_;refine AllReadyH.cons rfl (fun K hK=>?_) (AllReadyH.cons rfl (fun K hK=>?_) AllReadyH.nil)
        ·
         have d4:=HS.out.pat.cell 4;go_simp;refine hK.out _ _ ?_ (fun hHeld=>?_)
         ·
          exact trivial
         clear hK K
         try simp only [put_y,put_z]
         clear d4;refine wpAnyH_ready (rs:=[3]) (by kernel_rfl) (by simp) ?_;refine AllReadyH.cons rfl (fun K hK=>?_) AllReadyH.nil;go_simp;refine CT.out.mono ?_;rintro e w7 ⟨q,KA,kc,y',rfl,hq,h7,hg7,hl7,hi7,hz7,u7,hr7⟩;unfold pv
         go_wp2_with fail
         refine hK.out _ _ ?_ (fun hHeld=>?_)
         ·
          exact trivial
         clear hK K
         try simp only [put_y,put_z]
         have HS7:=Lib.hid (HS.out.call h7 u7)
         have HLT:Hid (∀k,At Ak k→k<wD.heap.size):=fun k h=>HKD.out.lt h
         have HGD:Hid (w8.heap.size<wD.heap.size):=HS.out.pat.lt
         have HK7:=Lib.hid (HKD.out.upd u7 (fun k h e=>by have h5:=HAT.out k h;have h6:=HS.out.lt;have h7:=HS.out.plt;omega) (fun k _ h e=>by have h6:=HS.out.lt;have h7:=HS.out.plt;omega))
         have HQ7:Hid (PtK w7 (fun k=>w8.heap.size<k∧¬At Ak k) q KA kc):=PtK.mono (fun k _ h=>⟨Nat.lt_of_lt_of_le HGD.out h,fun r=>Nat.lt_irrefl _ (Nat.lt_of_lt_of_le (HLT.out k r) h)⟩) _ _ _ hq
         have HG7:=Lib.hid hg7;have HL7:Hid (y'.left=left):=hl7.trans HL2.out;have HI7:=Lib.hid hi7;have HZ7:=Lib.hid hz7;have HR7:=Lib.hid hr7;clear hq h7 hg7 hl7 hi7 hz7 u7 hr7;refine wpAnyH_ready (rs:=[4]) (by kernel_rfl) (by simp) ?_;refine AllReadyH.cons rfl (fun K hK=>?_) AllReadyH.nil;go_simp
         have HAL:Hid (Upd Non w7 (w7.alloc (.cells #[.int .i64 q.v,.int .i64 q.op,.int .i64 q.imm,.int .i64 q.iv,.slice KA q.kids.length kc] 40))):=Upd.refl.alloc _
         have HS8:=Lib.hid (HS7.out.non HAL.out);have HK8:=Lib.hid (HK7.out.upd HAL.out (fun _ _ f=>f) (fun _ _ _ f=>f));have HQ8:=Lib.hid (PtK.upd HAL.out (fun _ _ _ f=>f) _ _ _ HQ7.out);obtain ⟨hkn,cs8,hko,hkc⟩:=id HK8.out;refine hK.out _ _ ?_ (fun hHeld=>?_)
         ·
          exact trivial
         clear hK K
         try simp only [put_y,put_z]
         refine wpAnyH_ready (rs:=[5]) (by kernel_rfl) (by simp) ?_;refine AllReadyH.cons rfl (fun K hK=>?_) AllReadyH.nil;refine step_app rfl rfl T_pats rfl hko rfl (Sl.new _ _ _) rfl (by simp [Value.oneCell']) (by simp only [maxLen];omega) (by omega) ?_;intro A8 c8 w10 ho10 hu10 hat10
         have HA8:Hid (∀k,At A8 k→w8.heap.size<k):=fun k h=>by
          rcases hat10 k h with h | h
          ·
           exact HAT.out k h
          ·
           have h6:=HS8.out.pat.lt;omega
         have HS10:=Lib.hid (HS8.out.far hu10 (fun k h=>HAT.out k h));have HK10:=Lib.hid (PtO.snoc (G':=fun k=>w8.heap.size<k) HK8.out hkc HQ8.out ho10 hu10 hat10 (fun _ _ h=>h));clear hkn hko hkc ho10 hu10 hat10;have d8:=HS10.out.pat.cell 4;have f8:=HS10.out.pat.frozen 4;refine hK.out _ _ ?_ (fun hHeld=>?_)
         ·
          exact trivial
         clear hK K
         try simp only [put_y,put_z]
         refine wpT 6 ?_
         try simp only [put_y,put_z]
         refine wpAnyH_ready (rs:=[7]) (by kernel_rfl) (by simp) ?_;refine AllReadyH.cons rfl (fun K hK=>?_) AllReadyH.nil;go_simp;have u11:Upd (·=w8.heap.size) w10 (w10.setCell ⟨w8.heap.size,4,none⟩ (.slice A8 (j+1) c8)):=updCell _ _ _ _;have b11:=HS10.out.pat.set_ 4 (.slice A8 (j+1) c8)
         have HS11:Hid (XAp w (w10.setCell ⟨w8.heap.size,4,none⟩ (.slice A8 (j+1) c8)) w8.heap.size p A c T fin y' #[.int .i64 q0.v,.int .i64 q0.op,.int .i64 q0.imm,.int .i64 q0.iv,.slice A8 (j+1) c8]):=HS10.out.setPat u11 (by simpa using b11)
         have HK11:=Lib.hid (HK10.out.upd u11 (fun k h e=>by have:=HA8.out k h;omega) (fun k _ h e=>by omega));refine hK.out _ _ ?_ (fun hHeld=>?_)
         ·
          exact trivial
         clear hK K
         try simp only [put_y,put_z]
         refine wpAnyH_done (by kernel_rfl) ?_ _;clear d8 f8 u11 b11 hHeld
         go_wp2_with fail
         go_roundg (n - (j+1))
         case measure=>rw [Hg.out];omega
         case rel =>
          have hks:=kids_stepX HRK.out H0Y.out (termF_err f) HR7.out HZ.out.1;refine ⟨j+1,A8,c8,ks++[q],y',rfl,by omega,by go_num,HS11.out,HK11.out,HA8.out,HG7.out,HL7.out,hks.1,hks.2,?_,?_⟩
          ·
           rw [sizeL_snoc];have h5:=HZ.out.1 H0Y.out;have h6:=HZ7.out;omega
          ·
           have h5:=HZ.out.2.2;have h6:=HI7.out;omega
        ·
         go_simp;refine CT.out.mono ?_;rintro e w7 ⟨q,KA,kc,y',rfl,hq,h7,hg7,hl7,hi7,hz7,u7,hr7⟩;unfold pv
         go_wp2_with fail
         refine hK.out _ _ ?_ (fun hHeld=>?_)
         ·
          exact trivial
         clear hK K
         try simp only [put_y,put_z]
         have d4:w7.cell? ⟨w8.heap.size,4,none⟩=some (.slice Ak j ck):=(HS.out.call h7 u7).pat.cell 4
         refine wpAnyH_takeM (fun w'=>w'.cell? ⟨w8.heap.size,4,none⟩=some (.slice Ak j ck)) (calm_cell _ _) [5,6,7] (i:=1) (v:=?_) rfl (by kernel_rfl) (by kernel_rfl) (by kernel_rfl) (by kernel_rfl) (fun _ _ _ h=>h) (Or.inl ⟨by rfl,?_⟩) (d4) (by assumption) ?_
         rotate_left
         ·
          intro w hSw;(try dsimp only at hSw);go_simp;try with_reducible rfl
         try simp only [put_y,put_z]
         clear d4;have HS7:=Lib.hid (HS.out.call h7 u7)
         have HLT:Hid (∀k,At Ak k→k<wD.heap.size):=fun k h=>HKD.out.lt h
         have HGD:Hid (w8.heap.size<wD.heap.size):=HS.out.pat.lt
         have HK7:=Lib.hid (HKD.out.upd u7 (fun k h e=>by have h5:=HAT.out k h;have h6:=HS.out.lt;have h7:=HS.out.plt;omega) (fun k _ h e=>by have h6:=HS.out.lt;have h7:=HS.out.plt;omega))
         have HQ7:Hid (PtK w7 (fun k=>w8.heap.size<k∧¬At Ak k) q KA kc):=PtK.mono (fun k _ h=>⟨Nat.lt_of_lt_of_le HGD.out h,fun r=>Nat.lt_irrefl _ (Nat.lt_of_lt_of_le (HLT.out k r) h)⟩) _ _ _ hq
         have HG7:=Lib.hid hg7;have HL7:Hid (y'.left=left):=hl7.trans HL2.out;have HI7:=Lib.hid hi7;have HZ7:=Lib.hid hz7;have HR7:=Lib.hid hr7;clear hq h7 hg7 hl7 hi7 hz7 u7 hr7;refine wpAnyH_ready (rs:=[4]) (by kernel_rfl) (by simp) ?_;refine AllReadyH.cons rfl (fun K hK=>?_) AllReadyH.nil;go_simp
         have HAL:Hid (Upd Non w7 (w7.alloc (.cells #[.int .i64 q.v,.int .i64 q.op,.int .i64 q.imm,.int .i64 q.iv,.slice KA q.kids.length kc] 40))):=Upd.refl.alloc _
         have HS8:=Lib.hid (HS7.out.non HAL.out);have HK8:=Lib.hid (HK7.out.upd HAL.out (fun _ _ f=>f) (fun _ _ _ f=>f));have HQ8:=Lib.hid (PtK.upd HAL.out (fun _ _ _ f=>f) _ _ _ HQ7.out);obtain ⟨hkn,cs8,hko,hkc⟩:=id HK8.out;refine hK.out _ _ ?_ (fun hHeld=>?_)
         ·
          exact trivial
         clear hK K
         try simp only [put_y,put_z]
         refine wpAnyH_ready (rs:=[5]) (by kernel_rfl) (by simp) ?_;refine AllReadyH.cons rfl (fun K hK=>?_) AllReadyH.nil;refine step_app rfl rfl T_pats rfl hko rfl (Sl.new _ _ _) rfl (by simp [Value.oneCell']) (by simp only [maxLen];omega) (by omega) ?_;intro A8 c8 w10 ho10 hu10 hat10
         have HA8:Hid (∀k,At A8 k→w8.heap.size<k):=fun k h=>by
          rcases hat10 k h with h | h
          ·
           exact HAT.out k h
          ·
           have h6:=HS8.out.pat.lt;omega
         have HS10:=Lib.hid (HS8.out.far hu10 (fun k h=>HAT.out k h));have HK10:=Lib.hid (PtO.snoc (G':=fun k=>w8.heap.size<k) HK8.out hkc HQ8.out ho10 hu10 hat10 (fun _ _ h=>h));clear hkn hko hkc ho10 hu10 hat10;have d8:=HS10.out.pat.cell 4;have f8:=HS10.out.pat.frozen 4;refine hK.out _ _ ?_ (fun hHeld=>?_)
         ·
          exact trivial
         clear hK K
         try simp only [put_y,put_z]
         refine wpT 6 ?_
         try simp only [put_y,put_z]
         refine wpAnyH_ready (rs:=[7]) (by kernel_rfl) (by simp) ?_;refine AllReadyH.cons rfl (fun K hK=>?_) AllReadyH.nil;go_simp;have u11:Upd (·=w8.heap.size) w10 (w10.setCell ⟨w8.heap.size,4,none⟩ (.slice A8 (j+1) c8)):=updCell _ _ _ _;have b11:=HS10.out.pat.set_ 4 (.slice A8 (j+1) c8)
         have HS11:Hid (XAp w (w10.setCell ⟨w8.heap.size,4,none⟩ (.slice A8 (j+1) c8)) w8.heap.size p A c T fin y' #[.int .i64 q0.v,.int .i64 q0.op,.int .i64 q0.imm,.int .i64 q0.iv,.slice A8 (j+1) c8]):=HS10.out.setPat u11 (by simpa using b11)
         have HK11:=Lib.hid (HK10.out.upd u11 (fun k h e=>by have:=HA8.out k h;omega) (fun k _ h e=>by omega));refine hK.out _ _ ?_ (fun hHeld=>?_)
         ·
          exact trivial
         clear hK K
         try simp only [put_y,put_z]
         refine wpAnyH_done (by kernel_rfl) ?_ _;clear d8 f8 u11 b11 hHeld
         go_wp2_with fail
         go_roundg (n - (j+1))
         case measure=>rw [Hg.out];omega
         case rel =>
          have hks:=kids_stepX HRK.out H0Y.out (termF_err f) HR7.out HZ.out.1;refine ⟨j+1,A8,c8,ks++[q],y',rfl,by omega,by go_num,HS11.out,HK11.out,HA8.out,HG7.out,HL7.out,hks.1,hks.2,?_,?_⟩
          ·
           rw [sizeL_snoc];have h5:=HZ.out.1 H0Y.out;have h6:=HZ7.out;omega
          ·
           have h5:=HZ.out.2.2;have h6:=HI7.out;omega
       | false =>
        have HR2:=Lib.hid (kids_exitX HRK.out hj HD.out);have CE:=Lib.hid (xExpect_c HS1.out.xd [41] (by have:=HG1.out.1;omega))
        go_wp2_with fail
        refine CE.out.mono ?_;rintro e w6 ⟨rfl,h6,u6⟩;have HS6:=Lib.hid (HS1.out.call h6 u6)
        have HK6:=Lib.hid (HK.out.upd u6 (fun k h e=>by have h5:=HAT.out k h;have h6:=HS1.out.lt;have h7:=HS1.out.plt;omega) (fun k _ h e=>by have h6:=HS1.out.lt;have h7:=HS1.out.plt;omega))
        have v0:=HS6.out.pat.cell 0;have v1:=HS6.out.pat.cell 1;have v2:=HS6.out.pat.cell 2;have v3:=HS6.out.pat.cell 3;have v4:=HS6.out.pat.cell 4;have HB9:=Lib.hid HS6.out.res;clear CE h6 u6 c3 HT;unfold p0 at HB9;have b9:=HB9.out;have rc0:=b9.cell 0;have rc1:=b9.cell 1;have rc2:=b9.cell 2;have rc3:=b9.cell 3;have rc4:=b9.cell 4;have rcf:=b9.frozen;clear b9
        go_wp2_with fail
        rw [set5_eq];have us:=set5_upd w6 w.heap.size (.int .i64 q0.v) (.int .i64 q0.op) (.int .i64 q0.imm) (.int .i64 q0.iv) (.slice Ak j ck);have hkl:ks.length=j:=HK.out.1.symm;refine bodyPost_ret (results_cell_row rfl _ _ w.heap.size 40 _ (0,0) _ rfl (set5_blk HB9.out _ _ _ _ _) Tryz.underlying40 rfl (by kernel_rfl)) rfl ?_
        refine ⟨.mk q0.v q0.op q0.imm q0.iv ks,Ak,ck,exY T fin [41] y,by unfold pv;rw [←hkl];rfl,?_,HS6.out.xd.upd us (fun k _ e=>by omega),exY_good HG1.out,by rw [exY_left,HL2.out,hl],?_,?_,HS6.out.upd.trans us (fun k hk e=>by omega),?_⟩
        ·
         have hpt:PtK w6 (fun k=>w8.heap.size<k) (.mk q0.v q0.op q0.imm q0.iv ks) Ak ck:=HK6.out.view (fun k hk=>HAT.out k hk) (fun k _ q=>q) _ _ _ _;exact PtK.mono (fun k _ q=>by have:=HS6.out.lt;omega) _ _ _ (PtK.upd us (fun k _ q e=>by have:=HS6.out.lt;omega) _ _ _ hpt)
        ·
         have h5:y.i≤(exY T fin [41] y).i:=exY_i;have h6:=HZ.out.2.2;have h7:=H0I.out;omega
        ·
         have h5:y.i≤(exY T fin [41] y).i:=exY_i;have h6:=HZ.out.2.1;have h7:=H0I.out;rw [Pt.size_eq];show 1+Pt.sizeL ks+x.i≤_;omega
        ·
         have h5:=app_finX (f:=f) (left:=left) HW1Y.out HR0.out Hn.out.symm HR2.out HZ.out.1
         have e:y1.ps={ x.ps with i:=x.i+1 }:=by rw [HY1.out];rfl
         rw [e] at h5;rw [HR.out];refine ⟨fun _=>?_,fun q=>absurd HK1.out q⟩;have h6:=h5.1 HW1Y.out
         cases hap:appF T fin left f { x.ps with i:=x.i+1 } with
         | error e=>rw [hap] at h6;exact h6
         | ok v =>
          rw [hap] at h6;refine ⟨h6.1,h6.2.1,h6.2.2.1,?_⟩;have h7:=h6.2.2.2
          have h8:y1.i=x.i+1:=by rw [HY1.out]
          omega
   ·
    have HN40:Hid (s≠[40]):=h40;have HR:=Lib.hid (HRB.out (fun a' b' e hb=>by have:=Hm.out;rw [e] at this;exact absurd this.symm h2) HN40.out);clear HRB HTK HNS HNN HS HT hf h40;go_enter Tryz.func83,Tryz.ntmps83
    go_wp2_with fail
    refine CO.out.mono ?_;rintro e w2 ⟨rfl,u2⟩;have CN2:=Lib.hid (CN.out _ u2)
    go_wp2_with fail
    refine CN2.out.mono ?_;rintro e w3 ⟨rfl,h3,u3⟩;have H3:=Lib.hid h3;have U3:Hid (Upd (·=p) w w3):=(upd_eq (HU1.out.then_non u2)).trans u3 (fun _ _ e=>e);have HB3:=Lib.hid ((HB1.out.upd u2 (fun f=>f)).upd u3 (by omega));clear CO CN CN2 h3 u2 u3 e1
    go_wp2_with fail
    refine (CP.out w3).mono ?_;rintro e w4 ⟨rfl,rfl⟩;clear CP
    have hfq:(qs.toList==[40])=false:=by
     rw [←Hqs.out,xktl];exact beq_eq_false_iff_ne.2 HN40.out
    have CF:=Lib.hid (fun W (u:Upd Non w4 W)=>xFail_c (H3.out.non u) 2 off)
    go_wp2_with fail
    refine (CF.out _ (by first | exact Upd.refl | assumption)).mono ?_;rintro e w9 ⟨rfl,h9,u9⟩;have HB9:=Lib.hid (HB3.out.upd u9 (by omega));have H9:=Lib.hid h9;have U9:Hid (Upd (·=p) w w9):=U3.out.trans u9 (fun _ _ e=>e);clear CF h9 u9;unfold p0 at HB9;have b9:=HB9.out;have rc0:=b9.cell 0;have rc1:=b9.cell 1;have rc2:=b9.cell 2;have rc3:=b9.cell 3;have rc4:=b9.cell 4
    have rcf:=b9.frozen;clear b9
    go_wp2_with fail
    rw [set5_eq];have us:=set5_upd w9 w.heap.size;refine bodyPost_ret (results_cell_row rfl _ _ w.heap.size 40 _ (0,0) _ rfl (set5_blk HB9.out _ _ _ _ _) Tryz.underlying40 rfl (by kernel_rfl)) rfl ?_
    refine ⟨.mk 0 0 0 0 [],none,0,y1.fail 2 off,rfl,PtK.leaf,H9.out.upd (us _ _ _ _ _) (fun k _ e=>by omega),HNG.out.1.fail _ _,by rw [xfail_left];exact HNG.out.2.2.1,by rw [xfail_i];exact HNG.out.2.1,?_,U9.out.trans (us _ _ _ _ _) (fun k hk e=>by omega),HR.out⟩
    rw [Pt.size_leaf,xfail_i];have:=HNG.out.2.1;omega
theorem xTerm_any {T:List (Bs×Nat)} {fin:Nat} (hT:XOk T) (left:Bool):∀(f:Nat) {w:World} {p:Nat} {A:Option Addr} {c:Nat} {x:Xs},XdS w p A c T fin x→GoodX T x→x.left=left→(x.why=0→T.length<x.i+(f+1)) →
  Calls Tryz.prog 83 #[.pointer (some ⟨p,0,none⟩)] w (XTermP w p A c T fin x (termF T fin left (f+1) x.ps))
 | 0,_,_,_,_,_,h,hx,hl,hf=>xTerm_c hT left 0 (fun {w p A c x} h hx hl h0 hf=>absurd hx.1 (by omega)) h hx hl hf
 | f+1,_,_,_,_,_,h,hx,hl,hf=>xTerm_c hT left (f+1) (fun {w p A c x} h hx hl h0 hf=>xTerm_any hT left f h hx hl (fun _=>hf)) h hx hl hf
def XNumP (w:World) (p:Nat) (A:Option Addr) (c:Nat) (T:List (Bs×Nat)) (fin:Nat) (x:Xs) (r:Except Er (Nat×PS)) (e:Ending) (w':World):Prop :=
 ∃(n:Nat) (y:Xs),e=.returned (.int .i64 n)∧XdS w' p A c T fin y∧GoodX T y∧y.left=x.left∧x.i≤y.i∧Upd (·=p) w w'∧ResX x y r (fun v=>v=n)
def XIntP (w:World) (p:Nat) (A:Option Addr) (c:Nat) (T:List (Bs×Nat)) (fin:Nat) (x:Xs) (r:Except Er (Int×PS)) (e:Ending) (w':World):Prop :=
 ∃(n:Int) (y:Xs),e=.returned (.int .i64 n)∧XdS w' p A c T fin y∧GoodX T y∧y.left=x.left∧x.i≤y.i∧Upd (·=p) w w'∧ResX x y r (fun v=>v=n)
theorem bad_resX {α:Type} {T:List (Bs×Nat)} {fin:Nat} {x:Xs} {f:Bs→PS→Option (α×PS)} {P:α→Prop} (hf:∀s,tkF T x.i=some s→f s x.ps=none):ResX x ((nxY T fin x).fail 2 (offF T fin x.i)) (wrdF T fin f x.ps) P:=by
 by_cases h0:x.why=0
 ·
  by_cases q:x.i<T.length
  ·
   obtain ⟨t,ht⟩:=tk_some q;rw [wrd_bad (z:=x.ps) ht (hf t ht),(nx_some (fin:=fin) h0 ht).2.1];exact ResX.err (fun _=>h0) (fun q=>absurd h0 q)
  ·
   rw [wrd_none (z:=x.ps) (tk_none q),(nx_none (fin:=fin) (fun r=>q r.2)).2,xfail_why (xfail_ne _ (by decide))];exact ResX.err (fun _=>h0) (fun q=>absurd h0 q)
 ·
  rw [(nx_none (fin:=fin) (fun r=>h0 r.1)).2,xfail_why h0,xfail_why h0];exact ⟨fun q=>absurd q h0,fun _=>⟨rfl,rfl⟩⟩
set_option maxRecDepth 100000 in
set_option maxHeartbeats 2000000 in
theorem xNumber_c {T:List (Bs×Nat)} {fin:Nat} (hT:XOk T) {w:World} {p:Nat} {A:Option Addr} {c:Nat} {x:Xs} (h:XdS w p A c T fin x) (hx:GoodX T x) :
  Calls Tryz.prog 109 #[.pointer (some ⟨p,0,none⟩)] w (XIntP w p A c T fin x (numbF T fin x.ps)):=by
 have hTl:=hT.len;have hxi:=hx.1;have CO:=Lib.hid (xOffset_c h);have CN:=Lib.hid (fun W (u:Upd Non w W)=>xNext_c (h.non u) (by omega));have HX:=Lib.hid hx;have HNG:=Lib.hid (nxY_good (fin:=fin) hx)
 have hsl:(nxS T x).length≤20000:=by
  by_cases q:x.why=0∧x.i<T.length
  ·
   obtain ⟨s,hs⟩:=tk_some q.2;rw [(nx_some (fin:=fin) q.1 hs).1];exact (hT.tk hs).2
  ·
   rw [(nx_none (fin:=fin) q).1];simp
 have HTK:Hid (nxS T x≠[]→x.why=0∧tkF T x.i=some (nxS T x)∧nxY T fin x={ x with i:=x.i+1 }∧x.i<T.length):=fun hne=>by
  by_cases q:x.why=0∧x.i<T.length
  ·
   obtain ⟨t,ht⟩:=tk_some q.2;obtain ⟨e1,e2,e3⟩:=nx_some (fin:=fin) q.1 ht;rw [e1];exact ⟨q.1,ht,e2,e3⟩
  ·
   exact absurd (nx_none (fin:=fin) q).1 hne
 have HTS:Hid (∀t,x.why=0→tkF T x.i=some t→t=nxS T x):=fun t h0 ht=>(nx_some (fin:=fin) h0 ht).1.symm
 obtain ⟨off,Hoff⟩:=nm (offF T fin x.i);obtain ⟨s,Hs⟩:=nm (nxS T x);obtain ⟨y1,Hy1⟩:=nm (nxY T fin x);rw [Hs.out] at hsl CN HTK HTS;rw [Hy1.out] at CN HNG HTK;rw [Hoff.out] at CO;have CP:=Lib.hid (fun W=>r1Parse_c s W (by omega));obtain ⟨qs,Hqs⟩:=nm (kstr s);rw [Hqs.out] at CN CP
 have HRB:Hid (decF s=none→ResX x (y1.fail 2 off) (numbF T fin x.ps) (fun v=>v=0)):=fun hd=>by
  by_cases h0:x.why=0
  ·
   have:=bad_resX (fin:=fin) (x:=x) (f:=fun s x=>(decF s).map fun n=>(n,x)) (P:=fun v=>v=0) (fun t ht=>by rw [HTS.out t h0 ht,hd];rfl);rw [Hy1.out,Hoff.out] at this;exact this
  ·
   have e:=(nx_none (T:=T) (fin:=fin) (x:=x) (fun r=>h0 r.1)).2;rw [Hy1.out] at e;rw [e,xfail_why h0,xfail_why h0];exact ⟨fun q=>absurd q h0,fun _=>⟨rfl,rfl⟩⟩
 have HRG:Hid (∀n,decF s=some n→ResX x y1 (numbF T fin x.ps) (fun v=>v=n)):=fun n hd=>by
  obtain ⟨k1,k2,k3,k4⟩:=HTK.out (fun q=>by rw [q] at hd;cases hd);unfold numbF;rw [wrd_good (z:=x.ps) k2 (dec_pn hd) (u:=x.ps) (a:=n) (by rw [hd];rfl),k3];exact ⟨fun _=>⟨k1,rfl,rfl⟩,fun q=>absurd k1 q⟩
 obtain ⟨r,Hr⟩:=nm (numbF T fin x.ps);rw [Hr.out] at HRB HRG ⊢;clear h hx hT HTK HTS
 cases hd:decF s with
 | none =>
  rw [hd] at CP;simp only [Option.getD_none,Option.isSome_none] at CP;have HR:=Lib.hid (HRB.out hd);clear HRB HRG hd;go_enter Tryz.func109,Tryz.ntmps109
  go_wp2_with fail
  refine CO.out.mono ?_;rintro e w2 ⟨rfl,u2⟩;have CN2:=Lib.hid (CN.out _ u2)
  go_wp2_with fail
  refine CN2.out.mono ?_;rintro e w3 ⟨rfl,h3,u3⟩;have H3:=Lib.hid h3;have U3:Hid (Upd (·=p) w w3):=(upd_eq u2).trans u3 (fun _ _ e=>e);clear CO CN CN2 h3 u2 u3
  go_wp2_with fail
  refine (CP.out _).mono ?_;rintro e w4 ⟨rfl,rfl⟩;have CF:=Lib.hid (xFail_c H3.out 2 off)
  go_wp2_with fail
  refine CF.out.mono ?_;rintro e w9 ⟨rfl,h9,u9⟩
  go_wp2_with fail
  go_ret
  exact ⟨0,y1.fail 2 off,rfl,h9,HNG.out.1.fail _ _,by rw [xfail_left];exact HNG.out.2.2.1,by rw [xfail_i];exact HNG.out.2.1,U3.out.trans u9 (fun _ _ e=>e),HR.out⟩
 | some n =>
  rw [hd] at CP;simp only [Option.getD_some,Option.isSome_some] at CP;have HR:=Lib.hid (HRG.out n hd);clear HRB HRG hd;go_enter Tryz.func109,Tryz.ntmps109
  go_wp2_with fail
  refine CO.out.mono ?_;rintro e w2 ⟨rfl,u2⟩;have CN2:=Lib.hid (CN.out _ u2)
  go_wp2_with fail
  refine CN2.out.mono ?_;rintro e w3 ⟨rfl,h3,u3⟩;have H3:=Lib.hid h3;have U3:Hid (Upd (·=p) w w3):=(upd_eq u2).trans u3 (fun _ _ e=>e);clear CO CN CN2 h3 u2 u3
  go_wp2_with fail
  refine (CP.out _).mono ?_;rintro e w4 ⟨rfl,rfl⟩
  go_wp2_with fail
  go_ret;exact ⟨n,y1,rfl,H3.out,HNG.out.1,HNG.out.2.2.1,HNG.out.2.1,U3.out,HR.out⟩
theorem lookF_false (l:Bs) (b:UInt8):(lookF l b false).2=l:=by
 unfold lookF
 split <;> rfl
set_option maxRecDepth 100000 in
set_option maxHeartbeats 2000000 in
theorem xImmVar_c {T:List (Bs×Nat)} {fin:Nat} (hT:XOk T) {w:World} {p:Nat} {A:Option Addr} {c:Nat} {x:Xs} (h:XdS w p A c T fin x) (hx:GoodX T x) (hl:x.left=false) :
  Calls Tryz.prog 110 #[.pointer (some ⟨p,0,none⟩)] w (XNumP w p A c T fin x (ivarF T fin x.ps)):=by
 have hTl:=hT.len;have hxi:=hx.1;have CO:=Lib.hid (xOffset_c h);have CN:=Lib.hid (fun W (u:Upd Non w W)=>xNext_c (h.non u) (by omega));have HX:=Lib.hid hx;have HNG:=Lib.hid (nxY_good (fin:=fin) hx)
 have hsl:(nxS T x).length≤20000:=by
  by_cases q:x.why=0∧x.i<T.length
  ·
   obtain ⟨s,hs⟩:=tk_some q.2;rw [(nx_some (fin:=fin) q.1 hs).1];exact (hT.tk hs).2
  ·
   rw [(nx_none (fin:=fin) q).1];simp
 have HTK:Hid (nxS T x≠[]→x.why=0∧tkF T x.i=some (nxS T x)∧nxY T fin x={ x with i:=x.i+1 }∧x.i<T.length):=fun hne=>by
  by_cases q:x.why=0∧x.i<T.length
  ·
   obtain ⟨t,ht⟩:=tk_some q.2;obtain ⟨e1,e2,e3⟩:=nx_some (fin:=fin) q.1 ht;rw [e1];exact ⟨q.1,ht,e2,e3⟩
  ·
   exact absurd (nx_none (fin:=fin) q).1 hne
 have HTS:Hid (∀t,x.why=0→tkF T x.i=some t→t=nxS T x):=fun t h0 ht=>(nx_some (fin:=fin) h0 ht).1.symm
 obtain ⟨off,Hoff⟩:=nm (offF T fin x.i);obtain ⟨s,Hs⟩:=nm (nxS T x);obtain ⟨y1,Hy1⟩:=nm (nxY T fin x);rw [Hs.out] at hsl CN HTK HTS;rw [Hy1.out] at CN HNG HTK;rw [Hoff.out] at CO;have CL:=Lib.hid (fun W=>xIsLetter_c (kstr s) W);rw [kx_kstr] at CL;obtain ⟨qs,Hqs⟩:=nm (kstr s);rw [Hqs.out] at CN CL
 have HRB:Hid (isLt s=false→ResX x (y1.fail 2 off) (ivarF T fin x.ps) (fun v=>v=0)):=fun hd=>by
  by_cases h0:x.why=0
  ·
   have:=bad_resX (fin:=fin) (x:=x) (f:=fun s x=>match s with
     | [c]=>if isLw c=true∧0<(lookF x.ms c false).1 then some ((lookF x.ms c false).1,x) else none
     | _=>none) (P:=fun v=>v=0) (fun t ht=>by
    rw [HTS.out t h0 ht]
    match s,hd with
    | [],_=>rfl
    | [c],hd=>exact if_neg (fun q=>by rw [show isLt [c]=isLw c from rfl,q.1] at hd;cases hd)
    | _::_::_,_=>rfl)
   rw [Hy1.out,Hoff.out] at this;exact this
  ·
   have e:=(nx_none (T:=T) (fin:=fin) (x:=x) (fun r=>h0 r.1)).2;rw [Hy1.out] at e;rw [e,xfail_why h0,xfail_why h0];exact ⟨fun q=>absurd q h0,fun _=>⟨rfl,rfl⟩⟩
 have HRG:Hid (∀b,s=[b]→isLw b=true→ResX x (xvY y1 off (fun v=>{ y1 with ms:=v }) (lookF y1.ms b y1.left)) (ivarF T fin x.ps) (fun v=>v=(lookF y1.ms b y1.left).1)∧GoodX T (xvY y1 off (fun v=>{ y1 with ms:=v }) (lookF y1.ms b y1.left))∧(xvY y1 off (fun v=>{ y1 with ms:=v }) (lookF y1.ms b y1.left)).left=x.left∧x.i≤(xvY y1 off (fun v=>{ y1 with ms:=v }) (lookF y1.ms b y1.left)).i):=fun b hb hlw=>by
  obtain ⟨k1,k2,k3,k4⟩:=HTK.out (by rw [hb];simp);have hyl:y1.left=false:=HNG.out.2.2.1.trans hl;have hym:y1.ms=x.ms:=HNG.out.2.2.2.2
  have hpn:isPn ([b].headD 0)=false:=by
   simp only [isLw,decide_eq_true_eq] at hlw;show isPn b=false;simp only [isPn,decide_eq_false_iff_not];omega
  obtain ⟨K,HK⟩:=nm (lookF y1.ms b y1.left)
  have hK:K.2=y1.ms:=by rw [←HK.out,hyl];exact lookF_false _ _
  have hKx:lookF x.ms b false=K:=by rw [←HK.out,hyl,hym]
  rw [HK.out];unfold xvY
  by_cases hk:K.1=0
  ·
   rw [if_pos hk];refine ⟨?_,HNG.out.1.fail _ _,by rw [xfail_left];exact HNG.out.2.2.1,by rw [xfail_i];exact HNG.out.2.1⟩;unfold ivarF;rw [wrd_bad (z:=x.ps) k2 (by rw [hb];exact if_neg (fun q=>by have:=q.2;rw [show x.ps.ms=x.ms from rfl,hKx] at this;omega)),k3,←Hoff.out];exact ResX.err (fun _=>k1) (fun q=>absurd k1 q)
  ·
   rw [if_neg hk,hK];refine ⟨?_,HNG.out.1,HNG.out.2.2.1,HNG.out.2.1⟩;unfold ivarF
   have ha:(if isLw b=true∧0<(lookF x.ms b false).1 then some ((lookF x.ms b false).1,x.ps) else none)=some (K.1,x.ps):=by rw [hKx,if_pos ⟨hlw,by omega⟩]
   rw [wrd_good (z:=x.ps) k2 (by rw [hb];exact hpn) (u:=x.ps) (a:=K.1) (by rw [hb];exact ha)];show ResX x y1 _ _;rw [k3];exact ⟨fun _=>⟨k1,rfl,rfl⟩,fun q=>absurd k1 q⟩
 obtain ⟨r,Hr⟩:=nm (ivarF T fin x.ps);rw [Hr.out] at HRB HRG ⊢
 cases hlt:isLt s with
 | false =>
  rw [hlt] at CL;have HR:=Lib.hid (HRB.out hlt);clear HRB HRG hlt h hx hT HTK HTS;go_enter Tryz.func110,Tryz.ntmps110
  go_wp2_with fail
  refine CO.out.mono ?_;rintro e w2 ⟨rfl,u2⟩;have CN2:=Lib.hid (CN.out _ u2)
  go_wp2_with fail
  refine CN2.out.mono ?_;rintro e w3 ⟨rfl,h3,u3⟩;have H3:=Lib.hid h3;have U3:Hid (Upd (·=p) w w3):=(upd_eq u2).trans u3 (fun _ _ e=>e);clear CO CN CN2 h3 u2 u3
  go_wp2_with fail
  refine (CL.out _).mono ?_;rintro e w4 ⟨rfl,rfl⟩;have CF:=Lib.hid (xFail_c H3.out 2 off)
  go_wp2_with fail
  refine CF.out.mono ?_;rintro e w9 ⟨rfl,h9,u9⟩
  go_wp2_with fail
  go_ret
  exact ⟨0,y1.fail 2 off,rfl,h9,HNG.out.1.fail _ _,by rw [xfail_left];exact HNG.out.2.2.1,by rw [xfail_i];exact HNG.out.2.1,U3.out.trans u9 (fun _ _ e=>e),HR.out⟩
 | true =>
  rw [hlt] at CL;obtain ⟨b,rfl,hlw⟩:=isLt_some hlt;have HRS:=Lib.hid (HRG.out b rfl hlw);clear HRB HRG hlt h hx hT HTK HTS;go_enter Tryz.func110,Tryz.ntmps110
  go_wp2_with fail
  refine CO.out.mono ?_;rintro e w2 ⟨rfl,u2⟩;have CN2:=Lib.hid (CN.out _ u2)
  go_wp2_with fail
  refine CN2.out.mono ?_;rintro e w3 ⟨rfl,h3,u3⟩;have H3:=Lib.hid h3;have U3:Hid (Upd (·=p) w w3):=(upd_eq u2).trans u3 (fun _ _ e=>e);clear CO CN CN2 h3 u2 u3
  go_wp2_with fail
  refine (CL.out _).mono ?_;rintro e w4 ⟨rfl,rfl⟩
  have CK:=Lib.hid (xVariable_g H3.out 6 y1.ms (fun v=>{ y1 with ms:=v }) rfl (fun v=>rfl) (by have h5:=HNG.out.1.2.2;have h6:=HNG.out.1.1;omega) b off)
  rw [Hqs.out] at CK
  go_wp2_with fail
  refine CK.out.mono ?_;rintro e w7 ⟨rfl,h7,u7⟩
  go_wp2_with fail
  go_ret;exact ⟨_,_,rfl,h7,HRS.out.2.1,HRS.out.2.2.1,HRS.out.2.2.2,U3.out.trans u7 (fun _ _ e=>e),HRS.out.1⟩
set_option maxRecDepth 100000 in
set_option maxHeartbeats 2000000 in
theorem xPatternVar_c {T:List (Bs×Nat)} {fin:Nat} (hT:XOk T) {w:World} {p:Nat} {A:Option Addr} {c:Nat} {x:Xs} (h:XdS w p A c T fin x) (hx:GoodX T x) (hl:x.left=false) :
  Calls Tryz.prog 108 #[.pointer (some ⟨p,0,none⟩)] w (XNumP w p A c T fin x (pvarF T fin x.ps)):=by
 have hTl:=hT.len;have hxi:=hx.1;have CO:=Lib.hid (xOffset_c h);have CN:=Lib.hid (fun W (u:Upd Non w W)=>xNext_c (h.non u) (by omega));have HX:=Lib.hid hx;have HNG:=Lib.hid (nxY_good (fin:=fin) hx)
 have hsl:(nxS T x).length≤20000:=by
  by_cases q:x.why=0∧x.i<T.length
  ·
   obtain ⟨s,hs⟩:=tk_some q.2;rw [(nx_some (fin:=fin) q.1 hs).1];exact (hT.tk hs).2
  ·
   rw [(nx_none (fin:=fin) q).1];simp
 have HTK:Hid (nxS T x≠[]→x.why=0∧tkF T x.i=some (nxS T x)∧nxY T fin x={ x with i:=x.i+1 }∧x.i<T.length):=fun hne=>by
  by_cases q:x.why=0∧x.i<T.length
  ·
   obtain ⟨t,ht⟩:=tk_some q.2;obtain ⟨e1,e2,e3⟩:=nx_some (fin:=fin) q.1 ht;rw [e1];exact ⟨q.1,ht,e2,e3⟩
  ·
   exact absurd (nx_none (fin:=fin) q).1 hne
 have HTS:Hid (∀t,x.why=0→tkF T x.i=some t→t=nxS T x):=fun t h0 ht=>(nx_some (fin:=fin) h0 ht).1.symm
 obtain ⟨off,Hoff⟩:=nm (offF T fin x.i);obtain ⟨s,Hs⟩:=nm (nxS T x);obtain ⟨y1,Hy1⟩:=nm (nxY T fin x);rw [Hs.out] at hsl CN HTK HTS;rw [Hy1.out] at CN HNG HTK;rw [Hoff.out] at CO;have hqz:(kstr s).size=s.length:=kstr_size s;obtain ⟨qs,Hqs⟩:=nm (kstr s);rw [Hqs.out] at CN hqz
 have HRB:Hid ((∀b,s=[63,b]→isLw b=true→False)→ResX x (y1.fail 2 off) (pvarF T fin x.ps) (fun v=>v=0)):=fun hd=>by
  by_cases h0:x.why=0
  ·
   have:=bad_resX (fin:=fin) (x:=x) (f:=fun s x=>if 0<(varF s 63 x.vs false).1 then some ((varF s 63 x.vs false).1,x) else none) (P:=fun v=>v=0) (fun t ht=>by
    rw [HTS.out t h0 ht];rw [varF_no (c:=63) (fun a b e hb q=>hd b (by rw [e,show a=63 from UInt8.toNat_inj.1 q]) hb)]
    exact if_neg (Nat.lt_irrefl 0))
   rw [Hy1.out,Hoff.out] at this;exact this
  ·
   have e:=(nx_none (T:=T) (fin:=fin) (x:=x) (fun r=>h0 r.1)).2;rw [Hy1.out] at e;rw [e,xfail_why h0,xfail_why h0];exact ⟨fun q=>absurd q h0,fun _=>⟨rfl,rfl⟩⟩
 have HRG:Hid (∀b,s=[63,b]→isLw b=true→ResX x (xvY y1 off (fun v=>{ y1 with vs:=v }) (lookF y1.vs b y1.left)) (pvarF T fin x.ps) (fun v=>v=(lookF y1.vs b y1.left).1)∧GoodX T (xvY y1 off (fun v=>{ y1 with vs:=v }) (lookF y1.vs b y1.left))∧(xvY y1 off (fun v=>{ y1 with vs:=v }) (lookF y1.vs b y1.left)).left=x.left∧x.i≤(xvY y1 off (fun v=>{ y1 with vs:=v }) (lookF y1.vs b y1.left)).i):=fun b hb hlw=>by
  obtain ⟨k1,k2,k3,k4⟩:=HTK.out (by rw [hb];simp);have hyl:y1.left=false:=HNG.out.2.2.1.trans hl;have hym:y1.vs=x.vs:=HNG.out.2.2.2.1
  have hvf:varF [63,b] 63 x.vs false=lookF x.vs b false:=by
   show (if (63:UInt8).toNat=63∧isLw b=true then lookF x.vs b false else (0,x.vs))=_;rw [if_pos ⟨rfl,hlw⟩]
  obtain ⟨K,HK⟩:=nm (lookF y1.vs b y1.left)
  have hK:K.2=y1.vs:=by rw [←HK.out,hyl];exact lookF_false _ _
  have hKx:lookF x.vs b false=K:=by rw [←HK.out,hyl,hym]
  rw [hKx] at hvf;rw [HK.out];unfold xvY
  by_cases hk:K.1=0
  ·
   rw [if_pos hk];refine ⟨?_,HNG.out.1.fail _ _,by rw [xfail_left];exact HNG.out.2.2.1,by rw [xfail_i];exact HNG.out.2.1⟩;unfold pvarF
   have ha:(if 0<(varF [63,b] 63 x.vs false).1 then some ((varF [63,b] 63 x.vs false).1,x.ps) else none)=none:=by rw [hvf,if_neg (by omega)]
   rw [wrd_bad (z:=x.ps) k2 (by rw [hb];exact ha),k3,←Hoff.out];exact ResX.err (fun _=>k1) (fun q=>absurd k1 q)
  ·
   rw [if_neg hk,hK];refine ⟨?_,HNG.out.1,HNG.out.2.2.1,HNG.out.2.1⟩;unfold pvarF
   have ha:(if 0<(varF [63,b] 63 x.vs false).1 then some ((varF [63,b] 63 x.vs false).1,x.ps) else none)=some (K.1,x.ps):=by rw [hvf,if_pos (by omega)]
   rw [wrd_good (z:=x.ps) k2 (by rw [hb];rfl) (u:=x.ps) (a:=K.1) (by rw [hb];exact ha)];show ResX x y1 _ _;rw [k3];exact ⟨fun _=>⟨k1,rfl,rfl⟩,fun q=>absurd k1 q⟩
 obtain ⟨r,Hr⟩:=nm (pvarF T fin x.ps);rw [Hr.out] at HRB HRG ⊢;clear h hx hT HTK HTS
 by_cases h2:s.length=2
 ·
  obtain ⟨a,b,rfl⟩:∃a b,s=[a,b]:=by
   match s,h2 with
   | [a,b],_=>exact ⟨a,b,rfl⟩
  have hsl1:∀W,(Instr.slice 9 (.string qs) (some (.int .i64 (1:Int))) none none).run Tryz.prog W=.ok (.string (kstr [b])) W:=fun W=>by
   have:=run_from_str (s:=[a,b]) (n:=2) (i:=1) rfl (by omega) W;rw [Hqs.out] at this;exact this
  have CL:=Lib.hid (fun W=>xIsLetter_c (kstr [b]) W);rw [kx_kstr,show isLt [b]=isLw b from rfl] at CL;have hqz2:qs.size=2:=hqz
  have i0:=fun W=>run_at_str hqz2 (show 0<2 by omega) W
  rw [←Hqs.out,kx_kstr,show ([a,b]:Bs).getD 0 0=a from rfl,show ((0:Nat):Int)=0 from rfl,Hqs.out] at i0;obtain ⟨qb,Hqb⟩:=nm (kstr [b]);rw [Hqb.out] at hsl1 CL;obtain ⟨lw,Hlw⟩:=nm (isLw b);rw [Hlw.out] at CL;clear h2 hqz
  by_cases h63:a.toNat=63
  ·
   obtain rfl:a=63:=UInt8.toNat_inj.1 h63;have f63:((((63:UInt8).toNat:Nat):Int) != 63)=false:=rfl
   cases lw with
   | false =>
    have HR:=Lib.hid (HRB.out (fun b' e hb=>by injection e with _ e;injection e with e _;subst e;rw [Hlw.out] at hb;cases hb));clear HRB HRG h63;go_enter Tryz.func108,Tryz.ntmps108
    go_wp2_with fail
    refine CO.out.mono ?_;rintro e w2 ⟨rfl,u2⟩;have CN2:=Lib.hid (CN.out _ u2)
    go_wp2_with fail
    refine CN2.out.mono ?_;rintro e w3 ⟨rfl,h3,u3⟩;have H3:=Lib.hid h3;have U3:Hid (Upd (·=p) w w3):=(upd_eq u2).trans u3 (fun _ _ e=>e);clear CO CN CN2 h3 u2 u3
    go_wp2_with fail
    refine (CL.out _).mono ?_;rintro e w4 ⟨rfl,rfl⟩;have CF:=Lib.hid (xFail_c H3.out 2 off)
    go_wp2_with fail
    refine CF.out.mono ?_;rintro e w9 ⟨rfl,h9,u9⟩
    go_wp2_with fail
    go_ret
    exact ⟨0,y1.fail 2 off,rfl,h9,HNG.out.1.fail _ _,by rw [xfail_left];exact HNG.out.2.2.1,by rw [xfail_i];exact HNG.out.2.1,U3.out.trans u9 (fun _ _ e=>e),HR.out⟩
   | true =>
    have HRS:=Lib.hid (HRG.out b rfl Hlw.out);clear HRB HRG h63;go_enter Tryz.func108,Tryz.ntmps108
    go_wp2_with fail
    refine CO.out.mono ?_;rintro e w2 ⟨rfl,u2⟩;have CN2:=Lib.hid (CN.out _ u2)
    go_wp2_with fail
    refine CN2.out.mono ?_;rintro e w3 ⟨rfl,h3,u3⟩;have H3:=Lib.hid h3;have U3:Hid (Upd (·=p) w w3):=(upd_eq u2).trans u3 (fun _ _ e=>e);clear CO CN CN2 h3 u2 u3
    go_wp2_with fail
    refine (CL.out _).mono ?_;rintro e w4 ⟨rfl,rfl⟩;clear CL
    go_upto_region 6 with fail
    obtain ⟨wD,HwD⟩:=nm w4.drew
    have uD:Upd Non w4 wD:=by rw [←HwD.out];exact Upd.refl.drew
    have CK:=Lib.hid (xVariable_g (H3.out.non uD) 5 y1.vs (fun v=>{ y1 with vs:=v }) rfl (fun v=>rfl) (by have h5:=HNG.out.1.2.1;have h6:=HNG.out.1.1;omega) b off)
    rw [Hqb.out] at CK;refine wp_region_held_drew (S:=fun _=>True) (by kernel_rfl) trivial (fun hHeld=>?_);rw [HwD.out];refine wpT 0 ?_
    try simp only [put_y,put_z]
    refine wpT 1 ?_
    try simp only [put_y,put_z]
    refine wpT 2 ?_
    try simp only [put_y,put_z]
    refine wpT 3 ?_
    try simp only [put_y,put_z]
    refine wpT 4 ?_
    try simp only [put_y,put_z]
    refine wpT 5 ?_
    try simp only [put_y,put_z]
    refine wpT 6 ?_
    try simp only [put_y,put_z]
    refine wpAnyH_ready (rs:=[7]) (by kernel_rfl) (by simp) ?_;refine AllReadyH.cons rfl (fun K hK=>?_) AllReadyH.nil;go_simp;refine CK.out.mono ?_;rintro e w7 ⟨rfl,h7,u7⟩
    go_wp2_with fail
    refine hK.out _ _ ?_ (fun hHeld=>?_)
    ·
     exact trivial
    clear hK K
    try simp only [put_y,put_z]
    refine wpT 8 ?_
    try simp only [put_y,put_z]
    refine wpAnyH_done (by kernel_rfl) ?_ _
    go_wp2_with fail
    go_ret;exact ⟨_,_,rfl,h7,HRS.out.2.1,HRS.out.2.2.1,HRS.out.2.2.2,(U3.out.then_non uD).trans u7 (fun _ _ e=>e),HRS.out.1⟩
  ·
   have f63:(((a.toNat:Nat):Int) != 63)=true:=by simp;omega
   have HR:=Lib.hid (HRB.out (fun b' e hb=>by injection e with e _;subst e;exact h63 rfl));clear HRB HRG h63;go_enter Tryz.func108,Tryz.ntmps108
   go_wp2_with fail
   refine CO.out.mono ?_;rintro e w2 ⟨rfl,u2⟩;have CN2:=Lib.hid (CN.out _ u2)
   go_wp2_with fail
   refine CN2.out.mono ?_;rintro e w3 ⟨rfl,h3,u3⟩;have H3:=Lib.hid h3;have U3:Hid (Upd (·=p) w w3):=(upd_eq u2).trans u3 (fun _ _ e=>e);clear CO CN CN2 h3 u2 u3;have CF:=Lib.hid (xFail_c H3.out 2 off)
   go_wp2_with fail
   refine CF.out.mono ?_;rintro e w9 ⟨rfl,h9,u9⟩
   go_wp2_with fail
   go_ret
   exact ⟨0,y1.fail 2 off,rfl,h9,HNG.out.1.fail _ _,by rw [xfail_left];exact HNG.out.2.2.1,by rw [xfail_i];exact HNG.out.2.1,U3.out.trans u9 (fun _ _ e=>e),HR.out⟩
 ·
  have fm:(((s.length:Nat):Int) != 2)=true:=by simp;omega
  obtain ⟨m,Hm⟩:=nm s.length;rw [Hm.out] at fm hqz;have HR:=Lib.hid (HRB.out (fun b' e hb=>h2 (by rw [e];rfl)));clear HRB HRG h2;go_enter Tryz.func108,Tryz.ntmps108
  go_wp2_with fail
  refine CO.out.mono ?_;rintro e w2 ⟨rfl,u2⟩;have CN2:=Lib.hid (CN.out _ u2)
  go_wp2_with fail
  refine CN2.out.mono ?_;rintro e w3 ⟨rfl,h3,u3⟩;have H3:=Lib.hid h3;have U3:Hid (Upd (·=p) w w3):=(upd_eq u2).trans u3 (fun _ _ e=>e);clear CO CN CN2 h3 u2 u3;have CF:=Lib.hid (xFail_c H3.out 2 off)
  go_wp2_with fail
  refine CF.out.mono ?_;rintro e w9 ⟨rfl,h9,u9⟩
  go_wp2_with fail
  go_ret
  exact ⟨0,y1.fail 2 off,rfl,h9,HNG.out.1.fail _ _,by rw [xfail_left];exact HNG.out.2.2.1,by rw [xfail_i];exact HNG.out.2.1,U3.out.trans u9 (fun _ _ e=>e),HR.out⟩
theorem ResX.bind {α β:Type} {x y z:Xs} {r1:Except Er (α×PS)} {a:α} {g:α→PS→Except Er (β×PS)} {Q:β→Prop} (h1:ResX x y r1 (fun v=>v=a)) (hne:∀e,r1=.error e→e.1≠0) (h2:ResX y z (g a y.ps) Q):ResX x z (bindE r1 fun v=>g v.1 v.2) Q:=by
 refine ⟨fun h0=>?_,fun h0=>?_⟩
 ·
  have h3:=h1.1 h0
  cases r1 with
  | error e =>
   have hy:y.why≠0:=by rw [h3.1];exact hne e rfl
   have h4:=h2.2 hy;exact ⟨h4.1.trans h3.1,h4.2.trans h3.2⟩
  | ok v =>
   obtain ⟨v,ps⟩:=v;obtain ⟨hy,rfl,rfl⟩:=h3;exact h2.1 hy
 ·
  have h3:=h1.2 h0;have h4:=h2.2 (by rw [h3.1];exact h0);exact ⟨h4.1.trans h3.1,h4.2.trans h3.2⟩
theorem ResX.pure {α:Type} {x:Xs} {v:α} {P:α→Prop} (h:P v):ResX x x (.ok (v,x.ps)) P:=⟨fun h0=>⟨h0,rfl,h⟩,fun _=>⟨rfl,rfl⟩⟩
section
variable (T:List (Bs×Nat)) (fin:Nat)
def pk2 (k a:Nat) (z:PS):Except Er (Cd×PS) :=
 if k=1 then .ok (⟨1,a,0,0⟩,z)
 else if k=2∨k=3 then bindE (numbF T fin z) fun v=>.ok (⟨k,a,0,v.1⟩,v.2)
 else if k=4 then bindE (pvarF T fin z) fun v=>.ok (⟨4,a,v.1,0⟩,v.2)
 else bindE (ivarF T fin z) fun v=>.ok (⟨k,a,v.1,0⟩,v.2)
def pk1 (k:Nat) (y:PS):Except Er (Cd×PS):=bindE (if k=6 then ivarF T fin y else pvarF T fin y) fun v=>pk2 T fin k v.1 v.2
theorem pcond_pk (x:PS):pcondF T fin x=bindE (kindF T fin x) fun v=>pk1 T fin v.1 v.2:=by
 unfold pcondF bindE
 cases kindF T fin x with
 | error e=>rfl
 | ok v =>
  obtain ⟨k,y⟩:=v;dsimp only;unfold pk1 bindE
  cases (if k=6 then ivarF T fin y else pvarF T fin y) with
  | error e=>rfl
  | ok v =>
   obtain ⟨a,z⟩:=v;dsimp only;unfold pk2 bindE
   split
   ·
    rfl
   ·
    split
    ·
     cases numbF T fin z <;> rfl
    ·
     split
     ·
      cases pvarF T fin z <;> rfl
     ·
      cases ivarF T fin z <;> rfl
end
def XCondP (w:World) (p:Nat) (A:Option Addr) (c:Nat) (T:List (Bs×Nat)) (fin:Nat) (x:Xs) (r:Except Er (Cd×PS)) (e:Ending) (w':World):Prop :=
 ∃(cd:Cd) (y:Xs),e=.returned (.agg #[.int .i64 cd.kind,.int .i64 cd.a,.int .i64 cd.b,.int .i64 cd.n])∧XdS w' p A c T fin y∧GoodX T y∧y.left=x.left∧x.i≤y.i∧Upd (·=p) w w'∧ResX x y r (fun v=>v=cd)
set_option maxRecDepth 100000 in
set_option maxHeartbeats 4000000 in
theorem xCond_c {T:List (Bs×Nat)} {fin:Nat} (hT:XOk T) {w:World} {p:Nat} {A:Option Addr} {c:Nat} {x:Xs} (h:XdS w p A c T fin x) (hx:GoodX T x) (hl:x.left=false) :
  Calls Tryz.prog 84 #[.pointer (some ⟨p,0,none⟩)] w (XCondP w p A c T fin x (pcondF T fin x.ps)):=by
 have hTl:=hT.len;have hxi:=hx.1;obtain ⟨W1,HW1⟩:=nm (w.alloc (.cells #[.int .i64 0,.int .i64 0,.int .i64 0,.int .i64 0] 69))
 have u1:Upd Non w W1:=by rw [←HW1.out];exact Upd.refl.alloc _
 have b1:Blk W1 w.heap.size 69 #[.int .i64 0,.int .i64 0,.int .i64 0,.int .i64 0]:=by rw [←HW1.out];exact Blk.new _ _ _
 have e1:=HW1.out;have hpw:p<w.heap.size:=h.blk.lt;have CO:=Lib.hid (xOffset_c (h.non u1));have CN:=Lib.hid (fun W (u:Upd Non W1 W)=>xNext_c ((h.non u1).non u) (by omega));have HX:=Lib.hid hx;have HB1:=Lib.hid b1;have HU1:=Lib.hid u1;have HNG:=Lib.hid (nxY_good (fin:=fin) hx)
 have HTK:Hid (nxS T x≠[]→x.why=0∧tkF T x.i=some (nxS T x)∧nxY T fin x={ x with i:=x.i+1 }∧x.i<T.length):=fun hne=>by
  by_cases q:x.why=0∧x.i<T.length
  ·
   obtain ⟨t,ht⟩:=tk_some q.2;obtain ⟨e1,e2,e3⟩:=nx_some (fin:=fin) q.1 ht;rw [e1];exact ⟨q.1,ht,e2,e3⟩
  ·
   exact absurd (nx_none (fin:=fin) q).1 hne
 have HTS:Hid (∀t,x.why=0→tkF T x.i=some t→t=nxS T x):=fun t h0 ht=>(nx_some (fin:=fin) h0 ht).1.symm
 obtain ⟨off,Hoff⟩:=nm (offF T fin x.i);obtain ⟨s,Hs⟩:=nm (nxS T x);obtain ⟨y1,Hy1⟩:=nm (nxY T fin x);rw [Hs.out] at CN HTK HTS;rw [Hy1.out] at CN HNG HTK;rw [Hoff.out] at CO;have HL1:Hid (y1.left=false):=HNG.out.2.2.1.trans hl;have HG1:=Lib.hid HNG.out.1;obtain ⟨qs,Hqs⟩:=nm (kstr s);rw [Hqs.out] at CN;have HXT:=Lib.hid hT;clear u1 b1 HW1
 by_cases h1:s=[110,111,110,122,101,114,111]
 ·
  subst h1;obtain ⟨k1,k2,k3,k4⟩:=HTK.out (by simp)
  have t1:(qs.toList==[110,111,110,122,101,114,111])=true:=by rw [←Hqs.out,xktl];rfl
  have HRK:Hid (ResX x y1 (kindF T fin x.ps) (fun v=>v=1)):=by
   show ResX _ _ _ _;unfold kindF;rw [wrd_good (z:=x.ps) k2 rfl (u:=x.ps) (a:=1) rfl,k3];exact ⟨fun _=>⟨k1,rfl,rfl⟩,fun q=>absurd k1 q⟩
  clear HTK HTS k1 k2 k3 k4;go_enter Tryz.func84,Tryz.ntmps84
  go_wp2_with fail
  refine CO.out.mono ?_;rintro e w2 ⟨rfl,u2⟩;obtain ⟨W3,HW3⟩:=nm (w2.alloc (.cells #[.int .i64 0,.int .i64 0,.int .i64 0,.int .i64 0] 69))
  have u3:Upd Non w2 W3:=by rw [←HW3.out];exact Upd.refl.alloc _
  have b3:Blk W3 w2.heap.size 69 #[.int .i64 0,.int .i64 0,.int .i64 0,.int .i64 0]:=by rw [←HW3.out];exact Blk.new _ _ _
  have e3:=HW3.out
  have hg2:w.heap.size<w2.heap.size:=by have:=HB1.out.lt;have:=u2.size;omega
  have CN3:=Lib.hid (CN.out _ (u2.then_non u3));clear e1 HW3
  go_wp2_with fail
  refine CN3.out.mono ?_;rintro e w4 ⟨rfl,h4,u4⟩;have H4:=Lib.hid h4;have U4:Hid (Upd (·=p) w w4):=(upd_eq ((HU1.out.then_non u2).then_non u3)).trans u4 (fun _ _ e=>e);have HR4:=Lib.hid (((HB1.out.upd u2 (fun f=>f)).upd u3 (fun f=>f)).upd u4 (by omega));have hc4:=b3.upd u4 (by omega);have z0:=hc4.cell 0;have zf:=hc4.frozen;have HC4:=Lib.hid hc4
  obtain ⟨g,Hgn⟩:=nm w2.heap.size;rw [Hgn.out] at hg2 z0 zf HC4 ⊢;clear CO CN CN3 h4 u2 u3 u4 b3 e3 hc4 HB1 HU1;obtain ⟨w5,Hw5⟩:=nm (w4.setCell ⟨g,0,none⟩ (.int .i64 1));have e5:=Hw5.out
  have u5:Upd (·=g) w4 w5:=by rw [←e5];exact updCell _ _ _ _
  have hb5:Blk w5 g 69 #[.int .i64 1,.int .i64 0,.int .i64 0,.int .i64 0]:=by rw [←e5];simpa using HC4.out.set_ 0 (.int .i64 1)
  have H5:=Lib.hid (H4.out.upd u5 (fun k _ e=>by omega));have HR5:=Lib.hid (HR4.out.upd u5 (by omega));have U5:Hid (Upd (·=p) w w5):=U4.out.trans u5 (fun k hk e=>by omega);have HC5:=Lib.hid hb5;clear u5 hb5;have CA:=Lib.hid (xPatternVar_c HXT.out H5.out HG1.out HL1.out)
  go_wp2_with fail
  refine CA.out.mono ?_;rintro e w6 hw;obtain ⟨a,y2,ev,hd,hgd,hld,hid,ud,hrd⟩:=hw;subst ev;have H6:=Lib.hid hd;have HG2:=Lib.hid hgd;have HL2:Hid (y2.left=false):=hld.trans HL1.out;have HI2:=Lib.hid hid;have HRS2:=Lib.hid hrd;have HR6:=Lib.hid (HR5.out.upd ud (by omega));have hc:=HC5.out.upd ud (by omega)
  have U6:Hid (Upd (·=p) w w6):=U5.out.trans ud (fun _ _ e=>e);have v1:=hc.cell 1;have vf:=hc.frozen 1;clear e5 CA hd hgd hld hid ud hrd z0 zf;obtain ⟨w7,Hw7⟩:=nm (w6.setCell ⟨g,1,none⟩ (.int .i64 (a:Nat)));have e7:=Hw7.out
  have us:Upd (·=g) w6 w7:=by rw [←e7];exact updCell _ _ _ _
  have hb:Blk w7 g 69 #[.int .i64 1,.int .i64 (a:Nat),.int .i64 0,.int .i64 0]:=by rw [←e7];simpa using hc.set_ 1 (.int .i64 (a:Nat))
  have H7:=Lib.hid (H6.out.upd us (fun k _ e=>by omega));have HR7:=Lib.hid (HR6.out.upd us (by omega));have U7:Hid (Upd (·=p) w w7):=U6.out.trans us (fun k hk e=>by omega);have HC7:=Lib.hid hb;clear us hb hc;have HCF:=HC7;have HRF:=HR7;obtain ⟨wF,HwF⟩:=nm w7;rw [HwF.out] at e7 HCF HRF;have g0:=HCF.out.cell 0;have g1:=HCF.out.cell 1;have g2:=HCF.out.cell 2
  have g3:=HCF.out.cell 3;have r0:=HRF.out.cell 0;have r1:=HRF.out.cell 1;have r2:=HRF.out.cell 2;have r3:=HRF.out.cell 3;have rf:=HRF.out.frozen
  go_wp2_with fail
  rw [set4_eq];refine bodyPost_ret (results_cell_row rfl _ _ w.heap.size 69 _ (0,0) _ rfl (set4_blk HRF.out _ _ _ _) Tryz.underlying69 rfl (by kernel_rfl)) rfl ?_;have us:=set4_upd wF w.heap.size;have hXF:=H7.out;have hUF:=U7.out;rw [HwF.out] at hXF hUF
  refine ⟨⟨1,(a:Nat),0,0⟩,y2,rfl,hXF.upd (us _ _ _ _) (fun k _ e=>by omega),HG2.out,HL2.out.trans hl.symm,by have q1:=HNG.out.2.1;have q2:=HI2.out;omega,hUF.trans (us _ _ _ _) (fun k hk e=>by omega),?_⟩
  rw [pcond_pk];refine ResX.bind HRK.out (fun e he=>wrdF_err he) ?_;unfold pk1;rw [if_neg (by decide)];refine ResX.bind HRS2.out (fun e he=>wrdF_err he) ?_;unfold pk2;rw [if_pos rfl];exact ResX.pure rfl
 ·
  skip
  by_cases h2:s=[108,101,97,115,116]
  ·
   subst h2;obtain ⟨k1,k2,k3,k4⟩:=HTK.out (by simp)
   have t1:(qs.toList==[110,111,110,122,101,114,111])=false:=by rw [←Hqs.out,xktl];rfl
   have t2:(qs.toList==[108,101,97,115,116])=true:=by rw [←Hqs.out,xktl];rfl
   have HRK:Hid (ResX x y1 (kindF T fin x.ps) (fun v=>v=2)):=by
    show ResX _ _ _ _;unfold kindF;rw [wrd_good (z:=x.ps) k2 rfl (u:=x.ps) (a:=2) rfl,k3];exact ⟨fun _=>⟨k1,rfl,rfl⟩,fun q=>absurd k1 q⟩
   clear HTK HTS k1 k2 k3 k4 h1;go_enter Tryz.func84,Tryz.ntmps84
   go_wp2_with fail
   refine CO.out.mono ?_;rintro e w2 ⟨rfl,u2⟩;obtain ⟨W3,HW3⟩:=nm (w2.alloc (.cells #[.int .i64 0,.int .i64 0,.int .i64 0,.int .i64 0] 69))
   have u3:Upd Non w2 W3:=by rw [←HW3.out];exact Upd.refl.alloc _
   have b3:Blk W3 w2.heap.size 69 #[.int .i64 0,.int .i64 0,.int .i64 0,.int .i64 0]:=by rw [←HW3.out];exact Blk.new _ _ _
   have e3:=HW3.out
   have hg2:w.heap.size<w2.heap.size:=by have:=HB1.out.lt;have:=u2.size;omega
   have CN3:=Lib.hid (CN.out _ (u2.then_non u3));clear e1 HW3
   go_wp2_with fail
   refine CN3.out.mono ?_;rintro e w4 ⟨rfl,h4,u4⟩;have H4:=Lib.hid h4;have U4:Hid (Upd (·=p) w w4):=(upd_eq ((HU1.out.then_non u2).then_non u3)).trans u4 (fun _ _ e=>e);have HR4:=Lib.hid (((HB1.out.upd u2 (fun f=>f)).upd u3 (fun f=>f)).upd u4 (by omega));have hc4:=b3.upd u4 (by omega);have z0:=hc4.cell 0;have zf:=hc4.frozen;have HC4:=Lib.hid hc4
   obtain ⟨g,Hgn⟩:=nm w2.heap.size;rw [Hgn.out] at hg2 z0 zf HC4 ⊢;clear CO CN CN3 h4 u2 u3 u4 b3 e3 hc4 HB1 HU1;obtain ⟨w5,Hw5⟩:=nm (w4.setCell ⟨g,0,none⟩ (.int .i64 2));have e5:=Hw5.out
   have u5:Upd (·=g) w4 w5:=by rw [←e5];exact updCell _ _ _ _
   have hb5:Blk w5 g 69 #[.int .i64 2,.int .i64 0,.int .i64 0,.int .i64 0]:=by rw [←e5];simpa using HC4.out.set_ 0 (.int .i64 2)
   have H5:=Lib.hid (H4.out.upd u5 (fun k _ e=>by omega));have HR5:=Lib.hid (HR4.out.upd u5 (by omega));have U5:Hid (Upd (·=p) w w5):=U4.out.trans u5 (fun k hk e=>by omega);have HC5:=Lib.hid hb5;clear u5 hb5;have CA:=Lib.hid (xPatternVar_c HXT.out H5.out HG1.out HL1.out)
   go_wp2_with fail
   refine CA.out.mono ?_;rintro e w6 hw;obtain ⟨a,y2,ev,hd,hgd,hld,hid,ud,hrd⟩:=hw;subst ev;have H6:=Lib.hid hd;have HG2:=Lib.hid hgd;have HL2:Hid (y2.left=false):=hld.trans HL1.out;have HI2:=Lib.hid hid;have HRS2:=Lib.hid hrd;have HR6:=Lib.hid (HR5.out.upd ud (by omega));have hc:=HC5.out.upd ud (by omega)
   have U6:Hid (Upd (·=p) w w6):=U5.out.trans ud (fun _ _ e=>e);have v1:=hc.cell 1;have vf:=hc.frozen 1;clear e5 CA hd hgd hld hid ud hrd z0 zf;obtain ⟨w7,Hw7⟩:=nm (w6.setCell ⟨g,1,none⟩ (.int .i64 (a:Nat)));have e7:=Hw7.out
   have us:Upd (·=g) w6 w7:=by rw [←e7];exact updCell _ _ _ _
   have hb:Blk w7 g 69 #[.int .i64 2,.int .i64 (a:Nat),.int .i64 0,.int .i64 0]:=by rw [←e7];simpa using hc.set_ 1 (.int .i64 (a:Nat))
   have H7:=Lib.hid (H6.out.upd us (fun k _ e=>by omega));have HR7:=Lib.hid (HR6.out.upd us (by omega));have U7:Hid (Upd (·=p) w w7):=U6.out.trans us (fun k hk e=>by omega);have HC7:=Lib.hid hb;clear us hb hc;have CA:=Lib.hid (xNumber_c HXT.out H7.out HG2.out)
   go_wp2_with fail
   refine CA.out.mono ?_;rintro e w8 hw;obtain ⟨b,y3,ev,hd,hgd,hld,hid,ud,hrd⟩:=hw;subst ev;have H8:=Lib.hid hd;have HG3:=Lib.hid hgd;have HL3:Hid (y3.left=false):=hld.trans HL2.out;have HI3:=Lib.hid hid;have HRS3:=Lib.hid hrd;have HR8:=Lib.hid (HR7.out.upd ud (by omega));have hc:=HC7.out.upd ud (by omega)
   have U8:Hid (Upd (·=p) w w8):=U7.out.trans ud (fun _ _ e=>e);have v3:=hc.cell 3;have vf:=hc.frozen 3;clear e7 CA hd hgd hld hid ud hrd;obtain ⟨w9,Hw9⟩:=nm (w8.setCell ⟨g,3,none⟩ (.int .i64 b));have e9:=Hw9.out
   have us:Upd (·=g) w8 w9:=by rw [←e9];exact updCell _ _ _ _
   have hb:Blk w9 g 69 #[.int .i64 2,.int .i64 (a:Nat),.int .i64 0,.int .i64 b]:=by rw [←e9];simpa using hc.set_ 3 (.int .i64 b)
   have H9:=Lib.hid (H8.out.upd us (fun k _ e=>by omega));have HR9:=Lib.hid (HR8.out.upd us (by omega));have U9:Hid (Upd (·=p) w w9):=U8.out.trans us (fun k hk e=>by omega);have HC9:=Lib.hid hb;clear us hb hc;have HCF:=HC9;have HRF:=HR9;obtain ⟨wF,HwF⟩:=nm w9;rw [HwF.out] at e9 HCF HRF;have g0:=HCF.out.cell 0;have g1:=HCF.out.cell 1;have g2:=HCF.out.cell 2
   have g3:=HCF.out.cell 3;have r0:=HRF.out.cell 0;have r1:=HRF.out.cell 1;have r2:=HRF.out.cell 2;have r3:=HRF.out.cell 3;have rf:=HRF.out.frozen
   go_wp2_with fail
   rw [set4_eq];refine bodyPost_ret (results_cell_row rfl _ _ w.heap.size 69 _ (0,0) _ rfl (set4_blk HRF.out _ _ _ _) Tryz.underlying69 rfl (by kernel_rfl)) rfl ?_;have us:=set4_upd wF w.heap.size;have hXF:=H9.out;have hUF:=U9.out;rw [HwF.out] at hXF hUF
   refine ⟨⟨2,(a:Nat),0,b⟩,y3,rfl,hXF.upd (us _ _ _ _) (fun k _ e=>by omega),HG3.out,HL3.out.trans hl.symm,by have q1:=HNG.out.2.1;have q2:=HI2.out;have q3:=HI3.out;omega,hUF.trans (us _ _ _ _) (fun k hk e=>by omega),?_⟩
   rw [pcond_pk];refine ResX.bind HRK.out (fun e he=>wrdF_err he) ?_;unfold pk1;rw [if_neg (by decide)];refine ResX.bind HRS2.out (fun e he=>wrdF_err he) ?_;unfold pk2;rw [if_neg (by decide),if_pos (by decide)]
   refine ResX.bind (g:=fun v ps=>(Except.ok ((⟨((2:Nat):Int),(a:Nat),0,v⟩:Cd),ps):Except Er (Cd×PS))) HRS3.out (fun e he=>wrdF_err he) ?_
   exact ResX.pure rfl
  ·
   skip
   by_cases h3:s=[109,111,115,116]
   ·
    subst h3;obtain ⟨k1,k2,k3,k4⟩:=HTK.out (by simp)
    have t1:(qs.toList==[110,111,110,122,101,114,111])=false:=by rw [←Hqs.out,xktl];rfl
    have t2:(qs.toList==[108,101,97,115,116])=false:=by rw [←Hqs.out,xktl];rfl
    have t3:(qs.toList==[109,111,115,116])=true:=by rw [←Hqs.out,xktl];rfl
    have HRK:Hid (ResX x y1 (kindF T fin x.ps) (fun v=>v=3)):=by
     show ResX _ _ _ _;unfold kindF;rw [wrd_good (z:=x.ps) k2 rfl (u:=x.ps) (a:=3) rfl,k3];exact ⟨fun _=>⟨k1,rfl,rfl⟩,fun q=>absurd k1 q⟩
    clear HTK HTS k1 k2 k3 k4 h1 h2;go_enter Tryz.func84,Tryz.ntmps84
    go_wp2_with fail
    refine CO.out.mono ?_;rintro e w2 ⟨rfl,u2⟩;obtain ⟨W3,HW3⟩:=nm (w2.alloc (.cells #[.int .i64 0,.int .i64 0,.int .i64 0,.int .i64 0] 69))
    have u3:Upd Non w2 W3:=by rw [←HW3.out];exact Upd.refl.alloc _
    have b3:Blk W3 w2.heap.size 69 #[.int .i64 0,.int .i64 0,.int .i64 0,.int .i64 0]:=by rw [←HW3.out];exact Blk.new _ _ _
    have e3:=HW3.out
    have hg2:w.heap.size<w2.heap.size:=by have:=HB1.out.lt;have:=u2.size;omega
    have CN3:=Lib.hid (CN.out _ (u2.then_non u3));clear e1 HW3
    go_wp2_with fail
    refine CN3.out.mono ?_;rintro e w4 ⟨rfl,h4,u4⟩;have H4:=Lib.hid h4;have U4:Hid (Upd (·=p) w w4):=(upd_eq ((HU1.out.then_non u2).then_non u3)).trans u4 (fun _ _ e=>e);have HR4:=Lib.hid (((HB1.out.upd u2 (fun f=>f)).upd u3 (fun f=>f)).upd u4 (by omega));have hc4:=b3.upd u4 (by omega);have z0:=hc4.cell 0;have zf:=hc4.frozen;have HC4:=Lib.hid hc4
    obtain ⟨g,Hgn⟩:=nm w2.heap.size;rw [Hgn.out] at hg2 z0 zf HC4 ⊢;clear CO CN CN3 h4 u2 u3 u4 b3 e3 hc4 HB1 HU1;obtain ⟨w5,Hw5⟩:=nm (w4.setCell ⟨g,0,none⟩ (.int .i64 3));have e5:=Hw5.out
    have u5:Upd (·=g) w4 w5:=by rw [←e5];exact updCell _ _ _ _
    have hb5:Blk w5 g 69 #[.int .i64 3,.int .i64 0,.int .i64 0,.int .i64 0]:=by rw [←e5];simpa using HC4.out.set_ 0 (.int .i64 3)
    have H5:=Lib.hid (H4.out.upd u5 (fun k _ e=>by omega));have HR5:=Lib.hid (HR4.out.upd u5 (by omega));have U5:Hid (Upd (·=p) w w5):=U4.out.trans u5 (fun k hk e=>by omega);have HC5:=Lib.hid hb5;clear u5 hb5;have CA:=Lib.hid (xPatternVar_c HXT.out H5.out HG1.out HL1.out)
    go_wp2_with fail
    refine CA.out.mono ?_;rintro e w6 hw;obtain ⟨a,y2,ev,hd,hgd,hld,hid,ud,hrd⟩:=hw;subst ev;have H6:=Lib.hid hd;have HG2:=Lib.hid hgd;have HL2:Hid (y2.left=false):=hld.trans HL1.out;have HI2:=Lib.hid hid;have HRS2:=Lib.hid hrd;have HR6:=Lib.hid (HR5.out.upd ud (by omega));have hc:=HC5.out.upd ud (by omega)
    have U6:Hid (Upd (·=p) w w6):=U5.out.trans ud (fun _ _ e=>e);have v1:=hc.cell 1;have vf:=hc.frozen 1;clear e5 CA hd hgd hld hid ud hrd z0 zf;obtain ⟨w7,Hw7⟩:=nm (w6.setCell ⟨g,1,none⟩ (.int .i64 (a:Nat)));have e7:=Hw7.out
    have us:Upd (·=g) w6 w7:=by rw [←e7];exact updCell _ _ _ _
    have hb:Blk w7 g 69 #[.int .i64 3,.int .i64 (a:Nat),.int .i64 0,.int .i64 0]:=by rw [←e7];simpa using hc.set_ 1 (.int .i64 (a:Nat))
    have H7:=Lib.hid (H6.out.upd us (fun k _ e=>by omega));have HR7:=Lib.hid (HR6.out.upd us (by omega));have U7:Hid (Upd (·=p) w w7):=U6.out.trans us (fun k hk e=>by omega);have HC7:=Lib.hid hb;clear us hb hc;have CA:=Lib.hid (xNumber_c HXT.out H7.out HG2.out)
    go_wp2_with fail
    refine CA.out.mono ?_;rintro e w8 hw;obtain ⟨b,y3,ev,hd,hgd,hld,hid,ud,hrd⟩:=hw;subst ev;have H8:=Lib.hid hd;have HG3:=Lib.hid hgd;have HL3:Hid (y3.left=false):=hld.trans HL2.out;have HI3:=Lib.hid hid;have HRS3:=Lib.hid hrd;have HR8:=Lib.hid (HR7.out.upd ud (by omega));have hc:=HC7.out.upd ud (by omega)
    have U8:Hid (Upd (·=p) w w8):=U7.out.trans ud (fun _ _ e=>e);have v3:=hc.cell 3;have vf:=hc.frozen 3;clear e7 CA hd hgd hld hid ud hrd;obtain ⟨w9,Hw9⟩:=nm (w8.setCell ⟨g,3,none⟩ (.int .i64 b));have e9:=Hw9.out
    have us:Upd (·=g) w8 w9:=by rw [←e9];exact updCell _ _ _ _
    have hb:Blk w9 g 69 #[.int .i64 3,.int .i64 (a:Nat),.int .i64 0,.int .i64 b]:=by rw [←e9];simpa using hc.set_ 3 (.int .i64 b)
    have H9:=Lib.hid (H8.out.upd us (fun k _ e=>by omega));have HR9:=Lib.hid (HR8.out.upd us (by omega));have U9:Hid (Upd (·=p) w w9):=U8.out.trans us (fun k hk e=>by omega);have HC9:=Lib.hid hb;clear us hb hc;have HCF:=HC9;have HRF:=HR9;obtain ⟨wF,HwF⟩:=nm w9;rw [HwF.out] at e9 HCF HRF;have g0:=HCF.out.cell 0;have g1:=HCF.out.cell 1;have g2:=HCF.out.cell 2
    have g3:=HCF.out.cell 3;have r0:=HRF.out.cell 0;have r1:=HRF.out.cell 1;have r2:=HRF.out.cell 2;have r3:=HRF.out.cell 3;have rf:=HRF.out.frozen
    go_wp2_with fail
    rw [set4_eq];refine bodyPost_ret (results_cell_row rfl _ _ w.heap.size 69 _ (0,0) _ rfl (set4_blk HRF.out _ _ _ _) Tryz.underlying69 rfl (by kernel_rfl)) rfl ?_;have us:=set4_upd wF w.heap.size;have hXF:=H9.out;have hUF:=U9.out;rw [HwF.out] at hXF hUF
    refine ⟨⟨3,(a:Nat),0,b⟩,y3,rfl,hXF.upd (us _ _ _ _) (fun k _ e=>by omega),HG3.out,HL3.out.trans hl.symm,by have q1:=HNG.out.2.1;have q2:=HI2.out;have q3:=HI3.out;omega,hUF.trans (us _ _ _ _) (fun k hk e=>by omega),?_⟩
    rw [pcond_pk];refine ResX.bind HRK.out (fun e he=>wrdF_err he) ?_;unfold pk1;rw [if_neg (by decide)];refine ResX.bind HRS2.out (fun e he=>wrdF_err he) ?_;unfold pk2;rw [if_neg (by decide),if_pos (by decide)]
    refine ResX.bind (g:=fun v ps=>(Except.ok ((⟨((3:Nat):Int),(a:Nat),0,v⟩:Cd),ps):Except Er (Cd×PS))) HRS3.out (fun e he=>wrdF_err he) ?_
    exact ResX.pure rfl
   ·
    skip
    by_cases h4:s=[97,112,97,114,116]
    ·
     subst h4;obtain ⟨k1,k2,k3,k4⟩:=HTK.out (by simp)
     have t1:(qs.toList==[110,111,110,122,101,114,111])=false:=by rw [←Hqs.out,xktl];rfl
     have t2:(qs.toList==[108,101,97,115,116])=false:=by rw [←Hqs.out,xktl];rfl
     have t3:(qs.toList==[109,111,115,116])=false:=by rw [←Hqs.out,xktl];rfl
     have t4:(qs.toList==[97,112,97,114,116])=true:=by rw [←Hqs.out,xktl];rfl
     have HRK:Hid (ResX x y1 (kindF T fin x.ps) (fun v=>v=4)):=by
      show ResX _ _ _ _;unfold kindF;rw [wrd_good (z:=x.ps) k2 rfl (u:=x.ps) (a:=4) rfl,k3];exact ⟨fun _=>⟨k1,rfl,rfl⟩,fun q=>absurd k1 q⟩
     clear HTK HTS k1 k2 k3 k4 h1 h2 h3;go_enter Tryz.func84,Tryz.ntmps84
     go_wp2_with fail
     refine CO.out.mono ?_;rintro e w2 ⟨rfl,u2⟩;obtain ⟨W3,HW3⟩:=nm (w2.alloc (.cells #[.int .i64 0,.int .i64 0,.int .i64 0,.int .i64 0] 69))
     have u3:Upd Non w2 W3:=by rw [←HW3.out];exact Upd.refl.alloc _
     have b3:Blk W3 w2.heap.size 69 #[.int .i64 0,.int .i64 0,.int .i64 0,.int .i64 0]:=by rw [←HW3.out];exact Blk.new _ _ _
     have e3:=HW3.out
     have hg2:w.heap.size<w2.heap.size:=by have:=HB1.out.lt;have:=u2.size;omega
     have CN3:=Lib.hid (CN.out _ (u2.then_non u3));clear e1 HW3
     go_wp2_with fail
     refine CN3.out.mono ?_;rintro e w4 ⟨rfl,h4,u4⟩;have H4:=Lib.hid h4;have U4:Hid (Upd (·=p) w w4):=(upd_eq ((HU1.out.then_non u2).then_non u3)).trans u4 (fun _ _ e=>e);have HR4:=Lib.hid (((HB1.out.upd u2 (fun f=>f)).upd u3 (fun f=>f)).upd u4 (by omega));have hc4:=b3.upd u4 (by omega);have z0:=hc4.cell 0;have zf:=hc4.frozen;have HC4:=Lib.hid hc4
     obtain ⟨g,Hgn⟩:=nm w2.heap.size;rw [Hgn.out] at hg2 z0 zf HC4 ⊢;clear CO CN CN3 h4 u2 u3 u4 b3 e3 hc4 HB1 HU1;obtain ⟨w5,Hw5⟩:=nm (w4.setCell ⟨g,0,none⟩ (.int .i64 4));have e5:=Hw5.out
     have u5:Upd (·=g) w4 w5:=by rw [←e5];exact updCell _ _ _ _
     have hb5:Blk w5 g 69 #[.int .i64 4,.int .i64 0,.int .i64 0,.int .i64 0]:=by rw [←e5];simpa using HC4.out.set_ 0 (.int .i64 4)
     have H5:=Lib.hid (H4.out.upd u5 (fun k _ e=>by omega));have HR5:=Lib.hid (HR4.out.upd u5 (by omega));have U5:Hid (Upd (·=p) w w5):=U4.out.trans u5 (fun k hk e=>by omega);have HC5:=Lib.hid hb5;clear u5 hb5;have CA:=Lib.hid (xPatternVar_c HXT.out H5.out HG1.out HL1.out)
     go_wp2_with fail
     refine CA.out.mono ?_;rintro e w6 hw;obtain ⟨a,y2,ev,hd,hgd,hld,hid,ud,hrd⟩:=hw;subst ev;have H6:=Lib.hid hd;have HG2:=Lib.hid hgd;have HL2:Hid (y2.left=false):=hld.trans HL1.out;have HI2:=Lib.hid hid;have HRS2:=Lib.hid hrd;have HR6:=Lib.hid (HR5.out.upd ud (by omega));have hc:=HC5.out.upd ud (by omega)
     have U6:Hid (Upd (·=p) w w6):=U5.out.trans ud (fun _ _ e=>e);have v1:=hc.cell 1;have vf:=hc.frozen 1;clear e5 CA hd hgd hld hid ud hrd z0 zf;obtain ⟨w7,Hw7⟩:=nm (w6.setCell ⟨g,1,none⟩ (.int .i64 (a:Nat)));have e7:=Hw7.out
     have us:Upd (·=g) w6 w7:=by rw [←e7];exact updCell _ _ _ _
     have hb:Blk w7 g 69 #[.int .i64 4,.int .i64 (a:Nat),.int .i64 0,.int .i64 0]:=by rw [←e7];simpa using hc.set_ 1 (.int .i64 (a:Nat))
     have H7:=Lib.hid (H6.out.upd us (fun k _ e=>by omega));have HR7:=Lib.hid (HR6.out.upd us (by omega));have U7:Hid (Upd (·=p) w w7):=U6.out.trans us (fun k hk e=>by omega);have HC7:=Lib.hid hb;clear us hb hc;have CA:=Lib.hid (xPatternVar_c HXT.out H7.out HG2.out HL2.out)
     go_wp2_with fail
     refine CA.out.mono ?_;rintro e w8 hw;obtain ⟨b,y3,ev,hd,hgd,hld,hid,ud,hrd⟩:=hw;subst ev;have H8:=Lib.hid hd;have HG3:=Lib.hid hgd;have HL3:Hid (y3.left=false):=hld.trans HL2.out;have HI3:=Lib.hid hid;have HRS3:=Lib.hid hrd;have HR8:=Lib.hid (HR7.out.upd ud (by omega));have hc:=HC7.out.upd ud (by omega)
     have U8:Hid (Upd (·=p) w w8):=U7.out.trans ud (fun _ _ e=>e);have v2:=hc.cell 2;have vf:=hc.frozen 2;clear e7 CA hd hgd hld hid ud hrd;obtain ⟨w9,Hw9⟩:=nm (w8.setCell ⟨g,2,none⟩ (.int .i64 (b:Nat)));have e9:=Hw9.out
     have us:Upd (·=g) w8 w9:=by rw [←e9];exact updCell _ _ _ _
     have hb:Blk w9 g 69 #[.int .i64 4,.int .i64 (a:Nat),.int .i64 (b:Nat),.int .i64 0]:=by rw [←e9];simpa using hc.set_ 2 (.int .i64 (b:Nat))
     have H9:=Lib.hid (H8.out.upd us (fun k _ e=>by omega));have HR9:=Lib.hid (HR8.out.upd us (by omega));have U9:Hid (Upd (·=p) w w9):=U8.out.trans us (fun k hk e=>by omega);have HC9:=Lib.hid hb;clear us hb hc;have HCF:=HC9;have HRF:=HR9;obtain ⟨wF,HwF⟩:=nm w9;rw [HwF.out] at e9 HCF HRF;have g0:=HCF.out.cell 0;have g1:=HCF.out.cell 1;have g2:=HCF.out.cell 2
     have g3:=HCF.out.cell 3;have r0:=HRF.out.cell 0;have r1:=HRF.out.cell 1;have r2:=HRF.out.cell 2;have r3:=HRF.out.cell 3;have rf:=HRF.out.frozen
     go_wp2_with fail
     rw [set4_eq];refine bodyPost_ret (results_cell_row rfl _ _ w.heap.size 69 _ (0,0) _ rfl (set4_blk HRF.out _ _ _ _) Tryz.underlying69 rfl (by kernel_rfl)) rfl ?_;have us:=set4_upd wF w.heap.size;have hXF:=H9.out;have hUF:=U9.out;rw [HwF.out] at hXF hUF
     refine ⟨⟨4,(a:Nat),(b:Nat),0⟩,y3,rfl,hXF.upd (us _ _ _ _) (fun k _ e=>by omega),HG3.out,HL3.out.trans hl.symm,by have q1:=HNG.out.2.1;have q2:=HI2.out;have q3:=HI3.out;omega,hUF.trans (us _ _ _ _) (fun k hk e=>by omega),?_⟩
     rw [pcond_pk];refine ResX.bind HRK.out (fun e he=>wrdF_err he) ?_;unfold pk1;rw [if_neg (by decide)];refine ResX.bind HRS2.out (fun e he=>wrdF_err he) ?_;unfold pk2;rw [if_neg (by decide),if_neg (by decide),if_pos rfl];refine ResX.bind (g:=fun v ps=>(Except.ok ((⟨4,(a:Nat),(v:Nat),0⟩:Cd),ps):Except Er (Cd×PS))) HRS3.out (fun e he=>wrdF_err he) ?_
     exact ResX.pure rfl
    ·
     skip
     by_cases h5:s=[105,110,115,105,100,101]
     ·
      subst h5;obtain ⟨k1,k2,k3,k4⟩:=HTK.out (by simp)
      have t1:(qs.toList==[110,111,110,122,101,114,111])=false:=by rw [←Hqs.out,xktl];rfl
      have t2:(qs.toList==[108,101,97,115,116])=false:=by rw [←Hqs.out,xktl];rfl
      have t3:(qs.toList==[109,111,115,116])=false:=by rw [←Hqs.out,xktl];rfl
      have t4:(qs.toList==[97,112,97,114,116])=false:=by rw [←Hqs.out,xktl];rfl
      have t5:(qs.toList==[105,110,115,105,100,101])=true:=by rw [←Hqs.out,xktl];rfl
      have HRK:Hid (ResX x y1 (kindF T fin x.ps) (fun v=>v=5)):=by
       show ResX _ _ _ _;unfold kindF;rw [wrd_good (z:=x.ps) k2 rfl (u:=x.ps) (a:=5) rfl,k3];exact ⟨fun _=>⟨k1,rfl,rfl⟩,fun q=>absurd k1 q⟩
      clear HTK HTS k1 k2 k3 k4 h1 h2 h3 h4;go_enter Tryz.func84,Tryz.ntmps84
      go_wp2_with fail
      refine CO.out.mono ?_;rintro e w2 ⟨rfl,u2⟩;obtain ⟨W3,HW3⟩:=nm (w2.alloc (.cells #[.int .i64 0,.int .i64 0,.int .i64 0,.int .i64 0] 69))
      have u3:Upd Non w2 W3:=by rw [←HW3.out];exact Upd.refl.alloc _
      have b3:Blk W3 w2.heap.size 69 #[.int .i64 0,.int .i64 0,.int .i64 0,.int .i64 0]:=by rw [←HW3.out];exact Blk.new _ _ _
      have e3:=HW3.out
      have hg2:w.heap.size<w2.heap.size:=by have:=HB1.out.lt;have:=u2.size;omega
      have CN3:=Lib.hid (CN.out _ (u2.then_non u3));clear e1 HW3
      go_wp2_with fail
      refine CN3.out.mono ?_;rintro e w4 ⟨rfl,h4,u4⟩;have H4:=Lib.hid h4;have U4:Hid (Upd (·=p) w w4):=(upd_eq ((HU1.out.then_non u2).then_non u3)).trans u4 (fun _ _ e=>e);have HR4:=Lib.hid (((HB1.out.upd u2 (fun f=>f)).upd u3 (fun f=>f)).upd u4 (by omega));have hc4:=b3.upd u4 (by omega);have z0:=hc4.cell 0;have zf:=hc4.frozen;have HC4:=Lib.hid hc4
      obtain ⟨g,Hgn⟩:=nm w2.heap.size;rw [Hgn.out] at hg2 z0 zf HC4 ⊢;clear CO CN CN3 h4 u2 u3 u4 b3 e3 hc4 HB1 HU1;obtain ⟨w5,Hw5⟩:=nm (w4.setCell ⟨g,0,none⟩ (.int .i64 5));have e5:=Hw5.out
      have u5:Upd (·=g) w4 w5:=by rw [←e5];exact updCell _ _ _ _
      have hb5:Blk w5 g 69 #[.int .i64 5,.int .i64 0,.int .i64 0,.int .i64 0]:=by rw [←e5];simpa using HC4.out.set_ 0 (.int .i64 5)
      have H5:=Lib.hid (H4.out.upd u5 (fun k _ e=>by omega));have HR5:=Lib.hid (HR4.out.upd u5 (by omega));have U5:Hid (Upd (·=p) w w5):=U4.out.trans u5 (fun k hk e=>by omega);have HC5:=Lib.hid hb5;clear u5 hb5;have CA:=Lib.hid (xPatternVar_c HXT.out H5.out HG1.out HL1.out)
      go_wp2_with fail
      refine CA.out.mono ?_;rintro e w6 hw;obtain ⟨a,y2,ev,hd,hgd,hld,hid,ud,hrd⟩:=hw;subst ev;have H6:=Lib.hid hd;have HG2:=Lib.hid hgd;have HL2:Hid (y2.left=false):=hld.trans HL1.out;have HI2:=Lib.hid hid;have HRS2:=Lib.hid hrd;have HR6:=Lib.hid (HR5.out.upd ud (by omega));have hc:=HC5.out.upd ud (by omega)
      have U6:Hid (Upd (·=p) w w6):=U5.out.trans ud (fun _ _ e=>e);have v1:=hc.cell 1;have vf:=hc.frozen 1;clear e5 CA hd hgd hld hid ud hrd z0 zf;obtain ⟨w7,Hw7⟩:=nm (w6.setCell ⟨g,1,none⟩ (.int .i64 (a:Nat)));have e7:=Hw7.out
      have us:Upd (·=g) w6 w7:=by rw [←e7];exact updCell _ _ _ _
      have hb:Blk w7 g 69 #[.int .i64 5,.int .i64 (a:Nat),.int .i64 0,.int .i64 0]:=by rw [←e7];simpa using hc.set_ 1 (.int .i64 (a:Nat))
      have H7:=Lib.hid (H6.out.upd us (fun k _ e=>by omega));have HR7:=Lib.hid (HR6.out.upd us (by omega));have U7:Hid (Upd (·=p) w w7):=U6.out.trans us (fun k hk e=>by omega);have HC7:=Lib.hid hb;clear us hb hc;have CA:=Lib.hid (xImmVar_c HXT.out H7.out HG2.out HL2.out)
      go_wp2_with fail
      refine CA.out.mono ?_;rintro e w8 hw;obtain ⟨b,y3,ev,hd,hgd,hld,hid,ud,hrd⟩:=hw;subst ev;have H8:=Lib.hid hd;have HG3:=Lib.hid hgd;have HL3:Hid (y3.left=false):=hld.trans HL2.out;have HI3:=Lib.hid hid;have HRS3:=Lib.hid hrd;have HR8:=Lib.hid (HR7.out.upd ud (by omega));have hc:=HC7.out.upd ud (by omega)
      have U8:Hid (Upd (·=p) w w8):=U7.out.trans ud (fun _ _ e=>e);have v2:=hc.cell 2;have vf:=hc.frozen 2;clear e7 CA hd hgd hld hid ud hrd;obtain ⟨w9,Hw9⟩:=nm (w8.setCell ⟨g,2,none⟩ (.int .i64 (b:Nat)));have e9:=Hw9.out
      have us:Upd (·=g) w8 w9:=by rw [←e9];exact updCell _ _ _ _
      have hb:Blk w9 g 69 #[.int .i64 5,.int .i64 (a:Nat),.int .i64 (b:Nat),.int .i64 0]:=by rw [←e9];simpa using hc.set_ 2 (.int .i64 (b:Nat))
      have H9:=Lib.hid (H8.out.upd us (fun k _ e=>by omega));have HR9:=Lib.hid (HR8.out.upd us (by omega));have U9:Hid (Upd (·=p) w w9):=U8.out.trans us (fun k hk e=>by omega);have HC9:=Lib.hid hb;clear us hb hc;have HCF:=HC9;have HRF:=HR9;obtain ⟨wF,HwF⟩:=nm w9;rw [HwF.out] at e9 HCF HRF;have g0:=HCF.out.cell 0;have g1:=HCF.out.cell 1;have g2:=HCF.out.cell 2
      have g3:=HCF.out.cell 3;have r0:=HRF.out.cell 0;have r1:=HRF.out.cell 1;have r2:=HRF.out.cell 2;have r3:=HRF.out.cell 3;have rf:=HRF.out.frozen
      go_wp2_with fail
      rw [set4_eq];refine bodyPost_ret (results_cell_row rfl _ _ w.heap.size 69 _ (0,0) _ rfl (set4_blk HRF.out _ _ _ _) Tryz.underlying69 rfl (by kernel_rfl)) rfl ?_;have us:=set4_upd wF w.heap.size;have hXF:=H9.out;have hUF:=U9.out;rw [HwF.out] at hXF hUF
      refine ⟨⟨5,(a:Nat),(b:Nat),0⟩,y3,rfl,hXF.upd (us _ _ _ _) (fun k _ e=>by omega),HG3.out,HL3.out.trans hl.symm,by have q1:=HNG.out.2.1;have q2:=HI2.out;have q3:=HI3.out;omega,hUF.trans (us _ _ _ _) (fun k hk e=>by omega),?_⟩
      rw [pcond_pk];refine ResX.bind HRK.out (fun e he=>wrdF_err he) ?_;unfold pk1;rw [if_neg (by decide)];refine ResX.bind HRS2.out (fun e he=>wrdF_err he) ?_;unfold pk2;rw [if_neg (by decide),if_neg (by decide),if_neg (by decide)]
      refine ResX.bind (g:=fun v ps=>(Except.ok ((⟨((5:Nat):Int),(a:Nat),(v:Nat),0⟩:Cd),ps):Except Er (Cd×PS))) HRS3.out (fun e he=>wrdF_err he) ?_
      exact ResX.pure rfl
     ·
      skip
      by_cases h6:s=[117,110,108,105,107,101]
      ·
       subst h6;obtain ⟨k1,k2,k3,k4⟩:=HTK.out (by simp)
       have t1:(qs.toList==[110,111,110,122,101,114,111])=false:=by rw [←Hqs.out,xktl];rfl
       have t2:(qs.toList==[108,101,97,115,116])=false:=by rw [←Hqs.out,xktl];rfl
       have t3:(qs.toList==[109,111,115,116])=false:=by rw [←Hqs.out,xktl];rfl
       have t4:(qs.toList==[97,112,97,114,116])=false:=by rw [←Hqs.out,xktl];rfl
       have t5:(qs.toList==[105,110,115,105,100,101])=false:=by rw [←Hqs.out,xktl];rfl
       have t6:(qs.toList==[117,110,108,105,107,101])=true:=by rw [←Hqs.out,xktl];rfl
       have HRK:Hid (ResX x y1 (kindF T fin x.ps) (fun v=>v=6)):=by
        show ResX _ _ _ _;unfold kindF;rw [wrd_good (z:=x.ps) k2 rfl (u:=x.ps) (a:=6) rfl,k3];exact ⟨fun _=>⟨k1,rfl,rfl⟩,fun q=>absurd k1 q⟩
       clear HTK HTS k1 k2 k3 k4 h1 h2 h3 h4 h5;go_enter Tryz.func84,Tryz.ntmps84
       go_wp2_with fail
       refine CO.out.mono ?_;rintro e w2 ⟨rfl,u2⟩;obtain ⟨W3,HW3⟩:=nm (w2.alloc (.cells #[.int .i64 0,.int .i64 0,.int .i64 0,.int .i64 0] 69))
       have u3:Upd Non w2 W3:=by rw [←HW3.out];exact Upd.refl.alloc _
       have b3:Blk W3 w2.heap.size 69 #[.int .i64 0,.int .i64 0,.int .i64 0,.int .i64 0]:=by rw [←HW3.out];exact Blk.new _ _ _
       have e3:=HW3.out
       have hg2:w.heap.size<w2.heap.size:=by have:=HB1.out.lt;have:=u2.size;omega
       have CN3:=Lib.hid (CN.out _ (u2.then_non u3));clear e1 HW3
       go_wp2_with fail
       refine CN3.out.mono ?_;rintro e w4 ⟨rfl,h4,u4⟩;have H4:=Lib.hid h4;have U4:Hid (Upd (·=p) w w4):=(upd_eq ((HU1.out.then_non u2).then_non u3)).trans u4 (fun _ _ e=>e);have HR4:=Lib.hid (((HB1.out.upd u2 (fun f=>f)).upd u3 (fun f=>f)).upd u4 (by omega));have hc4:=b3.upd u4 (by omega);have z0:=hc4.cell 0;have zf:=hc4.frozen;have HC4:=Lib.hid hc4
       obtain ⟨g,Hgn⟩:=nm w2.heap.size;rw [Hgn.out] at hg2 z0 zf HC4 ⊢;clear CO CN CN3 h4 u2 u3 u4 b3 e3 hc4 HB1 HU1;obtain ⟨w5,Hw5⟩:=nm (w4.setCell ⟨g,0,none⟩ (.int .i64 6));have e5:=Hw5.out
       have u5:Upd (·=g) w4 w5:=by rw [←e5];exact updCell _ _ _ _
       have hb5:Blk w5 g 69 #[.int .i64 6,.int .i64 0,.int .i64 0,.int .i64 0]:=by rw [←e5];simpa using HC4.out.set_ 0 (.int .i64 6)
       have H5:=Lib.hid (H4.out.upd u5 (fun k _ e=>by omega));have HR5:=Lib.hid (HR4.out.upd u5 (by omega));have U5:Hid (Upd (·=p) w w5):=U4.out.trans u5 (fun k hk e=>by omega);have HC5:=Lib.hid hb5;clear u5 hb5;have CA:=Lib.hid (xImmVar_c HXT.out H5.out HG1.out HL1.out)
       go_wp2_with fail
       refine CA.out.mono ?_;rintro e w6 hw;obtain ⟨a,y2,ev,hd,hgd,hld,hid,ud,hrd⟩:=hw;subst ev;have H6:=Lib.hid hd;have HG2:=Lib.hid hgd;have HL2:Hid (y2.left=false):=hld.trans HL1.out;have HI2:=Lib.hid hid;have HRS2:=Lib.hid hrd;have HR6:=Lib.hid (HR5.out.upd ud (by omega));have hc:=HC5.out.upd ud (by omega)
       have U6:Hid (Upd (·=p) w w6):=U5.out.trans ud (fun _ _ e=>e);have v1:=hc.cell 1;have vf:=hc.frozen 1;clear e5 CA hd hgd hld hid ud hrd z0 zf;obtain ⟨w7,Hw7⟩:=nm (w6.setCell ⟨g,1,none⟩ (.int .i64 (a:Nat)));have e7:=Hw7.out
       have us:Upd (·=g) w6 w7:=by rw [←e7];exact updCell _ _ _ _
       have hb:Blk w7 g 69 #[.int .i64 6,.int .i64 (a:Nat),.int .i64 0,.int .i64 0]:=by rw [←e7];simpa using hc.set_ 1 (.int .i64 (a:Nat))
       have H7:=Lib.hid (H6.out.upd us (fun k _ e=>by omega));have HR7:=Lib.hid (HR6.out.upd us (by omega));have U7:Hid (Upd (·=p) w w7):=U6.out.trans us (fun k hk e=>by omega);have HC7:=Lib.hid hb;clear us hb hc;have CA:=Lib.hid (xImmVar_c HXT.out H7.out HG2.out HL2.out)
       go_wp2_with fail
       refine CA.out.mono ?_;rintro e w8 hw;obtain ⟨b,y3,ev,hd,hgd,hld,hid,ud,hrd⟩:=hw;subst ev;have H8:=Lib.hid hd;have HG3:=Lib.hid hgd;have HL3:Hid (y3.left=false):=hld.trans HL2.out;have HI3:=Lib.hid hid;have HRS3:=Lib.hid hrd;have HR8:=Lib.hid (HR7.out.upd ud (by omega));have hc:=HC7.out.upd ud (by omega)
       have U8:Hid (Upd (·=p) w w8):=U7.out.trans ud (fun _ _ e=>e);have v2:=hc.cell 2;have vf:=hc.frozen 2;clear e7 CA hd hgd hld hid ud hrd;obtain ⟨w9,Hw9⟩:=nm (w8.setCell ⟨g,2,none⟩ (.int .i64 (b:Nat)));have e9:=Hw9.out
       have us:Upd (·=g) w8 w9:=by rw [←e9];exact updCell _ _ _ _
       have hb:Blk w9 g 69 #[.int .i64 6,.int .i64 (a:Nat),.int .i64 (b:Nat),.int .i64 0]:=by rw [←e9];simpa using hc.set_ 2 (.int .i64 (b:Nat))
       have H9:=Lib.hid (H8.out.upd us (fun k _ e=>by omega));have HR9:=Lib.hid (HR8.out.upd us (by omega));have U9:Hid (Upd (·=p) w w9):=U8.out.trans us (fun k hk e=>by omega);have HC9:=Lib.hid hb;clear us hb hc;have HCF:=HC9;have HRF:=HR9;obtain ⟨wF,HwF⟩:=nm w9;rw [HwF.out] at e9 HCF HRF;have g0:=HCF.out.cell 0;have g1:=HCF.out.cell 1;have g2:=HCF.out.cell 2
       have g3:=HCF.out.cell 3;have r0:=HRF.out.cell 0;have r1:=HRF.out.cell 1;have r2:=HRF.out.cell 2;have r3:=HRF.out.cell 3;have rf:=HRF.out.frozen
       go_wp2_with fail
       rw [set4_eq];refine bodyPost_ret (results_cell_row rfl _ _ w.heap.size 69 _ (0,0) _ rfl (set4_blk HRF.out _ _ _ _) Tryz.underlying69 rfl (by kernel_rfl)) rfl ?_;have us:=set4_upd wF w.heap.size;have hXF:=H9.out;have hUF:=U9.out;rw [HwF.out] at hXF hUF
       refine ⟨⟨6,(a:Nat),(b:Nat),0⟩,y3,rfl,hXF.upd (us _ _ _ _) (fun k _ e=>by omega),HG3.out,HL3.out.trans hl.symm,by have q1:=HNG.out.2.1;have q2:=HI2.out;have q3:=HI3.out;omega,hUF.trans (us _ _ _ _) (fun k hk e=>by omega),?_⟩
       rw [pcond_pk];refine ResX.bind HRK.out (fun e he=>wrdF_err he) ?_;unfold pk1;rw [if_pos rfl];refine ResX.bind HRS2.out (fun e he=>wrdF_err he) ?_;unfold pk2;rw [if_neg (by decide),if_neg (by decide),if_neg (by decide)]
       refine ResX.bind (g:=fun v ps=>(Except.ok ((⟨((6:Nat):Int),(a:Nat),(v:Nat),0⟩:Cd),ps):Except Er (Cd×PS))) HRS3.out (fun e he=>wrdF_err he) ?_
       exact ResX.pure rfl
      ·
       skip
       have t1:(qs.toList==[110,111,110,122,101,114,111])=false:=by rw [←Hqs.out,xktl];exact beq_eq_false_iff_ne.2 h1
       have t2:(qs.toList==[108,101,97,115,116])=false:=by rw [←Hqs.out,xktl];exact beq_eq_false_iff_ne.2 h2
       have t3:(qs.toList==[109,111,115,116])=false:=by rw [←Hqs.out,xktl];exact beq_eq_false_iff_ne.2 h3
       have t4:(qs.toList==[97,112,97,114,116])=false:=by rw [←Hqs.out,xktl];exact beq_eq_false_iff_ne.2 h4
       have t5:(qs.toList==[105,110,115,105,100,101])=false:=by rw [←Hqs.out,xktl];exact beq_eq_false_iff_ne.2 h5
       have t6:(qs.toList==[117,110,108,105,107,101])=false:=by rw [←Hqs.out,xktl];exact beq_eq_false_iff_ne.2 h6
       have HRB:Hid (ResX x (y1.fail 2 off) (pcondF T fin x.ps) (fun v=>v=⟨0,0,0,0⟩)):=by
        have hno:findL condL s 0=none:=by
         simp only [findL,condL]
         rw [if_neg (fun q=>h1 q.symm),if_neg (fun q=>h2 q.symm),if_neg (fun q=>h3 q.symm),if_neg (fun q=>h4 q.symm),if_neg (fun q=>h5 q.symm),if_neg (fun q=>h6 q.symm)]
        have hk:ResX x (y1.fail 2 off) (kindF T fin x.ps) (fun v=>v=0):=by
         by_cases h0:x.why=0
         ·
          have:=bad_resX (fin:=fin) (x:=x) (f:=fun s x=>(findL condL s 0).map fun i=>(i+1,x)) (P:=fun v=>v=0) (fun t ht=>by rw [HTS.out t h0 ht,hno];rfl)
          rw [Hy1.out,Hoff.out] at this;exact this
         ·
          have e:=(nx_none (T:=T) (fin:=fin) (x:=x) (fun r=>h0 r.1)).2;rw [Hy1.out] at e;rw [e,xfail_why h0,xfail_why h0];exact ⟨fun q=>absurd q h0,fun _=>⟨rfl,rfl⟩⟩
        unfold pcondF;refine ⟨fun h0=>?_,hk.2⟩;have h5:=hk.1 h0
        cases hkf:kindF T fin x.ps with
        | error e=>rw [hkf] at h5;exact h5
        | ok v=>rw [hkf] at h5;exact absurd h5.1 (xfail_ne _ (by decide))
       clear HTK HTS h1 h2 h3 h4 h5 h6;go_enter Tryz.func84,Tryz.ntmps84
       go_wp2_with fail
       refine CO.out.mono ?_;rintro e w2 ⟨rfl,u2⟩;obtain ⟨W3,HW3⟩:=nm (w2.alloc (.cells #[.int .i64 0,.int .i64 0,.int .i64 0,.int .i64 0] 69))
       have u3:Upd Non w2 W3:=by rw [←HW3.out];exact Upd.refl.alloc _
       have b3:Blk W3 w2.heap.size 69 #[.int .i64 0,.int .i64 0,.int .i64 0,.int .i64 0]:=by rw [←HW3.out];exact Blk.new _ _ _
       have e3:=HW3.out
       have hg2:w.heap.size<w2.heap.size:=by have:=HB1.out.lt;have:=u2.size;omega
       have CN3:=Lib.hid (CN.out _ (u2.then_non u3));clear e1 HW3
       go_wp2_with fail
       refine CN3.out.mono ?_;rintro e w4 ⟨rfl,h4,u4⟩;have H4:=Lib.hid h4;have U4:Hid (Upd (·=p) w w4):=(upd_eq ((HU1.out.then_non u2).then_non u3)).trans u4 (fun _ _ e=>e);have HR4:=Lib.hid (((HB1.out.upd u2 (fun f=>f)).upd u3 (fun f=>f)).upd u4 (by omega));have hc4:=b3.upd u4 (by omega);have z0:=hc4.cell 0;have zf:=hc4.frozen;have HC4:=Lib.hid hc4
       obtain ⟨g,Hgn⟩:=nm w2.heap.size;rw [Hgn.out] at hg2 z0 zf HC4 ⊢;clear CO CN CN3 h4 u2 u3 u4 b3 e3 hc4 HB1 HU1;have CF:=Lib.hid (xFail_c H4.out 2 off)
       go_wp2_with fail
       refine CF.out.mono ?_;rintro e wF ⟨rfl,h9,u9⟩;have HCF:=Lib.hid (HC4.out.upd u9 (by omega));have HRF:=Lib.hid (HR4.out.upd u9 (by omega));have H9:=Lib.hid h9;have U9:Hid (Upd (·=p) w wF):=U4.out.trans u9 (fun _ _ e=>e);clear CF h9 u9 z0 zf;have g0:=HCF.out.cell 0;have g1:=HCF.out.cell 1;have g2:=HCF.out.cell 2;have g3:=HCF.out.cell 3;have r0:=HRF.out.cell 0
       have r1:=HRF.out.cell 1;have r2:=HRF.out.cell 2;have r3:=HRF.out.cell 3;have rf:=HRF.out.frozen
       go_wp2_with fail
       rw [set4_eq];refine bodyPost_ret (results_cell_row rfl _ _ w.heap.size 69 _ (0,0) _ rfl (set4_blk HRF.out _ _ _ _) Tryz.underlying69 rfl (by kernel_rfl)) rfl ?_;have us:=set4_upd wF w.heap.size
       exact ⟨⟨0,0,0,0⟩,y1.fail 2 off,rfl,H9.out.upd (us _ _ _ _) (fun k _ e=>by omega),HG1.out.fail _ _,by rw [xfail_left];exact HL1.out.trans hl.symm,by rw [xfail_i];exact HNG.out.2.1,U9.out.trans (us _ _ _ _) (fun k hk e=>by omega),HRB.out⟩
section
variable {T:List (Bs×Nat)} {fin:Nat}
theorem ResX.ebind {β:Type} {y z:Xs} {s:Bs} {g:PS→Except Er (β×PS)} {Q:β→Prop} (h2:ResX (exY T fin s y) z (g (exY T fin s y).ps) Q):ResX y z (bindE (expF T fin s y.ps) g) Q:=by
 refine ⟨fun h0=>?_,fun h0=>?_⟩
 ·
  have h1:=exY_res (T:=T) (fin:=fin) (s:=s) h0
  cases he:expF T fin s y.ps with
  | error e =>
   rw [he] at h1
   have hn:(exY T fin s y).why≠0:=by rw [h1.1];exact expF_err he
   have h3:=h2.2 hn;exact ⟨h3.1.trans h1.1,h3.2.trans h1.2⟩
  | ok u =>
   rw [he] at h1;obtain ⟨h3,rfl⟩:=h1;exact h2.1 h3
 ·
  have e:=exY_err (T:=T) (fin:=fin) (s:=s) h0;rw [e] at h2;exact h2.2 h0
def CdX (T:List (Bs×Nat)) (fin:Nat) (y5 y:Xs) (cs:List Cd) (f:Nat):Prop :=
 (y5.why=0→(y.why=0→T.length<f+y.i∧ifF T fin (T.length+1) y5.ps=match condsF T fin f y.ps with
  | .error e=>.error e
  | .ok (l,z)=>.ok (cs++l,z))∧(y.why≠0→ifF T fin (T.length+1) y5.ps=.error (y.why,y.ea)))∧(y5.why≠0→y.why=y5.why∧y.ea=y5.ea)
theorem CdX.first {y5 y:Xs} {cd:Cd} (ht:tkF T y5.i=some [105,102]) (h0:y5.why=0) (h:ResX { y5 with i:=y5.i+1 } y (pcondF T fin { y5.ps with i:=y5.i+1 }) (fun v=>v=cd)):CdX T fin y5 y [cd] (T.length+1):=by
 have hc:=h.1 h0;refine ⟨fun _=>⟨fun hy=>?_,fun hy=>?_⟩,fun q=>absurd h0 q⟩
 ·
  refine ⟨by omega,?_⟩;unfold ifF;rw [show y5.ps.i=y5.i from rfl,if_pos ht]
  cases hp:pcondF T fin { y5.ps with i:=y5.i+1 } with
  | error e=>rw [hp] at hc;exact absurd (hc.1 ▸ hy) (pcondF_err hp)
  | ok v =>
   obtain ⟨v,s⟩:=v;rw [hp] at hc;obtain ⟨_,rfl,rfl⟩:=hc;rfl
 ·
  unfold ifF;rw [show y5.ps.i=y5.i from rfl,if_pos ht]
  cases hp:pcondF T fin { y5.ps with i:=y5.i+1 } with
  | error e=>rw [hp] at hc;dsimp only;rw [hc.1,hc.2]
  | ok v=>rw [hp] at hc;exact absurd hc.1 hy
theorem CdX.more {y5 y y':Xs} {cs:List Cd} {cd:Cd} {f:Nat} (hl:CdX T fin y5 y cs f) (ht:tkF T y.i=some [44]) (h0:y.why=0) (hi:y.i<T.length) (h:ResX { y with i:=y.i+1 } y' (pcondF T fin { y.ps with i:=y.i+1 }) (fun v=>v=cd)) (hy':y.i+1≤y'.i):0<f∧CdX T fin y5 y' (cs++[cd]) (f - 1):=by
 have hc:=h.1 h0
 have h5:y5.why=0:=by
  by_cases q:y5.why=0
  ·
   exact q
  ·
   exact absurd ((hl.2 q).1 ▸ h0) q
 obtain ⟨hf,he⟩:=(hl.1 h5).1 h0
 match f with
 | 0=>omega
 | f+1 =>
 refine ⟨by omega,fun _=>?_,fun q=>absurd h5 q⟩;rw [he,condsF_succ];rw [show y.ps.i=y.i from rfl,if_pos ht];refine ⟨fun hy=>?_,fun hy=>?_⟩
 ·
  cases hp:pcondF T fin { y.ps with i:=y.i+1 } with
  | error e=>rw [hp] at hc;exact absurd (hc.1 ▸ hy) (pcondF_err hp)
  | ok v =>
   obtain ⟨v,s⟩:=v;rw [hp] at hc;obtain ⟨_,rfl,rfl⟩:=hc;refine ⟨by show T.length<f+1 - 1+y'.i;omega,?_⟩;dsimp only;rw [show f+1 - 1=f from rfl]
   cases condsF T fin f y'.ps with
   | error e=>rfl
   | ok v=>obtain ⟨l,z⟩:=v;simp
 ·
  cases hp:pcondF T fin { y.ps with i:=y.i+1 } with
  | error e=>rw [hp] at hc;dsimp only;rw [hc.1,hc.2]
  | ok v=>rw [hp] at hc;exact absurd hc.1 hy
theorem CdX.done {y5 y:Xs} {cs:List Cd} {f:Nat} (hl:CdX T fin y5 y cs f) (hD:(y.why==0&&decide (tkF T y.i=some [44]))=false):ResX y5 y (ifF T fin (T.length+1) y5.ps) (fun v=>v=cs):=by
 refine ⟨fun h5=>?_,hl.2⟩
 by_cases h0:y.why=0
 ·
  have he:=((hl.1 h5).1 h0).2
  have ht:¬tkF T y.i=some [44]:=by simpa [h0] using hD
  have hc:condsF T fin f y.ps=.ok ([],y.ps):=by
   cases f with
   | zero=>rfl
   | succ f=>rw [condsF_succ,show y.ps.i=y.i from rfl,if_neg ht]
  rw [hc] at he;rw [he];exact ⟨h0,rfl,by simp⟩
 ·
  rw [(hl.1 h5).2 h0];exact ⟨rfl,rfl⟩
theorem ifX_none {y:Xs} (hD:(y.why==0&&decide (tkF T y.i=some [105,102]))=false):ResX y y (ifF T fin (T.length+1) y.ps) (fun v=>v=[]):=by
 refine ⟨fun h0=>?_,fun _=>⟨rfl,rfl⟩⟩
 have ht:¬tkF T y.i=some [105,102]:=by simpa [h0] using hD
 unfold ifF;rw [show y.ps.i=y.i from rfl,if_neg ht];exact ⟨h0,rfl,rfl⟩
def ruleN (T:List (Bs×Nat)) (fin:Nat) (x:PS):Except Er (Rl×PS):=match tkF T x.i with
 | none=>.error (serr T fin x.i)
 | some s=>rg2 T fin s ⟨x.i+1,[],[]⟩
theorem ruleX_fin {x x0 y1 y3 y5 y6:Xs} {s:Bs} {l r:Pt} {cs:List Cd} (h0:x0={ x with vs:=[],ms:=[] }) (hs:nxS T x0=s) (h1:nxY T fin x0=y1)
  (h3:ResX (exY T fin [58] y1) y3 (termF T fin true (T.length+1) (exY T fin [58] y1).ps) (fun v=>v=l))
  (h5:ResX (exY T fin [61,62] y3) y5 (termF T fin false (T.length+1) (exY T fin [61,62] y3).ps) (fun v=>v=r))
  (h6:ResX y5 y6 (ifF T fin (T.length+1) y5.ps) (fun v=>v=cs)) :
  ResX x (exY T fin [59] y6) (ruleN T fin x.ps) (fun v=>v=⟨⟨s.toArray⟩,l,r,cs,(exY T fin [59] y6).vs.length,(exY T fin [59] y6).ms.length⟩):=by
 have k7:ResX y6 (exY T fin [59] y6) (rg7 T fin s l r cs y6.ps) (fun v=>v=⟨⟨s.toArray⟩,l,r,cs,(exY T fin [59] y6).vs.length,(exY T fin [59] y6).ms.length⟩):=by
  unfold rg7;exact ResX.ebind ⟨fun h=>⟨h,rfl,rfl⟩,fun _=>⟨rfl,rfl⟩⟩
 have k6:=ResX.bind (g:=fun q z=>rg7 T fin s l r q z) h6 (fun e=>ifF_err) k7;have k5:=ResX.bind (g:=fun q z=>rg6 T fin s l q z) h5 (fun e=>termF_err _ _ e) k6;have k4:=ResX.ebind (g:=fun u=>rg5 T fin s l u) k5;have k3:=ResX.bind (g:=fun q z=>rg4 T fin s q z) h3 (fun e=>termF_err _ _ e) k4;have k2:=ResX.ebind (g:=fun u=>rg3 T fin s u) k3
 change ResX y1 _ (rg2 T fin s y1.ps) _ at k2
 unfold ruleN;rw [show x.ps.i=x.i from rfl]
 have ey:x0.why=x.why∧x0.ea=x.ea∧x0.i=x.i:=by subst h0;exact ⟨rfl,rfl,rfl⟩
 by_cases hw:x.why=0
 ·
  by_cases q:x.i<T.length
  ·
   obtain ⟨t,ht⟩:=tk_some q;obtain ⟨e1,e2,_⟩:=nx_some (fin:=fin) (x:=x0) (ey.1.trans hw) (by rw [ey.2.2];exact ht);rw [ht];rw [e1] at hs;subst hs;rw [e2] at h1
   have e3:y1.ps=⟨x.i+1,[],[]⟩:=by rw [←h1,h0];rfl
   rw [e3] at k2;exact ⟨fun _=>k2.1 (by rw [←h1];exact ey.1.trans hw),fun q=>absurd hw q⟩
  ·
   obtain ⟨_,e2⟩:=nx_none (T:=T) (fin:=fin) (x:=x0) (fun r=>q (by rw [←ey.2.2];exact r.2));rw [e2,xfail_zero (ey.1.trans hw)] at h1;rw [tk_none q];refine ⟨fun _=>?_,fun q=>absurd hw q⟩;have h2:=k2.2 (by rw [←h1];show (2:Int)≠0;decide);rw [←h1] at h2;rw [ey.2.2] at h2;exact h2
 ·
  obtain ⟨_,e2⟩:=nx_none (T:=T) (fin:=fin) (x:=x0) (fun r=>hw (ey.1 ▸ r.1));rw [e2,xfail_why (by rw [ey.1];exact hw)] at h1;rw [←h1] at k2;refine ⟨fun q=>absurd q hw,fun _=>?_⟩;have h2:=k2.2 (by rw [ey.1];exact hw);exact ⟨h2.1.trans ey.1,h2.2.trans ey.2.1⟩
end
def XRuleP (w:World) (p:Nat) (A:Option Addr) (c:Nat) (T:List (Bs×Nat)) (fin:Nat) (x:Xs) (r:Except Er (Rl×PS)) (e:Ending) (w':World):Prop :=
 ∃(R:Rl) (a:RlA) (y:Xs),e=.returned (rlv R a)∧RlK w' (fun k=>w.heap.size≤k) R a∧XdS w' p A c T fin y∧GoodX T y∧x.i≤y.i∧Upd (·=p) w w'∧RlSz R∧R.name=kstr (nxS T x)∧ResX x y r (fun v=>v=R)
structure XRs (w0 w:World) (p:Nat) (A:Option Addr) (c:Nat) (T:List (Bs×Nat)) (fin:Nat) (y:Xs) (g:Nat) (R:Rl) (a:RlA):Prop where
 xd:XdS w p A c T fin y
 res:Blk w w0.heap.size 43 z14
 rl:Blk w g 43 (rlCells R a)
 cds:CdO w a.ca a.cc R.conds
 cat:∀k,At a.ca k→g<k
 kl:PtK w (fun k=>g<k∧¬At a.ca k) R.l a.la a.lc
 kr:PtK w (fun k=>g<k∧¬At a.ca k) R.r a.ra a.rc
 lt:w0.heap.size<g
 plt:p<w0.heap.size
 upd:Upd (·=p) w0 w
section
variable {w0 w w':World} {p:Nat} {A:Option Addr} {c:Nat} {T:List (Bs×Nat)} {fin:Nat} {y y':Xs} {g:Nat} {R R':Rl} {a a':RlA}
theorem XRs.call (h:XRs w0 w p A c T fin y g R a) (hr:XdS w' p A c T fin y') (u:Upd (·=p) w w'):XRs w0 w' p A c T fin y' g R a:=by
 have h1:=h.lt;have h2:=h.plt
 exact ⟨hr,h.res.upd u (by omega),h.rl.upd u (by omega),h.cds.upd u (fun k hk e=>by have:=h.cat k hk;omega),h.cat,PtK.upd u (fun k _ q e=>by have:=q.1;omega) _ _ _ h.kl,PtK.upd u (fun k _ q e=>by have:=q.1;omega) _ _ _ h.kr,h1,h2,h.upd.trans u (fun _ _ e=>e)⟩
theorem XRs.non (h:XRs w0 w p A c T fin y g R a) (u:Upd Non w w'):XRs w0 w' p A c T fin y g R a:=h.call (h.xd.non u) (upd_eq u)
theorem XRs.rule (h:XRs w0 w p A c T fin y g R a) (u:Upd (·=g) w w') (hb:Blk w' g 43 (rlCells R' a')) (e1:a'.ca=a.ca) (e2:a'.cc=a.cc) (e3:R'.conds=R.conds) (kl:PtK w (fun k=>g<k∧¬At a.ca k) R'.l a'.la a'.lc) (kr:PtK w (fun k=>g<k∧¬At a.ca k) R'.r a'.ra a'.rc):XRs w0 w' p A c T fin y g R' a':=by
 have h1:=h.lt;have h2:=h.plt;have hc:=h.cat;refine ⟨h.xd.upd u (fun k _ e=>by omega),h.res.upd u (by omega),hb,?_,?_,?_,?_,h1,h2,h.upd.trans u (fun k hk e=>by omega)⟩
 ·
  rw [e1,e2,e3];exact h.cds.upd u (fun k hk e=>by have:=hc k hk;omega)
 ·
  rw [e1];exact hc
 ·
  rw [e1];exact PtK.upd u (fun k _ q e=>by have:=q.1;omega) _ _ _ kl
 ·
  rw [e1];exact PtK.upd u (fun k _ q e=>by have:=q.1;omega) _ _ _ kr
theorem XRs.new (h:XRs w0 w p A c T fin y g R a) {q:Pt} {KA:Option Addr} {kc:Nat} (hq:PtK w' (fun k=>w.heap.size≤k) q KA kc):PtK w' (fun k=>g<k∧¬At a.ca k) q KA kc :=
 PtK.mono (fun _ _ r=>⟨Nat.lt_of_lt_of_le h.rl.lt r,fun s=>Nat.lt_irrefl _ (Nat.lt_of_lt_of_le (CdO.lt h.cds s) r)⟩) _ _ _ hq
theorem XRs.app (h:XRs w0 w p A c T fin y g R a) {CA:Option Addr} {cc:Nat} {cd:Cd} (u:Upd (At a.ca) w w') (hc:CdO w' CA cc (R.conds++[cd])) (hat:∀k,At CA k→At a.ca k∨k=w.heap.size) {w'':World} (u2:Upd (·=g) w' w'') (hb:Blk w'' g 43 (rlCells { R with conds:=R.conds++[cd] } { a with ca:=CA,cc:=cc })):XRs w0 w'' p A c T fin y g { R with conds:=R.conds++[cd] } { a with ca:=CA,cc:=cc }:=by
 have h1:=h.lt;have h2:=h.plt;have hcat:=h.cat;have hg:g<w.heap.size:=h.rl.lt;have uu:Upd (fun k=>At a.ca k∨k=g) w w'':=(u.mono (fun _ _ q=>.inl q)).trans (u2.mono (fun _ _ q=>.inr q)) (fun _ _ q=>q)
 have hge:∀k,(At a.ca k∨k=g)→g≤k:=fun k q=>by
  rcases q with q | q
  ·
   exact Nat.le_of_lt (hcat k q)
  ·
   omega
 have hcat2:∀k,At CA k→g<k:=fun k q=>by
  rcases hat k q with r | r
  ·
   exact hcat k r
  ·
   omega
 have m1:∀k,k<w.heap.size→(g<k∧¬At a.ca k)→(g<k∧¬At a.ca k)∧k<w.heap.size:=fun _ hk r=>⟨r,hk⟩
 have m2:∀k,k<w.heap.size→((g<k∧¬At a.ca k)∧k<w.heap.size)→¬(At a.ca k∨k=g):=fun k _ r e=>by
  rcases e with e | e
  ·
   exact r.1.2 e
  ·
   have:=r.1.1;omega
 have m3:∀k,k<w''.heap.size→((g<k∧¬At a.ca k)∧k<w.heap.size)→g<k∧¬At CA k:=fun k _ r=>⟨r.1.1,fun s=>by
  rcases hat k s with s | s
  ·
   exact r.1.2 s
  ·
   have:=r.2;omega⟩
 have hpt:∀{q:Pt} {B:Option Addr} {n:Nat},PtK w (fun k=>g<k∧¬At a.ca k) q B n→PtK w'' (fun k=>g<k∧¬At CA k) q B n:=fun hq =>
  PtK.mono m3 _ _ _ (PtK.upd uu m2 _ _ _ (PtK.mono m1 _ _ _ hq))
 refine ⟨h.xd.upd uu (fun k _ e=>by have:=hge k e;omega),h.res.upd uu (fun e=>by have:=hge _ e;omega),hb,?_,hcat2,hpt h.kl,hpt h.kr,h1,h2,h.upd.trans uu (fun k hk e=>by have:=hge k e;omega)⟩
 exact CdO.upd hc u2 (fun k hk e=>by have:=hcat2 k hk;omega)
theorem XRs.fin_ (h:XRs w0 w p A c T fin y g R a) (u:Upd (·=w0.heap.size) w w'):XdS w' p A c T fin y∧RlK w' (fun k=>w0.heap.size≤k) R a∧Upd (·=p) w0 w':=by
 have h1:=h.lt;have h2:=h.plt;refine ⟨h.xd.upd u (fun k _ e=>by omega),⟨?_,?_,?_,?_⟩,h.upd.trans u (fun k hk e=>by omega)⟩
 ·
  exact PtK.mono (fun k _ q=>by have:=q.1;omega) _ _ _ (PtK.upd u (fun k _ q e=>by have:=q.1;omega) _ _ _ h.kl)
 ·
  exact PtK.mono (fun k _ q=>by have:=q.1;omega) _ _ _ (PtK.upd u (fun k _ q e=>by have:=q.1;omega) _ _ _ h.kr)
 ·
  have hc:CdO w' a.ca a.cc R.conds:=h.cds.upd u (fun k hk e=>by have:=h.cat k hk;omega);exact hc.view.mono (fun k _ q=>by have:=h.cat k q;omega)
 ·
  exact CdO.le h.cds
theorem XdS.setI (h:XdS w p A c T fin y) (n:Nat):XdS (w.setCell ⟨p,1,none⟩ (.int .i64 n)) p A c T fin { y with i:=n }:=by
 refine h.set (updCell _ _ _ _) ?_;have:=h.blk.set_ 1 (.int .i64 n)
 simpa [xcells] using this
theorem XdS.setLeft (h:XdS w p A c T fin y) (b:Bool):XdS (w.setCell ⟨p,7,none⟩ (.bool b)) p A c T fin { y with left:=b }:=by
 refine h.set (updCell _ _ _ _) ?_;have:=h.blk.set_ 7 (.bool b)
 simpa [xcells] using this
theorem XdS.clear (h:XdS w p A c T fin y):XdS ((w.setCell ⟨p,5,none⟩ (.string ⟨#[]⟩)).setCell ⟨p,6,none⟩ (.string ⟨#[]⟩)) p A c T fin { y with vs:=[],ms:=[] }:=by
 refine h.set ((updCell w p 5 _).trans (updCell _ p 6 _) (fun _ _ q=>q)) ?_;have:=(h.blk.set_ 5 (.string ⟨#[]⟩)).set_ 6 (.string ⟨#[]⟩)
 simpa [xcells,kstr] using this
end
theorem ResX.weak {α:Type} {x y:Xs} {r:Except Er (α×PS)} {P Q:α→Prop} (h:ResX x y r P) (k:∀v,P v→Q v):ResX x y r Q:=by
 refine ⟨fun h0=>?_,h.2⟩;have h1:=h.1 h0
 cases r with
 | error e=>exact h1
 | ok v=>exact ⟨h1.1,h1.2.1,k _ h1.2.2⟩
theorem exY_left_set {T:List (Bs×Nat)} {fin:Nat} {s:Bs} {y:Xs} {b:Bool}:exY T fin s { y with left:=b }={ (exY T fin s y) with left:=b }:=by
 unfold exY Xs.fail;dsimp only
 split
 ·
  rfl
 ·
  split <;> rfl
set_option maxRecDepth 100000 in
set_option maxHeartbeats 4000000 in
theorem xRule_c {T:List (Bs×Nat)} {fin:Nat} (hT:XOk T) {w:World} {p:Nat} {A:Option Addr} {c:Nat} {x:Xs} (h:XdS w p A c T fin x) (hx:GoodX T x) :
  Calls Tryz.prog 42 #[.pointer (some ⟨p,0,none⟩)] w (XRuleP w p A c T fin x (ruleN T fin x.ps)):=by
 have hTl:=hT.len;have hxi:=hx.1;obtain ⟨r,Hr⟩:=nm (ruleN T fin x.ps);rw [Hr.out]
 obtain ⟨W1,HW1⟩:=nm (w.alloc (.cells #[.string ⟨#[]⟩,.int .i64 0,.int .i64 0,.int .i64 0,.int .i64 0,.slice none 0 0,.int .i64 0,.int .i64 0,.int .i64 0,.int .i64 0,.slice none 0 0,.slice none 0 0,.int .i64 0,.int .i64 0] 43))
 have u1:Upd Non w W1:=by rw [←HW1.out];exact Upd.refl.alloc _
 have b1:Blk W1 w.heap.size 43 z14:=by rw [←HW1.out];exact Blk.new _ _ _
 have s1:w.heap.size<W1.heap.size:=by rw [←HW1.out];simp
 obtain ⟨W2,HW2⟩:=nm (W1.alloc (.cells #[.string ⟨#[]⟩,.int .i64 0,.int .i64 0,.int .i64 0,.int .i64 0,.slice none 0 0,.int .i64 0,.int .i64 0,.int .i64 0,.int .i64 0,.slice none 0 0,.slice none 0 0,.int .i64 0,.int .i64 0] 43))
 have u2:Upd Non W1 W2:=by rw [←HW2.out];exact Upd.refl.alloc _
 have b2:Blk W2 W1.heap.size 43 (rlCells ⟨⟨#[]⟩,.mk 0 0 0 0 [],.mk 0 0 0 0 [],[],0,0⟩ ⟨none,0,none,0,none,0⟩):=by rw [←HW2.out];exact Blk.new _ _ _
 have hpw:p<w.heap.size:=h.blk.lt
 have HS2:Hid (XRs w W2 p A c T fin x W1.heap.size ⟨⟨#[]⟩,.mk 0 0 0 0 [],.mk 0 0 0 0 [],[],0,0⟩ ⟨none,0,none,0,none,0⟩) :=
  ⟨(h.non u1).non u2,b1.upd u2 (fun f=>f),b2,CdO.none_,fun k q=>(At.none_ q).elim,PtK.leaf,PtK.leaf,s1,hpw,upd_eq (u1.then_non u2)⟩
 have HXT:=Lib.hid hT;have HX:=Lib.hid hx;clear h hx u1 u2 b1 b2;go_enter Tryz.func42,Tryz.ntmps42
 go_upto_region 1 with fail
 rw [HW1.out]
 go_upto_region 2 with fail
 rw [HW2.out];clear HW1 HW2;obtain ⟨c0,c1,c2,c3,c4,c5,c6,c7⟩:=HS2.out.xd.cells;have cf:=HS2.out.xd.blk.frozen;have hcl:=HS2.out.xd.clear;obtain ⟨x0,Hx0⟩:=nm ({ x with vs:=[],ms:=[] }:Xs);rw [Hx0.out] at hcl;obtain ⟨W3,HW3⟩:=nm ((W2.setCell ⟨p,5,none⟩ (.string ⟨#[]⟩)).setCell ⟨p,6,none⟩ (.string ⟨#[]⟩));rw [HW3.out] at hcl;have e3:=HW3.out
 have u3:Upd (·=p) W2 W3:=by rw [←e3];exact (updCell _ p 5 _).trans (updCell _ p 6 _) (fun _ _ q=>q)
 have HS3:=Lib.hid (HS2.out.call hcl u3)
 have hx0i:x0.i=x.i:=by rw [←Hx0.out]
 have HG0:Hid (GoodX T x0):=by rw [←Hx0.out];exact ⟨HX.out.1,Nat.zero_le _,Nat.zero_le _⟩
 have HNM:Hid (nxS T x0=nxS T x):=by rw [←Hx0.out];rfl
 have CN:=Lib.hid (xNext_c HS3.out.xd (by omega))
 have hsl:(nxS T x0).length≤20000:=by
  by_cases q:x0.why=0∧x0.i<T.length
  ·
   obtain ⟨s,hs⟩:=tk_some q.2;rw [(nx_some (fin:=fin) q.1 hs).1];exact (hT.tk hs).2
  ·
   rw [(nx_none (fin:=fin) q).1];simp
 have HG1:=Lib.hid (nxY_good (fin:=fin) HG0.out);obtain ⟨s,Hs⟩:=nm (nxS T x0);obtain ⟨y1,Hy1⟩:=nm (nxY T fin x0);rw [Hs.out] at CN hsl HNM;rw [Hy1.out] at CN HG1;clear hcl u3 HW3 c0 c1 c2 c3 c4 c7 HS2
 go_wp2_with fail
 refine CN.out.mono ?_;rintro e w4 ⟨rfl,h4,u4⟩;have HS4:=Lib.hid (HS3.out.call h4 u4);have b4:=HS4.out.rl;unfold rlCells at b4;have k0:=b4.cell 0;have kf:=b4.frozen;obtain ⟨W5,HW5⟩:=nm (w4.setCell ⟨W1.heap.size,0,none⟩ (.string (kstr s)))
 have u5:Upd (·=W1.heap.size) w4 W5:=by rw [←HW5.out];exact updCell _ _ _ _
 have b5:Blk W5 W1.heap.size 43 (rlCells ⟨kstr s,.mk 0 0 0 0 [],.mk 0 0 0 0 [],[],0,0⟩ ⟨none,0,none,0,none,0⟩):=by
  have:=b4.set_ 0 (.string (kstr s));rw [HW5.out] at this
  simpa [rlCells] using this
 have HS5:=Lib.hid (HS4.out.rule u5 b5 rfl rfl rfl HS4.out.kl HS4.out.kr);have CE:=Lib.hid (xExpect_c HS5.out.xd [58] (by have:=HG1.out.1.1;omega));clear b4 c5 c6 cf e3 CN h4 u4 u5 b5 HS3
 go_upto_region 5 with fail
 rw [HW5.out];clear k0 kf HS4 HW5
 go_wp2_with fail
 refine CE.out.mono ?_;rintro e w6 ⟨rfl,h6,u6⟩;have HS6:=Lib.hid (HS5.out.call h6 u6);have HG2:Hid (GoodX T (exY T fin [58] y1)):=exY_good HG1.out.1;have HI2:Hid (y1.i≤(exY T fin [58] y1).i):=exY_i;clear CE h6 u6 HS5;obtain ⟨c0,c1,c2,c3,c4,c5,c6,c7⟩:=HS6.out.xd.cells;have cf:=HS6.out.xd.blk.frozen;obtain ⟨W7,HW7⟩:=nm (w6.setCell ⟨p,7,none⟩ (.bool true))
 have e7:=HW7.out
 have HS7:Hid (XRs w W7 p A c T fin { (exY T fin [58] y1) with left:=true } W1.heap.size ⟨kstr s,.mk 0 0 0 0 [],.mk 0 0 0 0 [],[],0,0⟩ ⟨none,0,none,0,none,0⟩):=by
  rw [←e7];exact HS6.out.call (HS6.out.xd.setLeft true) (updCell _ _ _ _)
 have CT:=Lib.hid (xTerm_any hT true T.length HS7.out.xd HG2.out rfl (fun _=>by omega));clear c0 c1 c2 c3 c4 c5 c6 HS6
 go_wp2_with fail
 refine CT.out.mono ?_;rintro e w8 ⟨q1,KA1,kc1,y3,rfl,hq,h8,hg8,_,hi8,hz8,u8,hr8⟩;have HS8:=Lib.hid (HS7.out.call h8 u8);have HQ1:=Lib.hid (HS7.out.new hq);have HG4:=Lib.hid hg8;have HI4:Hid ((exY T fin [58] y1).i≤y3.i):=hi8
 have HZ1:Hid (q1.size≤20001):=by have:=hg8.1;show _≤_;omega
 have HR3:Hid (ResX (exY T fin [58] y1) y3 (termF T fin true (T.length+1) (exY T fin [58] y1).ps) (fun v=>v=q1)):=ResX.weak hr8 (fun _ q=>q.1);have b8:=HS8.out.rl;unfold rlCells at b8;have k1:=b8.cell 1;have k2:=b8.cell 2;have k3:=b8.cell 3;have k4:=b8.cell 4;have k5:=b8.cell 5;have kf:=b8.frozen;clear c7 cf e7 HW7 CT hq h8 hg8 hi8 hz8 u8 hr8 HS7;unfold pv
 go_upto_region 8 with fail
 rw [setLf_eq];obtain ⟨W9,HW9⟩:=nm (setLf w8 W1.heap.size (.int .i64 q1.v) (.int .i64 q1.op) (.int .i64 q1.imm) (.int .i64 q1.iv) (.slice KA1 q1.kids.length kc1));rw [HW9.out]
 have u9:Upd (·=W1.heap.size) w8 W9:=by rw [←HW9.out];exact setLf_upd _ _ _ _ _ _ _
 have b9:Blk W9 W1.heap.size 43 (rlCells ⟨kstr s,q1,.mk 0 0 0 0 [],[],0,0⟩ ⟨KA1,kc1,none,0,none,0⟩):=by rw [←HW9.out];exact setLf_blk b8 _ _ _ _ _
 have HS9:=Lib.hid (HS8.out.rule u9 b9 rfl rfl rfl HQ1.out HS8.out.kr);clear b8 k1 k2 k3 k4 k5 kf u9 b9 HW9 HS8 HQ1;obtain ⟨c0,c1,c2,c3,c4,c5,c6,c7⟩:=HS9.out.xd.cells;have cf:=HS9.out.xd.blk.frozen;obtain ⟨W10,HW10⟩:=nm (W9.setCell ⟨p,7,none⟩ (.bool false));have e10:=HW10.out
 have HS10:Hid (XRs w W10 p A c T fin { y3 with left:=false } W1.heap.size ⟨kstr s,q1,.mk 0 0 0 0 [],[],0,0⟩ ⟨KA1,kc1,none,0,none,0⟩):=by
  rw [←e10];exact HS9.out.call (HS9.out.xd.setLeft false) (updCell _ _ _ _)
 have CE:=Lib.hid (xExpect_c HS10.out.xd [61,62] (by have:=HG4.out.1;show y3.i≤_;omega));clear c0 c1 c2 c3 c4 c5 c6 HS9
 go_wp2_with fail
 refine CE.out.mono ?_;rintro e w11 ⟨rfl,h11,u11⟩;rw [exY_left_set] at h11;have HS11:=Lib.hid (HS10.out.call h11 u11);have HG5:Hid (GoodX T (exY T fin [61,62] y3)):=exY_good HG4.out;have HI5:Hid (y3.i≤(exY T fin [61,62] y3).i):=exY_i;have CT:=Lib.hid (xTerm_any hT false T.length HS11.out.xd HG5.out rfl (fun _=>by omega));clear CE c7 cf e10 HW10 h11 u11 HS10
 go_wp2_with fail
 refine CT.out.mono ?_;rintro e w12 ⟨q2,KA2,kc2,y5,rfl,hq,h12,hg12,hl12,hi12,hz12,u12,hr12⟩;have HS12:=Lib.hid (HS11.out.call h12 u12);have HQ2:=Lib.hid (HS11.out.new hq);have HG7:=Lib.hid hg12;have HL7:Hid (y5.left=false):=hl12;have HI7:Hid ((exY T fin [61,62] y3).i≤y5.i):=hi12
 have HZ2:Hid (q2.size≤20001):=by have:=hg12.1;show _≤_;omega
 have HR5:Hid (ResX (exY T fin [61,62] y3) y5 (termF T fin false (T.length+1) (exY T fin [61,62] y3).ps) (fun v=>v=q2)):=ResX.weak hr12 (fun _ q=>q.1)
 have b12:=HS12.out.rl;unfold rlCells at b12;have k6:=b12.cell 6;have k7:=b12.cell 7;have k8:=b12.cell 8;have k9:=b12.cell 9;have k10:=b12.cell 10;have kf:=b12.frozen;clear CT hq h12 hg12 hl12 hi12 hz12 u12 hr12 HS11;unfold pv
 go_upto_region 11 with fail
 rw [setRt_eq];obtain ⟨W13,HW13⟩:=nm (setRt w12 W1.heap.size (.int .i64 q2.v) (.int .i64 q2.op) (.int .i64 q2.imm) (.int .i64 q2.iv) (.slice KA2 q2.kids.length kc2));rw [HW13.out]
 have u13:Upd (·=W1.heap.size) w12 W13:=by rw [←HW13.out];exact setRt_upd _ _ _ _ _ _ _
 have b13:Blk W13 W1.heap.size 43 (rlCells ⟨kstr s,q1,q2,[],0,0⟩ ⟨KA1,kc1,KA2,kc2,none,0⟩):=by rw [←HW13.out];exact setRt_blk b12 _ _ _ _ _
 have HS13:=Lib.hid (HS12.out.rule u13 b13 rfl rfl rfl HS12.out.kl HQ2.out);have CI:=Lib.hid (xAt_c HS13.out.xd [105,102]);obtain ⟨z,Hz⟩:=nm (y5.why==0&&decide (tkF T y5.i=some [105,102]));rw [Hz.out] at CI;clear b12 k6 k7 k8 k9 k10 kf u13 b13 HW13 HS12 HQ2
 go_upto_if 30 with fail
 refine CI.out.mono ?_;rintro e w14 ⟨rfl,u14⟩;have HS14:=Lib.hid (HS13.out.non u14);clear CI u14 HS13;have HT:=HXT
 go_upto_if 30 with fail
 go_cut [] (fun wx=>∃(CA:Option Addr) (cc:Nat) (cs:List Cd) (y6:Xs),Hid (XRs w wx p A c T fin y6 W1.heap.size ⟨kstr s,q1,q2,cs,0,0⟩ ⟨KA1,kc1,KA2,kc2,CA,cc⟩)∧Hid (GoodX T y6)∧Hid (y5.i≤y6.i)∧Hid (ResX y5 y6 (ifF T fin (T.length+1) y5.ps) (fun v=>v=cs))∧cs.length≤T.length+2)
 case first =>
  cases z with
  | false =>
   go_wp2_with fail
   go_meet
   case rel=>exact ⟨none,0,[],y5,HS14,HG7,Nat.le_refl _,ifX_none Hz.out,Nat.zero_le _⟩
  | true =>
   have hz2:=Hz.out;simp only [Bool.and_eq_true,beq_iff_eq,decide_eq_true_eq] at hz2;have H05:Hid (y5.why=0):=hz2.1;have HTK:Hid (tkF T y5.i=some [105,102]):=hz2.2;have hiT:=xtk_lt hz2.2;obtain ⟨c0,c1,c2,c3,c4,c5,c6,c7⟩:=HS14.out.xd.cells;have cf:=HS14.out.xd.blk.frozen;have hs18:=HS14.out.call (HS14.out.xd.setI (y5.i+1)) (updCell _ _ _ _)
   have hg18:GoodX T { y5 with i:=y5.i+1 }:=⟨hiT,Nat.le_succ_of_le HG7.out.2.1,Nat.le_succ_of_le HG7.out.2.2⟩;obtain ⟨i,Hi⟩:=nm y5.i;rw [Hi.out] at c1 hiT hs18;rw [show (.int .i64 ((i+1:Nat):Int):Value)=.int .i64 ((i:Int)+1) from rfl] at hs18;obtain ⟨W18,HW18⟩:=nm (w14.setCell ⟨p,1,none⟩ (.int .i64 ((i:Int)+1)));have e18:=HW18.out;rw [e18,←Hi.out] at hs18
   have HS18:=Lib.hid hs18;have HG:=Lib.hid hg18;have HL:Hid (({ y5 with i:=y5.i+1 }:Xs).left=false):=HL7.out;clear hz2 c0 c2 c3 c4 c5 c6 c7 hs18 hg18
   go_upto_region 13 with fail
   clear c1 cf e18 HW18
   obtain ⟨yy,CA,cc,cs,Hyy,Hcs,HS,HG,HL⟩:∃(yy:Xs) (CA:Option Addr) (cc:Nat) (cs:List Cd),Hid (yy={ y5 with i:=y5.i+1 })∧Hid (cs=[])∧Hid (XRs w W18 p A c T fin yy W1.heap.size ⟨kstr s,q1,q2,cs,0,0⟩ ⟨KA1,kc1,KA2,kc2,CA,cc⟩)∧Hid (GoodX T yy)∧Hid (yy.left=false):=⟨_,none,0,[],rfl,rfl,HS18,HG,HL⟩
   have hcl:cs.length≤100000:=by rw [Hcs.out];exact Nat.zero_le _
   clear HS18 HS14
   go_cut [] (fun wx=>∃(A8:Option Addr) (c8:Nat) (cd:Cd) (y':Xs),Hid (XRs w wx p A c T fin y' W1.heap.size ⟨kstr s,q1,q2,cs++[cd],0,0⟩ ⟨KA1,kc1,KA2,kc2,A8,c8⟩)∧Hid (GoodX T y')∧Hid (y'.left=false)∧Hid (yy.i≤y'.i)∧Hid (ResX yy y' (pcondF T fin yy.ps) (fun v=>v=cd)))
   case first =>
    obtain ⟨wD,HwD⟩:=nm W18.drew
    have uD:Upd Non W18 wD:=by rw [←HwD.out];exact Upd.refl.drew
    have HS:=Lib.hid (HS.out.non uD);refine wp_region_held_drew (S:=fun _=>True) (by kernel_rfl) trivial (fun hHeld=>?_);rw [HwD.out];clear uD;refine wpT 0 ?_
    try simp only [put_y,put_z]
    refine wpT 2 ?_
    try simp only [put_y,put_z]
    refine wpAnyH_ready (rs:=[1,3]) (by kernel_rfl) (by simp) ?_;refine AllReadyH.cons rfl (fun K hK=>?_) (AllReadyH.cons rfl (fun K hK=>?_) AllReadyH.nil)
    ·
     skip;have hbk:=HS.out.rl;unfold rlCells at hbk;have k11:=hbk.cell 11;go_simp;refine hK.out _ _ ?_ (fun hHeld=>?_)
     ·
      exact trivial
     clear hK K
     try simp only [put_y,put_z]
     clear hbk k11;refine wpAnyH_ready (rs:=[3]) (by kernel_rfl) (by simp) ?_;refine AllReadyH.cons rfl (fun K hK=>?_) AllReadyH.nil;go_simp;refine (xCond_c HT.out HS.out.xd HG.out HL.out).mono ?_;rintro e wc6 ⟨cd,y',rfl,hy',hg',hl',hi',hu',hres⟩;have HS:=Lib.hid (HS.out.call hy' hu');have HG2:=Lib.hid hg';have HL2:Hid (y'.left=false):=hl'.trans HL.out
     have HI2:Hid (yy.i≤y'.i):=hi';have HRS:=Lib.hid hres;clear hy' hg' hu' hres hl' hi'
     go_wp2_with fail
     refine hK.out _ _ ?_ (fun hHeld=>?_)
     ·
      exact trivial
     clear hK K
     try simp only [put_y,put_z]
     refine wpAnyH_ready (rs:=[4]) (by kernel_rfl) (by simp) ?_;refine AllReadyH.cons rfl (fun K hK=>?_) AllReadyH.nil;go_simp;have HS:=Lib.hid (HS.out.non (Upd.refl.alloc (.cells #[.int .i64 cd.kind,.int .i64 cd.a,.int .i64 cd.b,.int .i64 cd.n] 69) (S:=Non)));refine hK.out _ _ ?_ (fun hHeld=>?_)
     ·
      exact trivial
     clear hK K
     try simp only [put_y,put_z]
     refine wpAnyH_ready (rs:=[5]) (by kernel_rfl) (by simp) ?_;refine AllReadyH.cons rfl (fun K hK=>?_) AllReadyH.nil;have hko:=HS.out.cds;unfold CdO at hko;refine step_app rfl rfl T_conds rfl hko rfl (Sl.new _ _ _) rfl (by simp [Value.oneCell']) (by simp only [maxLen];omega) (by omega) ?_;intro A8 c8 w8' ho8 hu8 hat8;have hcd:=CdO.of rfl ho8
     have hbk:=HS.out.rl.upd hu8 (fun q=>Nat.lt_irrefl _ (HS.out.cat _ q));unfold rlCells at hbk;have k11:=hbk.cell 11;have kf:=hbk.frozen;clear hko ho8;refine hK.out _ _ ?_ (fun hHeld=>?_)
     ·
      exact trivial
     clear hK K
     try simp only [put_y,put_z]
     refine wpT 6 ?_
     try simp only [put_y,put_z]
     refine wpAnyH_ready (rs:=[7]) (by kernel_rfl) (by simp) ?_;refine AllReadyH.cons rfl (fun K hK=>?_) AllReadyH.nil;go_simp;have hb9:=hbk.set_ 11 (.slice A8 (cs++[cd]).length c8);obtain ⟨w9,Hw9⟩:=nm (w8'.setCell ⟨W1.heap.size,11,none⟩ (.slice A8 (cs++[cd]).length c8));have e9:=Hw9.out;rw [e9] at hb9;rw [List.length_append,List.length_singleton] at e9;rw [e9]
     have u9:Upd (·=W1.heap.size) w8' w9:=by rw [←Hw9.out];exact updCell _ _ _ _
     have HS:=Lib.hid (HS.out.app hu8 hcd hat8 u9 (by simpa [rlCells] using hb9));clear hbk k11 kf hcd hu8 hat8 hb9 u9 Hw9 e9;refine hK.out _ _ ?_ (fun hHeld=>?_)
     ·
      exact trivial
     clear hK K
     try simp only [put_y,put_z]
     refine wpAnyH_done (by kernel_rfl) ?_ _
     go_wp2_with fail
     go_meet
     case rel=>exact ⟨A8,c8,cd,y',HS,HG2,HL2,HI2,HRS⟩
    ·
     skip;go_simp;refine (xCond_c HT.out HS.out.xd HG.out HL.out).mono ?_;rintro e wc6 ⟨cd,y',rfl,hy',hg',hl',hi',hu',hres⟩;have HS:=Lib.hid (HS.out.call hy' hu');have HG2:=Lib.hid hg';have HL2:Hid (y'.left=false):=hl'.trans HL.out;have HI2:Hid (yy.i≤y'.i):=hi';have HRS:=Lib.hid hres;clear hy' hg' hu' hres hl' hi'
     go_wp2_with fail
     refine hK.out _ _ ?_ (fun hHeld=>?_)
     ·
      exact trivial
     clear hK K
     try simp only [put_y,put_z]
     have hbk:=HS.out.rl;unfold rlCells at hbk;have k11:=hbk.cell 11
     refine wpAnyH_takeM (fun w'=>w'.cell? ⟨W1.heap.size,11,none⟩=some (.slice CA cs.length cc)) (calm_cell _ _) [5,6,7] (i:=1) (v:=?_) rfl (by kernel_rfl) (by kernel_rfl) (by kernel_rfl) (by kernel_rfl) (fun _ _ _ h=>h) (Or.inl ⟨by rfl,?_⟩) (k11) (by assumption) ?_
     rotate_left
     ·
      intro w hSw;(try dsimp only at hSw);go_simp;try with_reducible rfl
     try simp only [put_y,put_z]
     clear hbk k11;refine wpAnyH_ready (rs:=[4]) (by kernel_rfl) (by simp) ?_;refine AllReadyH.cons rfl (fun K hK=>?_) AllReadyH.nil;go_simp;have HS:=Lib.hid (HS.out.non (Upd.refl.alloc (.cells #[.int .i64 cd.kind,.int .i64 cd.a,.int .i64 cd.b,.int .i64 cd.n] 69) (S:=Non)));refine hK.out _ _ ?_ (fun hHeld=>?_)
     ·
      exact trivial
     clear hK K
     try simp only [put_y,put_z]
     refine wpAnyH_ready (rs:=[5]) (by kernel_rfl) (by simp) ?_;refine AllReadyH.cons rfl (fun K hK=>?_) AllReadyH.nil;have hko:=HS.out.cds;unfold CdO at hko;refine step_app rfl rfl T_conds rfl hko rfl (Sl.new _ _ _) rfl (by simp [Value.oneCell']) (by simp only [maxLen];omega) (by omega) ?_;intro A8 c8 w8' ho8 hu8 hat8;have hcd:=CdO.of rfl ho8
     have hbk:=HS.out.rl.upd hu8 (fun q=>Nat.lt_irrefl _ (HS.out.cat _ q));unfold rlCells at hbk;have k11:=hbk.cell 11;have kf:=hbk.frozen;clear hko ho8;refine hK.out _ _ ?_ (fun hHeld=>?_)
     ·
      exact trivial
     clear hK K
     try simp only [put_y,put_z]
     refine wpT 6 ?_
     try simp only [put_y,put_z]
     refine wpAnyH_ready (rs:=[7]) (by kernel_rfl) (by simp) ?_;refine AllReadyH.cons rfl (fun K hK=>?_) AllReadyH.nil;go_simp;have hb9:=hbk.set_ 11 (.slice A8 (cs++[cd]).length c8);obtain ⟨w9,Hw9⟩:=nm (w8'.setCell ⟨W1.heap.size,11,none⟩ (.slice A8 (cs++[cd]).length c8));have e9:=Hw9.out;rw [e9] at hb9;rw [List.length_append,List.length_singleton] at e9;rw [e9]
     have u9:Upd (·=W1.heap.size) w8' w9:=by rw [←Hw9.out];exact updCell _ _ _ _
     have HS:=Lib.hid (HS.out.app hu8 hcd hat8 u9 (by simpa [rlCells] using hb9));clear hbk k11 kf hcd hu8 hat8 hb9 u9 Hw9 e9;refine hK.out _ _ ?_ (fun hHeld=>?_)
     ·
      exact trivial
     clear hK K
     try simp only [put_y,put_z]
     refine wpAnyH_done (by kernel_rfl) ?_ _
     go_wp2_with fail
     go_meet
     case rel=>exact ⟨A8,c8,cd,y',HS,HG2,HL2,HI2,HRS⟩
   case rest =>
    obtain ⟨CB,cb,cd,y6,HS,HG,HL,HI,HRS⟩:=hcut
    have HC:Hid (CdX T fin y5 y6 (cs++[cd]) (T.length+1)):=by
     show CdX T fin y5 y6 (cs++[cd]) (T.length+1);rw [Hcs.out];have h2:=HRS.out;rw [Hyy.out] at h2;exact CdX.first HTK.out H05.out h2
    have HI6:Hid (y5.i≤y6.i):=by have h3:=HI.out;rw [Hyy.out] at h3;exact Nat.le_of_succ_le h3
    have hcb:(cs++[cd]).length+(T.length+1)≤T.length+2:=by rw [Hcs.out];simp;omega
    clear Hyy Hcs HRS hcl HTK H05 HI
    go_wp2_with fail
    go_loopg [] (T.length+1) (fun g wr=>∃(fu:Nat) (CB:Option Addr) (cb:Nat) (cs:List Cd) (y:Xs),Hid (g=fu)∧Hid (XRs w wr p A c T fin y W1.heap.size ⟨kstr s,q1,q2,cs,0,0⟩ ⟨KA1,kc1,KA2,kc2,CB,cb⟩)∧Hid (GoodX T y)∧Hid (y.left=false)∧Hid (CdX T fin y5 y cs fu)∧Hid (y5.i≤y.i)∧cs.length+fu≤T.length+2)
    case atStart=>exact ⟨_,CB,cb,cs++[cd],y6,rfl,HS,HG,HL,HC,HI6,hcb⟩
    case round =>
     clear HS HG HL HC hcb HI6;obtain ⟨fu,CA,cc,cs,y,Hfu,HS,HG,HL,HC,HI,hcb⟩:=hrel;have CI:=Lib.hid (xAt_c HS.out.xd [44]);obtain ⟨z,Hz3⟩:=nm (y.why==0&&decide (tkF T y.i=some [44]));rw [Hz3.out] at CI
     go_wp2_with fail
     refine CI.out.mono ?_;rintro e wi ⟨rfl,hui⟩;have HSi:=Lib.hid (HS.out.non hui);clear HS CI hui
     cases z with
     | false =>
      go_wp2_with fail
      go_meet
      case rel=>exact ⟨CA,cc,cs,y,HSi,HG,HI,CdX.done HC.out Hz3.out,by omega⟩
     | true =>
      have hz2:=Hz3.out;simp only [Bool.and_eq_true,beq_iff_eq,decide_eq_true_eq] at hz2;have H05:Hid (y.why=0):=hz2.1;have HTK:Hid (tkF T y.i=some [44]):=hz2.2;have hiT:=xtk_lt hz2.2;obtain ⟨c0,c1,c2,c3,c4,c5,c6,c7⟩:=HSi.out.xd.cells;have cf:=HSi.out.xd.blk.frozen;have hs18:=HSi.out.call (HSi.out.xd.setI (y.i+1)) (updCell _ _ _ _)
      have hg18:GoodX T { y with i:=y.i+1 }:=⟨hiT,Nat.le_succ_of_le HG.out.2.1,Nat.le_succ_of_le HG.out.2.2⟩;have HIT:=Lib.hid hiT;obtain ⟨i,Hi⟩:=nm y.i;rw [Hi.out] at c1 hiT hs18;rw [show (.int .i64 ((i+1:Nat):Int):Value)=.int .i64 ((i:Int)+1) from rfl] at hs18;obtain ⟨W18,HW18⟩:=nm (wi.setCell ⟨p,1,none⟩ (.int .i64 ((i:Int)+1)));have e18:=HW18.out
      rw [e18,←Hi.out] at hs18
      obtain ⟨yy,Hyy,HS,HG,HL⟩:∃(yy:Xs),Hid (yy={ y with i:=y.i+1 })∧Hid (XRs w W18 p A c T fin yy W1.heap.size ⟨kstr s,q1,q2,cs,0,0⟩ ⟨KA1,kc1,KA2,kc2,CA,cc⟩)∧Hid (GoodX T yy)∧Hid (yy.left=false):=⟨_,rfl,hs18,hg18,HL.out⟩
      have hcl:cs.length≤100002:=by omega
      clear hz2 c0 c2 c3 c4 c5 c6 c7 hs18 hg18 HSi
      go_upto_region 16 with fail
      clear c1 cf e18 HW18;obtain ⟨wD,HwD⟩:=nm W18.drew
      have uD:Upd Non W18 wD:=by rw [←HwD.out];exact Upd.refl.drew
      have HS:=Lib.hid (HS.out.non uD);refine wp_region_held_drew (S:=fun _=>True) (by kernel_rfl) trivial (fun hHeld=>?_);rw [HwD.out];clear uD;refine wpT 0 ?_
      try simp only [put_y,put_z]
      refine wpT 2 ?_
      try simp only [put_y,put_z]
      refine wpAnyH_ready (rs:=[1,3]) (by kernel_rfl) (by simp) ?_;refine AllReadyH.cons rfl (fun K hK=>?_) (AllReadyH.cons rfl (fun K hK=>?_) AllReadyH.nil)
      ·
       skip;have hbk:=HS.out.rl;unfold rlCells at hbk;have k11:=hbk.cell 11;go_simp;refine hK.out _ _ ?_ (fun hHeld=>?_)
       ·
        exact trivial
       clear hK K
       try simp only [put_y,put_z]
       clear hbk k11;refine wpAnyH_ready (rs:=[3]) (by kernel_rfl) (by simp) ?_;refine AllReadyH.cons rfl (fun K hK=>?_) AllReadyH.nil;go_simp;refine (xCond_c HT.out HS.out.xd HG.out HL.out).mono ?_;rintro e wc6 ⟨cd,y',rfl,hy',hg',hl',hi',hu',hres⟩;have HS:=Lib.hid (HS.out.call hy' hu');have HG2:=Lib.hid hg';have HL2:Hid (y'.left=false):=hl'.trans HL.out
       have HI2:Hid (yy.i≤y'.i):=hi';have HRS:=Lib.hid hres;clear hy' hg' hu' hres hl' hi'
       go_wp2_with fail
       refine hK.out _ _ ?_ (fun hHeld=>?_)
       ·
        exact trivial
       clear hK K
       try simp only [put_y,put_z]
       refine wpAnyH_ready (rs:=[4]) (by kernel_rfl) (by simp) ?_;refine AllReadyH.cons rfl (fun K hK=>?_) AllReadyH.nil;go_simp;have HS:=Lib.hid (HS.out.non (Upd.refl.alloc (.cells #[.int .i64 cd.kind,.int .i64 cd.a,.int .i64 cd.b,.int .i64 cd.n] 69) (S:=Non)));refine hK.out _ _ ?_ (fun hHeld=>?_)
       ·
        exact trivial
       clear hK K
       try simp only [put_y,put_z]
       refine wpAnyH_ready (rs:=[5]) (by kernel_rfl) (by simp) ?_;refine AllReadyH.cons rfl (fun K hK=>?_) AllReadyH.nil;have hko:=HS.out.cds;unfold CdO at hko;refine step_app rfl rfl T_conds rfl hko rfl (Sl.new _ _ _) rfl (by simp [Value.oneCell']) (by simp only [maxLen];omega) (by omega) ?_;intro A8 c8 w8' ho8 hu8 hat8;have hcd:=CdO.of rfl ho8
       have hbk:=HS.out.rl.upd hu8 (fun q=>Nat.lt_irrefl _ (HS.out.cat _ q));unfold rlCells at hbk;have k11:=hbk.cell 11;have kf:=hbk.frozen;clear hko ho8;refine hK.out _ _ ?_ (fun hHeld=>?_)
       ·
        exact trivial
       clear hK K
       try simp only [put_y,put_z]
       refine wpT 6 ?_
       try simp only [put_y,put_z]
       refine wpAnyH_ready (rs:=[7]) (by kernel_rfl) (by simp) ?_;refine AllReadyH.cons rfl (fun K hK=>?_) AllReadyH.nil;go_simp;have hb9:=hbk.set_ 11 (.slice A8 (cs++[cd]).length c8);obtain ⟨w9,Hw9⟩:=nm (w8'.setCell ⟨W1.heap.size,11,none⟩ (.slice A8 (cs++[cd]).length c8));have e9:=Hw9.out;rw [e9] at hb9;rw [List.length_append,List.length_singleton] at e9;rw [e9]
       have u9:Upd (·=W1.heap.size) w8' w9:=by rw [←Hw9.out];exact updCell _ _ _ _
       have HS:=Lib.hid (HS.out.app hu8 hcd hat8 u9 (by simpa [rlCells] using hb9));clear hbk k11 kf hcd hu8 hat8 hb9 u9 Hw9 e9;refine hK.out _ _ ?_ (fun hHeld=>?_)
       ·
        exact trivial
       clear hK K
       try simp only [put_y,put_z]
       refine wpAnyH_done (by kernel_rfl) ?_ _
       have HM:Hid (0<fu∧CdX T fin y5 y' (cs++[cd]) (fu - 1)):=by
        have h2:=HRS.out;have h3:=HI2.out;rw [Hyy.out] at h2 h3;exact CdX.more HC.out HTK.out H05.out HIT.out h2 h3
       have hg0:=HM.out.1;have HC2:Hid (CdX T fin y5 y' (cs++[cd]) (fu - 1)):=HM.out.2
       have HI3:Hid (y5.i≤y'.i):=by
        have h3:=HI2.out;rw [Hyy.out] at h3;have h4:=HI.out;exact Nat.le_trans h4 (Nat.le_of_succ_le h3)
       clear HM HRS Hyy HC HTK H05
       go_wp2_with fail
       go_roundg (fu - 1)
       case measure=>rw [Hfu.out];omega
       case rel=>exact ⟨fu - 1,A8,c8,cs++[cd],y',rfl,HS,HG2,HL2,HC2,HI3,by rw [List.length_append,List.length_singleton];omega⟩
      ·
       skip;go_simp;refine (xCond_c HT.out HS.out.xd HG.out HL.out).mono ?_;rintro e wc6 ⟨cd,y',rfl,hy',hg',hl',hi',hu',hres⟩;have HS:=Lib.hid (HS.out.call hy' hu');have HG2:=Lib.hid hg';have HL2:Hid (y'.left=false):=hl'.trans HL.out;have HI2:Hid (yy.i≤y'.i):=hi';have HRS:=Lib.hid hres;clear hy' hg' hu' hres hl' hi'
       go_wp2_with fail
       refine hK.out _ _ ?_ (fun hHeld=>?_)
       ·
        exact trivial
       clear hK K
       try simp only [put_y,put_z]
       have hbk:=HS.out.rl;unfold rlCells at hbk;have k11:=hbk.cell 11
       refine wpAnyH_takeM (fun w'=>w'.cell? ⟨W1.heap.size,11,none⟩=some (.slice CA cs.length cc)) (calm_cell _ _) [5,6,7] (i:=1) (v:=?_) rfl (by kernel_rfl) (by kernel_rfl) (by kernel_rfl) (by kernel_rfl) (fun _ _ _ h=>h) (Or.inl ⟨by rfl,?_⟩) (k11) (by assumption) ?_
       rotate_left
       ·
        intro w hSw;(try dsimp only at hSw);go_simp;try with_reducible rfl
       try simp only [put_y,put_z]
       clear hbk k11;refine wpAnyH_ready (rs:=[4]) (by kernel_rfl) (by simp) ?_;refine AllReadyH.cons rfl (fun K hK=>?_) AllReadyH.nil;go_simp;have HS:=Lib.hid (HS.out.non (Upd.refl.alloc (.cells #[.int .i64 cd.kind,.int .i64 cd.a,.int .i64 cd.b,.int .i64 cd.n] 69) (S:=Non)));refine hK.out _ _ ?_ (fun hHeld=>?_)
       ·
        exact trivial
       clear hK K
       try simp only [put_y,put_z]
       refine wpAnyH_ready (rs:=[5]) (by kernel_rfl) (by simp) ?_;refine AllReadyH.cons rfl (fun K hK=>?_) AllReadyH.nil;have hko:=HS.out.cds;unfold CdO at hko;refine step_app rfl rfl T_conds rfl hko rfl (Sl.new _ _ _) rfl (by simp [Value.oneCell']) (by simp only [maxLen];omega) (by omega) ?_;intro A8 c8 w8' ho8 hu8 hat8;have hcd:=CdO.of rfl ho8
       have hbk:=HS.out.rl.upd hu8 (fun q=>Nat.lt_irrefl _ (HS.out.cat _ q));unfold rlCells at hbk;have k11:=hbk.cell 11;have kf:=hbk.frozen;clear hko ho8;refine hK.out _ _ ?_ (fun hHeld=>?_)
       ·
        exact trivial
       clear hK K
       try simp only [put_y,put_z]
       refine wpT 6 ?_
       try simp only [put_y,put_z]
       refine wpAnyH_ready (rs:=[7]) (by kernel_rfl) (by simp) ?_;refine AllReadyH.cons rfl (fun K hK=>?_) AllReadyH.nil;go_simp;have hb9:=hbk.set_ 11 (.slice A8 (cs++[cd]).length c8);obtain ⟨w9,Hw9⟩:=nm (w8'.setCell ⟨W1.heap.size,11,none⟩ (.slice A8 (cs++[cd]).length c8));have e9:=Hw9.out;rw [e9] at hb9;rw [List.length_append,List.length_singleton] at e9;rw [e9]
       have u9:Upd (·=W1.heap.size) w8' w9:=by rw [←Hw9.out];exact updCell _ _ _ _
       have HS:=Lib.hid (HS.out.app hu8 hcd hat8 u9 (by simpa [rlCells] using hb9));clear hbk k11 kf hcd hu8 hat8 hb9 u9 Hw9 e9;refine hK.out _ _ ?_ (fun hHeld=>?_)
       ·
        exact trivial
       clear hK K
       try simp only [put_y,put_z]
       refine wpAnyH_done (by kernel_rfl) ?_ _
       have HM:Hid (0<fu∧CdX T fin y5 y' (cs++[cd]) (fu - 1)):=by
        have h2:=HRS.out;have h3:=HI2.out;rw [Hyy.out] at h2 h3;exact CdX.more HC.out HTK.out H05.out HIT.out h2 h3
       have hg0:=HM.out.1;have HC2:Hid (CdX T fin y5 y' (cs++[cd]) (fu - 1)):=HM.out.2
       have HI3:Hid (y5.i≤y'.i):=by
        have h3:=HI2.out;rw [Hyy.out] at h3;have h4:=HI.out;exact Nat.le_trans h4 (Nat.le_of_succ_le h3)
       clear HM HRS Hyy HC HTK H05
       go_wp2_with fail
       go_roundg (fu - 1)
       case measure=>rw [Hfu.out];omega
       case rel=>exact ⟨fu - 1,A8,c8,cs++[cd],y',rfl,HS,HG2,HL2,HC2,HI3,by rw [List.length_append,List.length_singleton];omega⟩
 case rest =>
  clear HG7 HL7 HS14;obtain ⟨CA,cc,cs,y6,HS,HG,HI6,HR6,hcl⟩:=hcut;have CE:=Lib.hid (xExpect_c HS.out.xd [59] (by have:=HG.out.1;omega))
  go_wp2_with fail
  refine CE.out.mono ?_;rintro e w19 ⟨rfl,h19,u19⟩;have HGE:Hid (GoodX T (exY T fin [59] y6)):=exY_good HG.out;have HIE:Hid (y6.i≤(exY T fin [59] y6).i):=exY_i;have HRU:=Lib.hid (ruleX_fin Hx0.out.symm Hs.out Hy1.out HR3.out HR5.out HR6.out);obtain ⟨yE,HyE⟩:=nm (exY T fin [59] y6);rw [HyE.out] at h19 HGE HIE HRU;have HS19:=Lib.hid (HS.out.call h19 u19);clear CE h19 u19 HS
  obtain ⟨c0,c1,c2,c3,c4,c5,c6,c7⟩:=HS19.out.xd.cells;have cf:=HS19.out.xd.blk.frozen;have hvs:(kstr yE.vs).size=yE.vs.length:=kstr_size _;have hms:(kstr yE.ms).size=yE.ms.length:=kstr_size _;obtain ⟨sv,Hsv⟩:=nm (kstr yE.vs);obtain ⟨sm,Hsm⟩:=nm (kstr yE.ms);obtain ⟨vn,Hvn⟩:=nm yE.vs.length;obtain ⟨mn,Hmn⟩:=nm yE.ms.length;rw [Hsv.out] at c5 hvs
  rw [Hsm.out] at c6 hms;rw [Hvn.out] at hvs HRU;rw [Hmn.out] at hms HRU;have b19:=HS19.out.rl;unfold rlCells at b19;have k12:=b19.cell 12;have k13:=b19.cell 13;have kf:=b19.frozen;obtain ⟨W20,HW20⟩:=nm ((w19.setCell ⟨W1.heap.size,12,none⟩ (.int .i64 (vn:Nat))).setCell ⟨W1.heap.size,13,none⟩ (.int .i64 (mn:Nat)));have e20:=HW20.out
  have u20:Upd (·=W1.heap.size) w19 W20:=by rw [←HW20.out];exact (updCell _ _ 12 _).trans (updCell _ _ 13 _) (fun _ _ q=>q)
  have b20:Blk W20 W1.heap.size 43 (rlCells ⟨kstr s,q1,q2,cs,vn,mn⟩ ⟨KA1,kc1,KA2,kc2,CA,cc⟩):=by
   have:=(b19.set_ 12 (.int .i64 (vn:Nat))).set_ 13 (.int .i64 (mn:Nat));rw [HW20.out] at this
   simpa [rlCells] using this
  have HS20:=Lib.hid (HS19.out.rule u20 b20 rfl rfl rfl HS19.out.kl HS19.out.kr);clear c0 c1 c2 c3 c4 c7 b19 u20 b20 HW20
  go_upto_region 20 with fail
  clear c5 c6 cf k12 k13 kf e20 HS19;have b21:=HS20.out.rl;unfold rlCells at b21;have k0:=b21.cell 0;have k1:=b21.cell 1;have k2:=b21.cell 2;have k3:=b21.cell 3;have k4:=b21.cell 4;have k5:=b21.cell 5;have k6:=b21.cell 6;have k7:=b21.cell 7;have k8:=b21.cell 8;have k9:=b21.cell 9;have k10:=b21.cell 10;have k11:=b21.cell 11;have k12:=b21.cell 12;have k13:=b21.cell 13
  have b0:=HS20.out.res;unfold z14 at b0;have z0:=b0.cell 0;have z1:=b0.cell 1;have z2:=b0.cell 2;have z3:=b0.cell 3;have z4:=b0.cell 4;have z5:=b0.cell 5;have z6:=b0.cell 6;have z7:=b0.cell 7;have z8:=b0.cell 8;have z9:=b0.cell 9;have z10:=b0.cell 10;have z11:=b0.cell 11;have z12:=b0.cell 12;have z13:=b0.cell 13;have zf:=b0.frozen;have HB0:=Lib.hid b0
  clear b21 b0
  go_wp2_with fail
  rw [set14_eq]
  have u22:=set14_upd W20 w.heap.size (.string (kstr s)) (.int .i64 q1.v) (.int .i64 q1.op) (.int .i64 q1.imm) (.int .i64 q1.iv) (.slice KA1 q1.kids.length kc1) (.int .i64 q2.v) (.int .i64 q2.op) (.int .i64 q2.imm) (.int .i64 q2.iv) (.slice KA2 q2.kids.length kc2) (.slice CA cs.length cc) (.int .i64 (vn:Nat)) (.int .i64 (mn:Nat))
  have HF:=Lib.hid (HS20.out.fin_ u22)
  refine bodyPost_ret (results_cell_row rfl _ _ w.heap.size 43 _ (0,0) _ rfl (set14_blk HB0.out _ _ _ _ _ _ _ _ _ _ _ _ _ _) Tryz.underlying43 rfl (by kernel_rfl)) rfl ?_
  rw [←Hr.out]
  refine ⟨⟨kstr s,q1,q2,cs,vn,mn⟩,⟨KA1,kc1,KA2,kc2,CA,cc⟩,yE,rfl,HF.out.2.1,HF.out.1,HGE.out,?_,HF.out.2.2,⟨?_,?_,?_,?_⟩,by rw [←HNM.out],HRU.out⟩
  ·
   have e1:=HG1.out.2.1;have e2:=HI2.out;have e3:=HI4.out;have e4:=HI5.out;have e5:=HI7.out;have e6:=HI6.out;have e7:=HIE.out;omega
  ·
   have:=HZ1.out;show q1.size≤_;omega
  ·
   have:=HZ2.out;show q2.size≤_;omega
  ·
   show cs.length≤_;omega
  ·
   show (kstr s).size≤_;rw [kstr_size];omega
end Go.Proofs.YtblkgjdhaibhgaaGreat
