/-
  Lemmas and walks that the claim rests on, part 5 (packed by a program).
-/
import Derived.Test.YtifhejahbbnkiaaGreatD4
import Derived.Test.YtifhejahbbnkiaaGreatD3
import Derived.Test.YtifhejahbbnkiaaGreatD1
import Derived.Test.YtifhejahbbnkiaaGreatD2
import Derived.Deep.CutBlock
import Derived.Lib.AppendStr
namespace Go.Proofs.YtifhejahbbnkiaaGreat
open Go.RowKit
def XNumP (w:World) (p:Nat) (A:Option Addr) (c:Nat) (T:List (Bs×Nat)) (fin:Nat) (x:Xs) (r:Except Er (Nat×PS)) (e:Ending) (w':World):Prop :=
 ∃(n:Nat) (y:Xs),e=.returned (.int .i64 n)∧XdS w' p A c T fin y∧GoodX T y∧y.left=x.left∧x.i≤y.i∧Upd (·=p) w w'∧ResX x y r (fun v=>v=n)
def XIntP (w:World) (p:Nat) (A:Option Addr) (c:Nat) (T:List (Bs×Nat)) (fin:Nat) (x:Xs) (r:Except Er (Int×PS)) (e:Ending) (w':World):Prop :=
 ∃(n:Int) (y:Xs),e=.returned (.int .i64 n)∧XdS w' p A c T fin y∧GoodX T y∧y.left=x.left∧x.i≤y.i∧Upd (·=p) w w'∧ResX x y r (fun v=>v=n)
theorem bad_resX {α:Type} {T:List (Bs×Nat)} {fin:Nat} {x:Xs} {f:Bs→PS→Option (α×PS)} {P:α→Prop} (hf:∀s,tkF T x.i=some s→f s x.ps=none):ResX x ((nxY T fin x).fail 2 (offF T fin x.i)) (wrdF T fin f x.ps) P:=by
 by_cases h0:x.why=0
 ·by_cases q:x.i<T.length
  ·obtain ⟨t,ht⟩:=tk_some q;rw [wrd_bad (z:=x.ps) ht (hf t ht),(nx_some (fin:=fin) h0 ht).2.1];exact ResX.err (fun _=>h0) (fun q=>absurd h0 q)
  ·rw [wrd_none (z:=x.ps) (tk_none q),(nx_none (fin:=fin) (fun r=>q r.2)).2,xfail_why (xfail_ne _ (by decide))];exact ResX.err (fun _=>h0) (fun q=>absurd h0 q)
 ·rw [(nx_none (fin:=fin) (fun r=>h0 r.1)).2,xfail_why h0,xfail_why h0];exact ⟨fun q=>absurd q h0,fun _=>⟨rfl,rfl⟩⟩
set_option maxRecDepth 100000 in
set_option maxHeartbeats 2000000 in
theorem xNumber_c {T:List (Bs×Nat)} {fin:Nat} (hT:XOk T) {w:World} {p:Nat} {A:Option Addr} {c:Nat} {x:Xs} (h:XdS w p A c T fin x) (hx:GoodX T x) :
  Calls Tryz.prog 178 #[.pointer (some ⟨p,0,none⟩)] w (XIntP w p A c T fin x (numbF T fin x.ps)):=by
 have hTl:=hT.len;have hxi:=hx.1;have CO:=h_ (xOffset_c h);have CN:=h_ (fun W (u:Upd Non w W)=>xNext_c (h.non u) (by omega));have HX:=h_ hx;have HNG:=h_ (nxY_good (fin:=fin) hx)
 have hsl:(nxS T x).length≤20000:=by
  by_cases q:x.why=0∧x.i<T.length
  ·obtain ⟨s,hs⟩:=tk_some q.2;rw [(nx_some (fin:=fin) q.1 hs).1];exact (hT.tk hs).2
  ·rw [(nx_none (fin:=fin) q).1];simp
 have HTK:Hid (nxS T x≠[]→x.why=0∧tkF T x.i=some (nxS T x)∧nxY T fin x={ x with i:=x.i+1 }∧x.i<T.length):=fun hne=>by
  by_cases q:x.why=0∧x.i<T.length
  ·obtain ⟨t,ht⟩:=tk_some q.2;obtain ⟨e1,e2,e3⟩:=nx_some (fin:=fin) q.1 ht;rw [e1];exact ⟨q.1,ht,e2,e3⟩
  ·exact absurd (nx_none (fin:=fin) q).1 hne
 have HTS:Hid (∀t,x.why=0→tkF T x.i=some t→t=nxS T x):=fun t h0 ht=>(nx_some (fin:=fin) h0 ht).1.symm
 obtain ⟨off,Hoff⟩:=nm (offF T fin x.i);obtain ⟨s,Hs⟩:=nm (nxS T x);obtain ⟨y1,Hy1⟩:=nm (nxY T fin x);rw [Hs.out] at hsl CN HTK HTS;rw [Hy1.out] at CN HNG HTK;rw [Hoff.out] at CO;have CP:=h_ (fun W=>r1Parse_c s W (by omega));obtain ⟨qs,Hqs⟩:=nm (kstr s);rw [Hqs.out] at CN CP
 have HRB:Hid (decF s=none→ResX x (y1.fail 2 off) (numbF T fin x.ps) (fun v=>v=0)):=fun hd=>by
  by_cases h0:x.why=0
  ·have:=bad_resX (fin:=fin) (x:=x) (f:=fun s x=>(decF s).map fun n=>(n,x)) (P:=fun v=>v=0) (fun t ht=>by rw [HTS.out t h0 ht,hd];rfl);rw [Hy1.out,Hoff.out] at this;exact this
  ·have e:=(nx_none (T:=T) (fin:=fin) (x:=x) (fun r=>h0 r.1)).2;rw [Hy1.out] at e;rw [e,xfail_why h0,xfail_why h0];exact ⟨fun q=>absurd q h0,fun _=>⟨rfl,rfl⟩⟩
 have HRG:Hid (∀n,decF s=some n→ResX x y1 (numbF T fin x.ps) (fun v=>v=n)):=fun n hd=>by
  obtain ⟨k1,k2,k3,k4⟩:=HTK.out (fun q=>by rw [q] at hd;cases hd);unfold numbF;rw [wrd_good (z:=x.ps) k2 (dec_pn hd) (u:=x.ps) (a:=n) (by rw [hd];rfl),k3];exact ⟨fun _=>⟨k1,rfl,rfl⟩,fun q=>absurd k1 q⟩
 obtain ⟨r,Hr⟩:=nm (numbF T fin x.ps);rw [Hr.out] at HRB HRG ⊢;clear h hx hT HTK HTS
 cases hd:decF s with
 | none =>
  rw [hd] at CP;simp only [Option.getD_none,Option.isSome_none] at CP;have HR:=h_ (HRB.out hd);clear HRB HRG hd;go_enter Tryz.func178,Tryz.ntmps178;go_wp2_with fail
  refine CO.out.mono ?_;rintro e w2 ⟨rfl,u2⟩;have CN2:=h_ (CN.out _ u2);go_wp2_with fail
  refine CN2.out.mono ?_;rintro e w3 ⟨rfl,h3,u3⟩;have H3:=h_ h3;have U3:Hid (Upd (·=p) w w3):=(upd_eq u2).trans u3 (fun _ _ e=>e);clear CO CN CN2 h3 u2 u3;go_wp2_with fail
  refine (CP.out _).mono ?_;rintro e w4 ⟨rfl,rfl⟩;have CF:=h_ (xFail_c H3.out 2 off);go_wp2_with fail
  refine CF.out.mono ?_;rintro e w9 ⟨rfl,h9,u9⟩;go_wp2_with fail
  go_ret;exact ⟨0,y1.fail 2 off,rfl,h9,HNG.out.1.fail _ _,by rw [xfail_left];exact HNG.out.2.2.1,by rw [xfail_i];exact HNG.out.2.1,U3.out.trans u9 (fun _ _ e=>e),HR.out⟩
 | some n =>
  rw [hd] at CP;simp only [Option.getD_some,Option.isSome_some] at CP;have HR:=h_ (HRG.out n hd);clear HRB HRG hd;go_enter Tryz.func178,Tryz.ntmps178;go_wp2_with fail
  refine CO.out.mono ?_;rintro e w2 ⟨rfl,u2⟩;have CN2:=h_ (CN.out _ u2);go_wp2_with fail
  refine CN2.out.mono ?_;rintro e w3 ⟨rfl,h3,u3⟩;have H3:=h_ h3;have U3:Hid (Upd (·=p) w w3):=(upd_eq u2).trans u3 (fun _ _ e=>e);clear CO CN CN2 h3 u2 u3;go_wp2_with fail
  refine (CP.out _).mono ?_;rintro e w4 ⟨rfl,rfl⟩;go_wp2_with fail
  go_ret;exact ⟨n,y1,rfl,H3.out,HNG.out.1,HNG.out.2.2.1,HNG.out.2.1,U3.out,HR.out⟩
theorem lookF_false (l:Bs) (b:UInt8):(lookF l b false).2=l:=by
 unfold lookF
 split <;> rfl
set_option maxRecDepth 100000 in
set_option maxHeartbeats 2000000 in
theorem xImmVar_c {T:List (Bs×Nat)} {fin:Nat} (hT:XOk T) {w:World} {p:Nat} {A:Option Addr} {c:Nat} {x:Xs} (h:XdS w p A c T fin x) (hx:GoodX T x) (hl:x.left=false) :
  Calls Tryz.prog 179 #[.pointer (some ⟨p,0,none⟩)] w (XNumP w p A c T fin x (ivarF T fin x.ps)):=by
 have hTl:=hT.len;have hxi:=hx.1;have CO:=h_ (xOffset_c h);have CN:=h_ (fun W (u:Upd Non w W)=>xNext_c (h.non u) (by omega));have HX:=h_ hx;have HNG:=h_ (nxY_good (fin:=fin) hx)
 have hsl:(nxS T x).length≤20000:=by
  by_cases q:x.why=0∧x.i<T.length
  ·obtain ⟨s,hs⟩:=tk_some q.2;rw [(nx_some (fin:=fin) q.1 hs).1];exact (hT.tk hs).2
  ·rw [(nx_none (fin:=fin) q).1];simp
 have HTK:Hid (nxS T x≠[]→x.why=0∧tkF T x.i=some (nxS T x)∧nxY T fin x={ x with i:=x.i+1 }∧x.i<T.length):=fun hne=>by
  by_cases q:x.why=0∧x.i<T.length
  ·obtain ⟨t,ht⟩:=tk_some q.2;obtain ⟨e1,e2,e3⟩:=nx_some (fin:=fin) q.1 ht;rw [e1];exact ⟨q.1,ht,e2,e3⟩
  ·exact absurd (nx_none (fin:=fin) q).1 hne
 have HTS:Hid (∀t,x.why=0→tkF T x.i=some t→t=nxS T x):=fun t h0 ht=>(nx_some (fin:=fin) h0 ht).1.symm
 obtain ⟨off,Hoff⟩:=nm (offF T fin x.i);obtain ⟨s,Hs⟩:=nm (nxS T x);obtain ⟨y1,Hy1⟩:=nm (nxY T fin x);rw [Hs.out] at hsl CN HTK HTS;rw [Hy1.out] at CN HNG HTK;rw [Hoff.out] at CO;have CL:=h_ (fun W=>xIsLetter_c (kstr s) W);rw [kx_kstr] at CL;obtain ⟨qs,Hqs⟩:=nm (kstr s);rw [Hqs.out] at CN CL
 have HRB:Hid (isLt s=false→ResX x (y1.fail 2 off) (ivarF T fin x.ps) (fun v=>v=0)):=fun hd=>by
  by_cases h0:x.why=0
  ·have:=bad_resX (fin:=fin) (x:=x) (f:=fun s x=>match s with
     | [c]=>if isLw c=true∧0<(lookF x.ms c false).1 then some ((lookF x.ms c false).1,x) else none
     | _=>none) (P:=fun v=>v=0) (fun t ht=>by
    rw [HTS.out t h0 ht]
    match s,hd with
    | [],_=>rfl
    | [c],hd=>exact if_neg (fun q=>by rw [show isLt [c]=isLw c from rfl,q.1] at hd;cases hd)
    | _::_::_,_=>rfl)
   rw [Hy1.out,Hoff.out] at this;exact this
  ·have e:=(nx_none (T:=T) (fin:=fin) (x:=x) (fun r=>h0 r.1)).2;rw [Hy1.out] at e;rw [e,xfail_why h0,xfail_why h0];exact ⟨fun q=>absurd q h0,fun _=>⟨rfl,rfl⟩⟩
 have HRG:Hid (∀b,s=[b]→isLw b=true→ResX x (xvY y1 off (fun v=>{ y1 with ms:=v }) (lookF y1.ms b y1.left)) (ivarF T fin x.ps) (fun v=>v=(lookF y1.ms b y1.left).1)∧GoodX T (xvY y1 off (fun v=>{ y1 with ms:=v }) (lookF y1.ms b y1.left))∧(xvY y1 off (fun v=>{ y1 with ms:=v }) (lookF y1.ms b y1.left)).left=x.left∧x.i≤(xvY y1 off (fun v=>{ y1 with ms:=v }) (lookF y1.ms b y1.left)).i):=fun b hb hlw=>by
  obtain ⟨k1,k2,k3,k4⟩:=HTK.out (by rw [hb];simp);have hyl:y1.left=false:=HNG.out.2.2.1.trans hl;have hym:y1.ms=x.ms:=HNG.out.2.2.2.2
  have hpn:isPn ([b].headD 0)=false:=by
   simp only [isLw,decide_eq_true_eq] at hlw;show isPn b=false;simp only [isPn,decide_eq_false_iff_not];omega
  obtain ⟨K,HK⟩:=nm (lookF y1.ms b y1.left);have hK:K.2=y1.ms:=by rw [←HK.out,hyl];exact lookF_false _ _
  have hKx:lookF x.ms b false=K:=by rw [←HK.out,hyl,hym]
  rw [HK.out];unfold xvY;by_cases hk:K.1=0
  ·rw [if_pos hk];refine ⟨?_,HNG.out.1.fail _ _,by rw [xfail_left];exact HNG.out.2.2.1,by rw [xfail_i];exact HNG.out.2.1⟩;unfold ivarF;rw [wrd_bad (z:=x.ps) k2 (by rw [hb];exact if_neg (fun q=>by have:=q.2;rw [show x.ps.ms=x.ms from rfl,hKx] at this;omega)),k3,←Hoff.out];exact ResX.err (fun _=>k1) (fun q=>absurd k1 q)
  ·rw [if_neg hk,hK];refine ⟨?_,HNG.out.1,HNG.out.2.2.1,HNG.out.2.1⟩;unfold ivarF;have ha:(if isLw b=true∧0<(lookF x.ms b false).1 then some ((lookF x.ms b false).1,x.ps) else none)=some (K.1,x.ps):=by rw [hKx,if_pos ⟨hlw,by omega⟩]
   rw [wrd_good (z:=x.ps) k2 (by rw [hb];exact hpn) (u:=x.ps) (a:=K.1) (by rw [hb];exact ha)];show ResX x y1 _ _;rw [k3];exact ⟨fun _=>⟨k1,rfl,rfl⟩,fun q=>absurd k1 q⟩
 obtain ⟨r,Hr⟩:=nm (ivarF T fin x.ps);rw [Hr.out] at HRB HRG ⊢
 cases hlt:isLt s with
 | false =>
  rw [hlt] at CL;have HR:=h_ (HRB.out hlt);clear HRB HRG hlt h hx hT HTK HTS;go_enter Tryz.func179,Tryz.ntmps179;go_wp2_with fail
  refine CO.out.mono ?_;rintro e w2 ⟨rfl,u2⟩;have CN2:=h_ (CN.out _ u2);go_wp2_with fail
  refine CN2.out.mono ?_;rintro e w3 ⟨rfl,h3,u3⟩;have H3:=h_ h3;have U3:Hid (Upd (·=p) w w3):=(upd_eq u2).trans u3 (fun _ _ e=>e);clear CO CN CN2 h3 u2 u3;go_wp2_with fail
  refine (CL.out _).mono ?_;rintro e w4 ⟨rfl,rfl⟩;have CF:=h_ (xFail_c H3.out 2 off);go_wp2_with fail
  refine CF.out.mono ?_;rintro e w9 ⟨rfl,h9,u9⟩;go_wp2_with fail
  go_ret;exact ⟨0,y1.fail 2 off,rfl,h9,HNG.out.1.fail _ _,by rw [xfail_left];exact HNG.out.2.2.1,by rw [xfail_i];exact HNG.out.2.1,U3.out.trans u9 (fun _ _ e=>e),HR.out⟩
 | true =>
  rw [hlt] at CL;obtain ⟨b,rfl,hlw⟩:=isLt_some hlt;have HRS:=h_ (HRG.out b rfl hlw);clear HRB HRG hlt h hx hT HTK HTS;go_enter Tryz.func179,Tryz.ntmps179;go_wp2_with fail
  refine CO.out.mono ?_;rintro e w2 ⟨rfl,u2⟩;have CN2:=h_ (CN.out _ u2);go_wp2_with fail
  refine CN2.out.mono ?_;rintro e w3 ⟨rfl,h3,u3⟩;have H3:=h_ h3;have U3:Hid (Upd (·=p) w w3):=(upd_eq u2).trans u3 (fun _ _ e=>e);clear CO CN CN2 h3 u2 u3;go_wp2_with fail
  refine (CL.out _).mono ?_;rintro e w4 ⟨rfl,rfl⟩;have CK:=h_ (xVariable_g H3.out 6 y1.ms (fun v=>{ y1 with ms:=v }) rfl (fun v=>rfl) (by have h5:=HNG.out.1.2.2;have h6:=HNG.out.1.1;omega) b off)
  rw [Hqs.out] at CK;go_wp2_with fail
  refine CK.out.mono ?_;rintro e w7 ⟨rfl,h7,u7⟩;go_wp2_with fail
  go_ret;exact ⟨_,_,rfl,h7,HRS.out.2.1,HRS.out.2.2.1,HRS.out.2.2.2,U3.out.trans u7 (fun _ _ e=>e),HRS.out.1⟩
set_option maxRecDepth 100000 in
set_option maxHeartbeats 2000000 in
theorem xPatternVar_c {T:List (Bs×Nat)} {fin:Nat} (hT:XOk T) {w:World} {p:Nat} {A:Option Addr} {c:Nat} {x:Xs} (h:XdS w p A c T fin x) (hx:GoodX T x) (hl:x.left=false) :
  Calls Tryz.prog 177 #[.pointer (some ⟨p,0,none⟩)] w (XNumP w p A c T fin x (pvarF T fin x.ps)):=by
 have hTl:=hT.len;have hxi:=hx.1;have CO:=h_ (xOffset_c h);have CN:=h_ (fun W (u:Upd Non w W)=>xNext_c (h.non u) (by omega));have HX:=h_ hx;have HNG:=h_ (nxY_good (fin:=fin) hx)
 have hsl:(nxS T x).length≤20000:=by
  by_cases q:x.why=0∧x.i<T.length
  ·obtain ⟨s,hs⟩:=tk_some q.2;rw [(nx_some (fin:=fin) q.1 hs).1];exact (hT.tk hs).2
  ·rw [(nx_none (fin:=fin) q).1];simp
 have HTK:Hid (nxS T x≠[]→x.why=0∧tkF T x.i=some (nxS T x)∧nxY T fin x={ x with i:=x.i+1 }∧x.i<T.length):=fun hne=>by
  by_cases q:x.why=0∧x.i<T.length
  ·obtain ⟨t,ht⟩:=tk_some q.2;obtain ⟨e1,e2,e3⟩:=nx_some (fin:=fin) q.1 ht;rw [e1];exact ⟨q.1,ht,e2,e3⟩
  ·exact absurd (nx_none (fin:=fin) q).1 hne
 have HTS:Hid (∀t,x.why=0→tkF T x.i=some t→t=nxS T x):=fun t h0 ht=>(nx_some (fin:=fin) h0 ht).1.symm
 obtain ⟨off,Hoff⟩:=nm (offF T fin x.i);obtain ⟨s,Hs⟩:=nm (nxS T x);obtain ⟨y1,Hy1⟩:=nm (nxY T fin x);rw [Hs.out] at hsl CN HTK HTS;rw [Hy1.out] at CN HNG HTK;rw [Hoff.out] at CO;have hqz:(kstr s).size=s.length:=kstr_size s;obtain ⟨qs,Hqs⟩:=nm (kstr s);rw [Hqs.out] at CN hqz
 have HRB:Hid ((∀b,s=[63,b]→isLw b=true→False)→ResX x (y1.fail 2 off) (pvarF T fin x.ps) (fun v=>v=0)):=fun hd=>by
  by_cases h0:x.why=0
  ·have:=bad_resX (fin:=fin) (x:=x) (f:=fun s x=>if 0<(varF s 63 x.vs false).1 then some ((varF s 63 x.vs false).1,x) else none) (P:=fun v=>v=0) (fun t ht=>by
    rw [HTS.out t h0 ht];rw [varF_no (c:=63) (fun a b e hb q=>hd b (by rw [e,show a=63 from UInt8.toNat_inj.1 q]) hb)]
    exact if_neg (Nat.lt_irrefl 0))
   rw [Hy1.out,Hoff.out] at this;exact this
  ·have e:=(nx_none (T:=T) (fin:=fin) (x:=x) (fun r=>h0 r.1)).2;rw [Hy1.out] at e;rw [e,xfail_why h0,xfail_why h0];exact ⟨fun q=>absurd q h0,fun _=>⟨rfl,rfl⟩⟩
 have HRG:Hid (∀b,s=[63,b]→isLw b=true→ResX x (xvY y1 off (fun v=>{ y1 with vs:=v }) (lookF y1.vs b y1.left)) (pvarF T fin x.ps) (fun v=>v=(lookF y1.vs b y1.left).1)∧GoodX T (xvY y1 off (fun v=>{ y1 with vs:=v }) (lookF y1.vs b y1.left))∧(xvY y1 off (fun v=>{ y1 with vs:=v }) (lookF y1.vs b y1.left)).left=x.left∧x.i≤(xvY y1 off (fun v=>{ y1 with vs:=v }) (lookF y1.vs b y1.left)).i):=fun b hb hlw=>by
  obtain ⟨k1,k2,k3,k4⟩:=HTK.out (by rw [hb];simp);have hyl:y1.left=false:=HNG.out.2.2.1.trans hl;have hym:y1.vs=x.vs:=HNG.out.2.2.2.1
  have hvf:varF [63,b] 63 x.vs false=lookF x.vs b false:=by
   show (if (63:UInt8).toNat=63∧isLw b=true then lookF x.vs b false else (0,x.vs))=_;rw [if_pos ⟨rfl,hlw⟩]
  obtain ⟨K,HK⟩:=nm (lookF y1.vs b y1.left);have hK:K.2=y1.vs:=by rw [←HK.out,hyl];exact lookF_false _ _
  have hKx:lookF x.vs b false=K:=by rw [←HK.out,hyl,hym]
  rw [hKx] at hvf;rw [HK.out];unfold xvY;by_cases hk:K.1=0
  ·rw [if_pos hk];refine ⟨?_,HNG.out.1.fail _ _,by rw [xfail_left];exact HNG.out.2.2.1,by rw [xfail_i];exact HNG.out.2.1⟩;unfold pvarF;have ha:(if 0<(varF [63,b] 63 x.vs false).1 then some ((varF [63,b] 63 x.vs false).1,x.ps) else none)=none:=by rw [hvf,if_neg (by omega)]
   rw [wrd_bad (z:=x.ps) k2 (by rw [hb];exact ha),k3,←Hoff.out];exact ResX.err (fun _=>k1) (fun q=>absurd k1 q)
  ·rw [if_neg hk,hK];refine ⟨?_,HNG.out.1,HNG.out.2.2.1,HNG.out.2.1⟩;unfold pvarF;have ha:(if 0<(varF [63,b] 63 x.vs false).1 then some ((varF [63,b] 63 x.vs false).1,x.ps) else none)=some (K.1,x.ps):=by rw [hvf,if_pos (by omega)]
   rw [wrd_good (z:=x.ps) k2 (by rw [hb];rfl) (u:=x.ps) (a:=K.1) (by rw [hb];exact ha)];show ResX x y1 _ _;rw [k3];exact ⟨fun _=>⟨k1,rfl,rfl⟩,fun q=>absurd k1 q⟩
 obtain ⟨r,Hr⟩:=nm (pvarF T fin x.ps);rw [Hr.out] at HRB HRG ⊢;clear h hx hT HTK HTS;by_cases h2:s.length=2
 ·obtain ⟨a,b,rfl⟩:∃a b,s=[a,b]:=by
   match s,h2 with
   | [a,b],_=>exact ⟨a,b,rfl⟩
  have hsl1:∀W,(Instr.slice 9 (.string qs) (some (.int .i64 (1:Int))) none none).run Tryz.prog W=.ok (.string (kstr [b])) W:=fun W=>by
   have:=run_from_str (s:=[a,b]) (n:=2) (i:=1) rfl (by omega) W;rw [Hqs.out] at this;exact this
  have CL:=h_ (fun W=>xIsLetter_c (kstr [b]) W);rw [kx_kstr,show isLt [b]=isLw b from rfl] at CL;have hqz2:qs.size=2:=hqz;have i0:=fun W=>run_at_str hqz2 (show 0<2 by omega) W
  rw [←Hqs.out,kx_kstr,show ([a,b]:Bs).getD 0 0=a from rfl,show ((0:Nat):Int)=0 from rfl,Hqs.out] at i0;obtain ⟨qb,Hqb⟩:=nm (kstr [b]);rw [Hqb.out] at hsl1 CL;obtain ⟨lw,Hlw⟩:=nm (isLw b);rw [Hlw.out] at CL;clear h2 hqz;by_cases h63:a.toNat=63
  ·obtain rfl:a=63:=UInt8.toNat_inj.1 h63;have f63:((((63:UInt8).toNat:Nat):Int) != 63)=false:=rfl
   cases lw with
   | false =>
    have HR:=h_ (HRB.out (fun b' e hb=>by injection e with _ e;injection e with e _;subst e;rw [Hlw.out] at hb;cases hb));clear HRB HRG h63;go_enter Tryz.func177,Tryz.ntmps177;go_wp2_with fail
    refine CO.out.mono ?_;rintro e w2 ⟨rfl,u2⟩;have CN2:=h_ (CN.out _ u2);go_wp2_with fail
    refine CN2.out.mono ?_;rintro e w3 ⟨rfl,h3,u3⟩;have H3:=h_ h3;have U3:Hid (Upd (·=p) w w3):=(upd_eq u2).trans u3 (fun _ _ e=>e);clear CO CN CN2 h3 u2 u3;go_wp2_with fail
    refine (CL.out _).mono ?_;rintro e w4 ⟨rfl,rfl⟩;have CF:=h_ (xFail_c H3.out 2 off);go_wp2_with fail
    refine CF.out.mono ?_;rintro e w9 ⟨rfl,h9,u9⟩;go_wp2_with fail
    go_ret;exact ⟨0,y1.fail 2 off,rfl,h9,HNG.out.1.fail _ _,by rw [xfail_left];exact HNG.out.2.2.1,by rw [xfail_i];exact HNG.out.2.1,U3.out.trans u9 (fun _ _ e=>e),HR.out⟩
   | true =>
    have HRS:=h_ (HRG.out b rfl Hlw.out);clear HRB HRG h63;go_enter Tryz.func177,Tryz.ntmps177;go_wp2_with fail
    refine CO.out.mono ?_;rintro e w2 ⟨rfl,u2⟩;have CN2:=h_ (CN.out _ u2);go_wp2_with fail
    refine CN2.out.mono ?_;rintro e w3 ⟨rfl,h3,u3⟩;have H3:=h_ h3;have U3:Hid (Upd (·=p) w w3):=(upd_eq u2).trans u3 (fun _ _ e=>e);clear CO CN CN2 h3 u2 u3;go_wp2_with fail
    refine (CL.out _).mono ?_;rintro e w4 ⟨rfl,rfl⟩;clear CL
    go_upto_region 6 with fail
    obtain ⟨wD,HwD⟩:=nm w4.drew;have uD:Upd Non w4 wD:=by rw [←HwD.out];exact Upd.refl.drew
    have CK:=h_ (xVariable_g (H3.out.non uD) 5 y1.vs (fun v=>{ y1 with vs:=v }) rfl (fun v=>rfl) (by have h5:=HNG.out.1.2.1;have h6:=HNG.out.1.1;omega) b off)
    rw [Hqb.out] at CK;refine wp_region_held_drew (S:=fun _=>True) (by kernel_rfl) trivial (fun hHeld=>?_);rw [HwD.out];refine wpT 0 ?_;(try simp only [y_,z_]);refine wpT 1 ?_;(try simp only [y_,z_]);refine wpT 2 ?_;(try simp only [y_,z_]);refine wpT 3 ?_;(try simp only [y_,z_]);refine wpT 4 ?_;(try simp only [y_,z_]);refine wpT 5 ?_;(try simp only [y_,z_]);refine wpT 6 ?_;(try simp only [y_,z_]);refine aR_ (rs:=[7]) (by kernel_rfl) (by simp) ?_;refine aC_ rfl (fun K hK=>?_) aN_;go_simp;refine CK.out.mono ?_;rintro e w7 ⟨rfl,h7,u7⟩;go_wp2_with fail
    refine hK.out _ _ ?_ (fun hHeld=>?_)
    ·exact trivial
    clear hK K;(try simp only [y_,z_]);refine wpT 8 ?_;(try simp only [y_,z_]);refine aD_ (by kernel_rfl) ?_ _;go_wp2_with fail
    go_ret;exact ⟨_,_,rfl,h7,HRS.out.2.1,HRS.out.2.2.1,HRS.out.2.2.2,(U3.out.then_non uD).trans u7 (fun _ _ e=>e),HRS.out.1⟩
  ·have f63:(((a.toNat:Nat):Int) != 63)=true:=by simp;omega
   have HR:=h_ (HRB.out (fun b' e hb=>by injection e with e _;subst e;exact h63 rfl));clear HRB HRG h63;go_enter Tryz.func177,Tryz.ntmps177;go_wp2_with fail
   refine CO.out.mono ?_;rintro e w2 ⟨rfl,u2⟩;have CN2:=h_ (CN.out _ u2);go_wp2_with fail
   refine CN2.out.mono ?_;rintro e w3 ⟨rfl,h3,u3⟩;have H3:=h_ h3;have U3:Hid (Upd (·=p) w w3):=(upd_eq u2).trans u3 (fun _ _ e=>e);clear CO CN CN2 h3 u2 u3;have CF:=h_ (xFail_c H3.out 2 off);go_wp2_with fail
   refine CF.out.mono ?_;rintro e w9 ⟨rfl,h9,u9⟩;go_wp2_with fail
   go_ret;exact ⟨0,y1.fail 2 off,rfl,h9,HNG.out.1.fail _ _,by rw [xfail_left];exact HNG.out.2.2.1,by rw [xfail_i];exact HNG.out.2.1,U3.out.trans u9 (fun _ _ e=>e),HR.out⟩
 ·have fm:(((s.length:Nat):Int) != 2)=true:=by simp;omega
  obtain ⟨m,Hm⟩:=nm s.length;rw [Hm.out] at fm hqz;have HR:=h_ (HRB.out (fun b' e hb=>h2 (by rw [e];rfl)));clear HRB HRG h2;go_enter Tryz.func177,Tryz.ntmps177;go_wp2_with fail
  refine CO.out.mono ?_;rintro e w2 ⟨rfl,u2⟩;have CN2:=h_ (CN.out _ u2);go_wp2_with fail
  refine CN2.out.mono ?_;rintro e w3 ⟨rfl,h3,u3⟩;have H3:=h_ h3;have U3:Hid (Upd (·=p) w w3):=(upd_eq u2).trans u3 (fun _ _ e=>e);clear CO CN CN2 h3 u2 u3;have CF:=h_ (xFail_c H3.out 2 off);go_wp2_with fail
  refine CF.out.mono ?_;rintro e w9 ⟨rfl,h9,u9⟩;go_wp2_with fail
  go_ret;exact ⟨0,y1.fail 2 off,rfl,h9,HNG.out.1.fail _ _,by rw [xfail_left];exact HNG.out.2.2.1,by rw [xfail_i];exact HNG.out.2.1,U3.out.trans u9 (fun _ _ e=>e),HR.out⟩
end Go.Proofs.YtifhejahbbnkiaaGreat
namespace Go.Proofs.YtifhejahbbnkiaaGreat
open Go.RowKit
section
variable {m:Nat} {w0 w w':World} {p:Nat} {A:Option Addr} {c:Nat} {L:List Tok} {x y y':St}
end
def set4 (w:World) (g:Nat) (a b c d:Value):World:=(((w.setCell ⟨g,0,none⟩ a).setCell ⟨g,1,none⟩ b).setCell ⟨g,2,none⟩ c).setCell ⟨g,3,none⟩ d
theorem set4_blk {w:World} {g:Nat} {t:TypeId} {x0 x1 x2 x3:Value} (h:Blk w g t #[x0,x1,x2,x3]) (a b c d:Value):Blk (set4 w g a b c d) g t #[a,b,c,d]:=by
 have h1:=(((h.set_ 0 a).set_ 1 b).set_ 2 c).set_ 3 d;simpa [set4] using h1
theorem set4_upd (w:World) (g:Nat) (a b c d:Value):Upd (·=g) w (set4 w g a b c d) :=
 (((Upd.refl.setCell (S:=(·=g)) (p:=⟨g,0,none⟩) (.inl rfl) _).setCell (p:=⟨g,1,none⟩) (.inl rfl) _).setCell (p:=⟨g,2,none⟩) (.inl rfl) _).setCell (p:=⟨g,3,none⟩) (.inl rfl) _
theorem set4_eq (w:World) (g:Nat) (a b c d:Value):(((w.setCell ⟨g,0,none⟩ a).setCell ⟨g,1,none⟩ b).setCell ⟨g,2,none⟩ c).setCell ⟨g,3,none⟩ d=set4 w g a b c d:=rfl
section
variable {P P' S:Nat→Prop} {w0 w w':World} {p:Nat} {A:Option Addr} {c:Nat} {L:List Tok} {x y y':St}
end
end Go.Proofs.YtifhejahbbnkiaaGreat
namespace Go.Proofs.YtifhejahbbnkiaaGreat
open Go.RowKit
section
variable {w:World} {p:Nat} {A:Option Addr} {c:Nat} {L:List Tok} {x:St}
end
end Go.Proofs.YtifhejahbbnkiaaGreat
namespace Go.Proofs.YtifhejahbbnkiaaGreat
open Go.RowKit
def bindE {α β:Type} (r:Except Er α) (g:α→Except Er β):Except Er β:=match r with | .error e=>.error e | .ok v=>g v
section
variable {L:List Tok} {T:List (Bs×Nat)} {fin:Nat}
end
section
variable (T:List (Bs×Nat)) (fin:Nat)
def rg7 (s:Bs) (l r:Pt) (cs:List Cd) (x:PS):Except Er (Rl×PS):=bindE (expF T fin [59] x) fun u=>.ok (⟨⟨s.toArray⟩,l,r,cs,u.vs.length,u.ms.length⟩,u)
def rg6 (s:Bs) (l r:Pt) (x:PS):Except Er (Rl×PS):=bindE (ifF T fin (T.length+1) x) fun v=>rg7 T fin s l r v.1 v.2
def rg5 (s:Bs) (l:Pt) (x:PS):Except Er (Rl×PS):=bindE (termF T fin false (T.length+1) x) fun v=>rg6 T fin s l v.1 v.2
def rg4 (s:Bs) (l:Pt) (x:PS):Except Er (Rl×PS):=bindE (expF T fin [61,62] x) fun u=>rg5 T fin s l u
def rg3 (s:Bs) (x:PS):Except Er (Rl×PS):=bindE (termF T fin true (T.length+1) x) fun v=>rg4 T fin s v.1 v.2
def rg2 (s:Bs) (x:PS):Except Er (Rl×PS):=bindE (expF T fin [58] x) fun u=>rg3 T fin s u
end
end Go.Proofs.YtifhejahbbnkiaaGreat
namespace Go.Proofs.YtifhejahbbnkiaaGreat
open Go.RowKit
def ccell (c:Cd):List Value:=[.int .i64 c.kind,.int .i64 c.a,.int .i64 c.b,.int .i64 c.n]
def ccells (L:List Cd):List Value:=L.flatMap ccell
theorem ccells_snoc (L:List Cd) (c:Cd):ccells (L++[c])=ccells L++[.int .i64 c.kind,.int .i64 c.a,.int .i64 c.b,.int .i64 c.n]:=by simp [ccells,ccell]
theorem T_conds:SlT Tryz.prog 39 102 4 32:=by
 obtain ⟨i,h1,h2,h3,h4⟩:=info_parts (show (Tryz.prog.info? 102).map (fun i=>(i.zero,i.size,i.bytes))=some (some (.agg #[.int .i64 0,.int .i64 0,.int .i64 0,.int .i64 0]),4,32) from by kernel_rfl)
 exact ⟨Tryz.underlying39,⟨i,_,h1,h2,h3,h4,rfl⟩,by omega⟩
theorem ccells_get:∀(L:List Cd) (i:Nat) (h:i<L.length),(ccells L)[i * 4]?=some (.int .i64 L[i].kind)∧(ccells L)[i * 4+1]?=some (.int .i64 L[i].a)∧(ccells L)[i * 4+2]?=some (.int .i64 L[i].b)∧(ccells L)[i * 4+3]?=some (.int .i64 L[i].n)
 | c::L,0,_=>⟨rfl,rfl,rfl,rfl⟩
 | c::L,i+1,h=>by
  have:=ccells_get L i (by simpa using h);rw [show (i+1) * 4=i * 4+1+1+1+1 by omega];exact this
def CdO (w:World) (A:Option Addr) (c:Nat) (L:List Cd):Prop:=Own w 102 4 A L.length c (ccells L)
section
variable {w w':World} {A:Option Addr} {c:Nat} {L:List Cd} {S:Nat→Prop}
theorem CdO.none_:CdO w none 0 []:=Own.none_
theorem CdO.upd (h:CdO w A c L) (u:Upd S w w') (d:∀k,At A k→¬S k):CdO w' A c L:=Own.upd h u d
theorem CdO.lt (h:CdO w A c L) {k:Nat} (hk:At A k):k<w.heap.size:=Own.lt h hk
theorem CdO.le (h:CdO w A c L):L.length≤c:=Own.le h
theorem CdO.view (h:CdO w A c L):CondsV w (At A) A L:=by
 rcases Own.cases h with ⟨_,h0,_,_⟩ | ⟨g,cur,rfl,hb,_,_,_,ht⟩
 ·exact .inl (List.eq_nil_of_length_eq_zero h0)
 ·refine .inr ⟨g,0,rfl,At.some_.2 rfl,fun i hi=>?_⟩
  have hcell:∀j u,(ccells L)[j]?=some u→w.cell? ⟨g,j,none⟩=some u:=by
   intro j u hj;rw [hb.cell];rw [←ht,List.getElem?_take] at hj
   split at hj
   ·simpa using hj
   ·cases hj
  obtain ⟨c0,c1,c2,c3⟩:=ccells_get L i hi;rw [Nat.zero_add];exact ⟨hcell _ _ c0,hcell _ _ c1,hcell _ _ c2,hcell _ _ c3⟩
end
theorem CdO.of {w:World} {A:Option Addr} {n c:Nat} {L:List Cd} {cd:Cd} (hn:n=L.length+1) (h:Own w 102 4 A n c (ccells L++[.int .i64 cd.kind,.int .i64 cd.a,.int .i64 cd.b,.int .i64 cd.n])):CdO w A c (L++[cd]):=by
 unfold CdO;rw [ccells_snoc,List.length_append,List.length_singleton,←hn];exact h
section
variable {T:List (Bs×Nat)} {fin:Nat}
theorem pcondF_err {x:PS} {e:Er} (h:pcondF T fin x=.error e):e.1≠0:=by
 unfold pcondF at h
 split at h
 ·rename_i e' he;injection h with h;subst h;exact wrdF_err he
 ·split at h
  ·rename_i e' he;injection h with h;subst h
   split at he
   ·exact wrdF_err he
   ·exact wrdF_err he
  ·split at h
   ·cases h
   ·split at h
    ·split at h
     ·rename_i e' he;injection h with h;subst h;exact wrdF_err he
     ·cases h
    ·split at h
     ·split at h
      ·rename_i e' he;injection h with h;subst h;exact wrdF_err he
      ·cases h
     ·split at h
      ·rename_i e' he;injection h with h;subst h;exact wrdF_err he
      ·cases h
theorem condsF_err:∀(f:Nat) (x:PS) {e:Er},condsF T fin f x=.error e→e.1≠0
 | 0,x,e,h=>by unfold condsF at h;cases h
 | f+1,x,e,h=>by
  unfold condsF at h
  split at h
  ·split at h
   ·rename_i e' he;injection h with h;subst h;exact pcondF_err he
   ·split at h
    ·rename_i e' he;injection h with h;subst h;exact condsF_err f _ he
    ·cases h
  ·cases h
theorem ifF_err {f:Nat} {x:PS} {e:Er} (h:ifF T fin f x=.error e):e.1≠0:=by
 unfold ifF at h
 split at h
 ·split at h
  ·rename_i e' he;injection h with h;subst h;exact pcondF_err he
  ·split at h
   ·rename_i e' he;injection h with h;subst h;exact condsF_err f _ he
   ·cases h
 ·cases h
theorem condsF_succ (f:Nat) (x:PS):condsF T fin (f+1) x=if tkF T x.i=some [44] then (match pcondF T fin { x with i:=x.i+1 } with
   | .error e=>.error e
   | .ok (c,y)=>match condsF T fin f y with
    | .error e=>.error e
    | .ok (l,z)=>.ok (c::l,z)) else .ok ([],x):=rfl
end
theorem ResX.bind {α β:Type} {x y z:Xs} {r1:Except Er (α×PS)} {a:α} {g:α→PS→Except Er (β×PS)} {Q:β→Prop} (h1:ResX x y r1 (fun v=>v=a)) (hne:∀e,r1=.error e→e.1≠0) (h2:ResX y z (g a y.ps) Q):ResX x z (bindE r1 fun v=>g v.1 v.2) Q:=by
 refine ⟨fun h0=>?_,fun h0=>?_⟩
 ·have h3:=h1.1 h0
  cases r1 with
  | error e =>
   have hy:y.why≠0:=by rw [h3.1];exact hne e rfl
   have h4:=h2.2 hy;exact ⟨h4.1.trans h3.1,h4.2.trans h3.2⟩
  | ok v =>
   obtain ⟨v,ps⟩:=v;obtain ⟨hy,rfl,rfl⟩:=h3;exact h2.1 hy
 ·have h3:=h1.2 h0;have h4:=h2.2 (by rw [h3.1];exact h0);exact ⟨h4.1.trans h3.1,h4.2.trans h3.2⟩
theorem ResX.pure {α:Type} {x:Xs} {v:α} {P:α→Prop} (h:P v):ResX x x (.ok (v,x.ps)) P:=⟨fun h0=>⟨h0,rfl,h⟩,fun _=>⟨rfl,rfl⟩⟩
section
variable (T:List (Bs×Nat)) (fin:Nat)
def pk2 (k a:Nat) (z:PS):Except Er (Cd×PS) :=
 if k=1 then .ok (⟨1,a,0,0⟩,z)
 else if k=2∨k=3 then bindE (numbF T fin z) fun v=>.ok (⟨k,a,0,v.1⟩,v.2)
 else if k=4 then bindE (pvarF T fin z) fun v=>.ok (⟨4,a,v.1,0⟩,v.2)
 else bindE (ivarF T fin z) fun v=>.ok (⟨k,a,v.1,0⟩,v.2)
def pk1 (k:Nat) (y:PS):Except Er (Cd×PS):=bindE (if k=6 then ivarF T fin y else pvarF T fin y) fun v=>pk2 T fin k v.1 v.2
theorem pcond_pk (x:PS):pcondF T fin x=bindE (kindF T fin x) fun v=>pk1 T fin v.1 v.2:=by
 unfold pcondF bindE
 cases kindF T fin x with
 | error e=>rfl
 | ok v =>
  obtain ⟨k,y⟩:=v;dsimp only;unfold pk1 bindE
  cases (if k=6 then ivarF T fin y else pvarF T fin y) with
  | error e=>rfl
  | ok v =>
   obtain ⟨a,z⟩:=v;dsimp only;unfold pk2 bindE
   split
   ·rfl
   ·split
    ·cases numbF T fin z <;> rfl
    ·split
     ·cases pvarF T fin z <;> rfl
     ·cases ivarF T fin z <;> rfl
end
def XCondP (w:World) (p:Nat) (A:Option Addr) (c:Nat) (T:List (Bs×Nat)) (fin:Nat) (x:Xs) (r:Except Er (Cd×PS)) (e:Ending) (w':World):Prop :=
 ∃(cd:Cd) (y:Xs),e=.returned (.agg #[.int .i64 cd.kind,.int .i64 cd.a,.int .i64 cd.b,.int .i64 cd.n])∧XdS w' p A c T fin y∧GoodX T y∧y.left=x.left∧x.i≤y.i∧Upd (·=p) w w'∧ResX x y r (fun v=>v=cd)
set_option maxRecDepth 100000 in
set_option maxHeartbeats 4000000 in
theorem xCond_c {T:List (Bs×Nat)} {fin:Nat} (hT:XOk T) {w:World} {p:Nat} {A:Option Addr} {c:Nat} {x:Xs} (h:XdS w p A c T fin x) (hx:GoodX T x) (hl:x.left=false) :
  Calls Tryz.prog 126 #[.pointer (some ⟨p,0,none⟩)] w (XCondP w p A c T fin x (pcondF T fin x.ps)):=by
 have hTl:=hT.len;have hxi:=hx.1;obtain ⟨W1,HW1⟩:=nm (w.alloc (.cells #[.int .i64 0,.int .i64 0,.int .i64 0,.int .i64 0] 102));have u1:Upd Non w W1:=by rw [←HW1.out];exact Upd.refl.alloc _
 have b1:Blk W1 w.heap.size 102 #[.int .i64 0,.int .i64 0,.int .i64 0,.int .i64 0]:=by rw [←HW1.out];exact Blk.new _ _ _
 have e1:=HW1.out;have hpw:p<w.heap.size:=h.blk.lt;have CO:=h_ (xOffset_c (h.non u1));have CN:=h_ (fun W (u:Upd Non W1 W)=>xNext_c ((h.non u1).non u) (by omega));have HX:=h_ hx;have HB1:=h_ b1;have HU1:=h_ u1;have HNG:=h_ (nxY_good (fin:=fin) hx)
 have HTK:Hid (nxS T x≠[]→x.why=0∧tkF T x.i=some (nxS T x)∧nxY T fin x={ x with i:=x.i+1 }∧x.i<T.length):=fun hne=>by
  by_cases q:x.why=0∧x.i<T.length
  ·obtain ⟨t,ht⟩:=tk_some q.2;obtain ⟨e1,e2,e3⟩:=nx_some (fin:=fin) q.1 ht;rw [e1];exact ⟨q.1,ht,e2,e3⟩
  ·exact absurd (nx_none (fin:=fin) q).1 hne
 have HTS:Hid (∀t,x.why=0→tkF T x.i=some t→t=nxS T x):=fun t h0 ht=>(nx_some (fin:=fin) h0 ht).1.symm
 obtain ⟨off,Hoff⟩:=nm (offF T fin x.i);obtain ⟨s,Hs⟩:=nm (nxS T x);obtain ⟨y1,Hy1⟩:=nm (nxY T fin x);rw [Hs.out] at CN HTK HTS;rw [Hy1.out] at CN HNG HTK;rw [Hoff.out] at CO;have HL1:Hid (y1.left=false):=HNG.out.2.2.1.trans hl;have HG1:=h_ HNG.out.1;obtain ⟨qs,Hqs⟩:=nm (kstr s);rw [Hqs.out] at CN;have HXT:=h_ hT;clear u1 b1 HW1;by_cases h1:s=[110,111,110,122,101,114,111]
 ·subst h1;obtain ⟨k1,k2,k3,k4⟩:=HTK.out (by simp);have t1:(qs.toList==[110,111,110,122,101,114,111])=true:=by rw [←Hqs.out,xktl];rfl
  have HRK:Hid (ResX x y1 (kindF T fin x.ps) (fun v=>v=1)):=by
   show ResX _ _ _ _;unfold kindF;rw [wrd_good (z:=x.ps) k2 rfl (u:=x.ps) (a:=1) rfl,k3];exact ⟨fun _=>⟨k1,rfl,rfl⟩,fun q=>absurd k1 q⟩
  clear HTK HTS k1 k2 k3 k4;go_enter Tryz.func126,Tryz.ntmps126;go_wp2_with fail
  refine CO.out.mono ?_;rintro e w2 ⟨rfl,u2⟩;obtain ⟨W3,HW3⟩:=nm (w2.alloc (.cells #[.int .i64 0,.int .i64 0,.int .i64 0,.int .i64 0] 102));have u3:Upd Non w2 W3:=by rw [←HW3.out];exact Upd.refl.alloc _
  have b3:Blk W3 w2.heap.size 102 #[.int .i64 0,.int .i64 0,.int .i64 0,.int .i64 0]:=by rw [←HW3.out];exact Blk.new _ _ _
  have e3:=HW3.out;have hg2:w.heap.size<w2.heap.size:=by have:=HB1.out.lt;have:=u2.size;omega
  have CN3:=h_ (CN.out _ (u2.then_non u3));clear e1 HW3;go_wp2_with fail
  refine CN3.out.mono ?_;rintro e w4 ⟨rfl,h4,u4⟩;have H4:=h_ h4;have U4:Hid (Upd (·=p) w w4):=(upd_eq ((HU1.out.then_non u2).then_non u3)).trans u4 (fun _ _ e=>e);have HR4:=h_ (((HB1.out.upd u2 (fun f=>f)).upd u3 (fun f=>f)).upd u4 (by omega));have hc4:=b3.upd u4 (by omega);have z0:=hc4.cell 0;have zf:=hc4.frozen;have HC4:=h_ hc4;obtain ⟨g,Hgn⟩:=nm w2.heap.size;rw [Hgn.out] at hg2 z0 zf HC4 ⊢;clear CO CN CN3 h4 u2 u3 u4 b3 e3 hc4 HB1 HU1;obtain ⟨w5,Hw5⟩:=nm (w4.setCell ⟨g,0,none⟩ (.int .i64 1));have e5:=Hw5.out;have u5:Upd (·=g) w4 w5:=by rw [←e5];exact updCell _ _ _ _
  have hb5:Blk w5 g 102 #[.int .i64 1,.int .i64 0,.int .i64 0,.int .i64 0]:=by rw [←e5];simpa using HC4.out.set_ 0 (.int .i64 1)
  have H5:=h_ (H4.out.upd u5 (fun k _ e=>by omega));have HR5:=h_ (HR4.out.upd u5 (by omega));have U5:Hid (Upd (·=p) w w5):=U4.out.trans u5 (fun k hk e=>by omega);have HC5:=h_ hb5;clear u5 hb5;have CA:=h_ (xPatternVar_c HXT.out H5.out HG1.out HL1.out);go_wp2_with fail
  refine CA.out.mono ?_;rintro e w6 hw;obtain ⟨a,y2,ev,hd,hgd,hld,hid,ud,hrd⟩:=hw;subst ev;have H6:=h_ hd;have HG2:=h_ hgd;have HL2:Hid (y2.left=false):=hld.trans HL1.out;have HI2:=h_ hid;have HRS2:=h_ hrd;have HR6:=h_ (HR5.out.upd ud (by omega));have hc:=HC5.out.upd ud (by omega);have U6:Hid (Upd (·=p) w w6):=U5.out.trans ud (fun _ _ e=>e);have v1:=hc.cell 1;have vf:=hc.frozen 1;clear e5 CA hd hgd hld hid ud hrd z0 zf;obtain ⟨w7,Hw7⟩:=nm (w6.setCell ⟨g,1,none⟩ (.int .i64 (a:Nat)));have e7:=Hw7.out;have us:Upd (·=g) w6 w7:=by rw [←e7];exact updCell _ _ _ _
  have hb:Blk w7 g 102 #[.int .i64 1,.int .i64 (a:Nat),.int .i64 0,.int .i64 0]:=by rw [←e7];simpa using hc.set_ 1 (.int .i64 (a:Nat))
  have H7:=h_ (H6.out.upd us (fun k _ e=>by omega));have HR7:=h_ (HR6.out.upd us (by omega));have U7:Hid (Upd (·=p) w w7):=U6.out.trans us (fun k hk e=>by omega);have HC7:=h_ hb;clear us hb hc;have HCF:=HC7;have HRF:=HR7;obtain ⟨wF,HwF⟩:=nm w7;rw [HwF.out] at e7 HCF HRF;have g0:=HCF.out.cell 0;have g1:=HCF.out.cell 1;have g2:=HCF.out.cell 2;have g3:=HCF.out.cell 3;have r0:=HRF.out.cell 0;have r1:=HRF.out.cell 1;have r2:=HRF.out.cell 2;have r3:=HRF.out.cell 3;have rf:=HRF.out.frozen;go_wp2_with fail
  rw [set4_eq];refine bodyPost_ret (results_cell_row rfl _ _ w.heap.size 102 _ (0,0) _ rfl (set4_blk HRF.out _ _ _ _) Tryz.underlying102 rfl (by kernel_rfl)) rfl ?_;have us:=set4_upd wF w.heap.size;have hXF:=H7.out;have hUF:=U7.out;rw [HwF.out] at hXF hUF;refine ⟨⟨1,(a:Nat),0,0⟩,y2,rfl,hXF.upd (us _ _ _ _) (fun k _ e=>by omega),HG2.out,HL2.out.trans hl.symm,by have q1:=HNG.out.2.1;have q2:=HI2.out;omega,hUF.trans (us _ _ _ _) (fun k hk e=>by omega),?_⟩
  rw [pcond_pk];refine ResX.bind HRK.out (fun e he=>wrdF_err he) ?_;unfold pk1;rw [if_neg (by decide)];refine ResX.bind HRS2.out (fun e he=>wrdF_err he) ?_;unfold pk2;rw [if_pos rfl];exact ResX.pure rfl
 ·skip;by_cases h2:s=[108,101,97,115,116]
  ·subst h2;obtain ⟨k1,k2,k3,k4⟩:=HTK.out (by simp);have t1:(qs.toList==[110,111,110,122,101,114,111])=false:=by rw [←Hqs.out,xktl];rfl
   have t2:(qs.toList==[108,101,97,115,116])=true:=by rw [←Hqs.out,xktl];rfl
   have HRK:Hid (ResX x y1 (kindF T fin x.ps) (fun v=>v=2)):=by
    show ResX _ _ _ _;unfold kindF;rw [wrd_good (z:=x.ps) k2 rfl (u:=x.ps) (a:=2) rfl,k3];exact ⟨fun _=>⟨k1,rfl,rfl⟩,fun q=>absurd k1 q⟩
   clear HTK HTS k1 k2 k3 k4 h1;go_enter Tryz.func126,Tryz.ntmps126;go_wp2_with fail
   refine CO.out.mono ?_;rintro e w2 ⟨rfl,u2⟩;obtain ⟨W3,HW3⟩:=nm (w2.alloc (.cells #[.int .i64 0,.int .i64 0,.int .i64 0,.int .i64 0] 102));have u3:Upd Non w2 W3:=by rw [←HW3.out];exact Upd.refl.alloc _
   have b3:Blk W3 w2.heap.size 102 #[.int .i64 0,.int .i64 0,.int .i64 0,.int .i64 0]:=by rw [←HW3.out];exact Blk.new _ _ _
   have e3:=HW3.out;have hg2:w.heap.size<w2.heap.size:=by have:=HB1.out.lt;have:=u2.size;omega
   have CN3:=h_ (CN.out _ (u2.then_non u3));clear e1 HW3;go_wp2_with fail
   refine CN3.out.mono ?_;rintro e w4 ⟨rfl,h4,u4⟩;have H4:=h_ h4;have U4:Hid (Upd (·=p) w w4):=(upd_eq ((HU1.out.then_non u2).then_non u3)).trans u4 (fun _ _ e=>e);have HR4:=h_ (((HB1.out.upd u2 (fun f=>f)).upd u3 (fun f=>f)).upd u4 (by omega));have hc4:=b3.upd u4 (by omega);have z0:=hc4.cell 0;have zf:=hc4.frozen;have HC4:=h_ hc4;obtain ⟨g,Hgn⟩:=nm w2.heap.size;rw [Hgn.out] at hg2 z0 zf HC4 ⊢;clear CO CN CN3 h4 u2 u3 u4 b3 e3 hc4 HB1 HU1;obtain ⟨w5,Hw5⟩:=nm (w4.setCell ⟨g,0,none⟩ (.int .i64 2));have e5:=Hw5.out;have u5:Upd (·=g) w4 w5:=by rw [←e5];exact updCell _ _ _ _
   have hb5:Blk w5 g 102 #[.int .i64 2,.int .i64 0,.int .i64 0,.int .i64 0]:=by rw [←e5];simpa using HC4.out.set_ 0 (.int .i64 2)
   have H5:=h_ (H4.out.upd u5 (fun k _ e=>by omega));have HR5:=h_ (HR4.out.upd u5 (by omega));have U5:Hid (Upd (·=p) w w5):=U4.out.trans u5 (fun k hk e=>by omega);have HC5:=h_ hb5;clear u5 hb5;have CA:=h_ (xPatternVar_c HXT.out H5.out HG1.out HL1.out);go_wp2_with fail
   refine CA.out.mono ?_;rintro e w6 hw;obtain ⟨a,y2,ev,hd,hgd,hld,hid,ud,hrd⟩:=hw;subst ev;have H6:=h_ hd;have HG2:=h_ hgd;have HL2:Hid (y2.left=false):=hld.trans HL1.out;have HI2:=h_ hid;have HRS2:=h_ hrd;have HR6:=h_ (HR5.out.upd ud (by omega));have hc:=HC5.out.upd ud (by omega);have U6:Hid (Upd (·=p) w w6):=U5.out.trans ud (fun _ _ e=>e);have v1:=hc.cell 1;have vf:=hc.frozen 1;clear e5 CA hd hgd hld hid ud hrd z0 zf;obtain ⟨w7,Hw7⟩:=nm (w6.setCell ⟨g,1,none⟩ (.int .i64 (a:Nat)));have e7:=Hw7.out;have us:Upd (·=g) w6 w7:=by rw [←e7];exact updCell _ _ _ _
   have hb:Blk w7 g 102 #[.int .i64 2,.int .i64 (a:Nat),.int .i64 0,.int .i64 0]:=by rw [←e7];simpa using hc.set_ 1 (.int .i64 (a:Nat))
   have H7:=h_ (H6.out.upd us (fun k _ e=>by omega));have HR7:=h_ (HR6.out.upd us (by omega));have U7:Hid (Upd (·=p) w w7):=U6.out.trans us (fun k hk e=>by omega);have HC7:=h_ hb;clear us hb hc;have CA:=h_ (xNumber_c HXT.out H7.out HG2.out);go_wp2_with fail
   refine CA.out.mono ?_;rintro e w8 hw;obtain ⟨b,y3,ev,hd,hgd,hld,hid,ud,hrd⟩:=hw;subst ev;have H8:=h_ hd;have HG3:=h_ hgd;have HL3:Hid (y3.left=false):=hld.trans HL2.out;have HI3:=h_ hid;have HRS3:=h_ hrd;have HR8:=h_ (HR7.out.upd ud (by omega));have hc:=HC7.out.upd ud (by omega);have U8:Hid (Upd (·=p) w w8):=U7.out.trans ud (fun _ _ e=>e);have v3:=hc.cell 3;have vf:=hc.frozen 3;clear e7 CA hd hgd hld hid ud hrd;obtain ⟨w9,Hw9⟩:=nm (w8.setCell ⟨g,3,none⟩ (.int .i64 b));have e9:=Hw9.out;have us:Upd (·=g) w8 w9:=by rw [←e9];exact updCell _ _ _ _
   have hb:Blk w9 g 102 #[.int .i64 2,.int .i64 (a:Nat),.int .i64 0,.int .i64 b]:=by rw [←e9];simpa using hc.set_ 3 (.int .i64 b)
   have H9:=h_ (H8.out.upd us (fun k _ e=>by omega));have HR9:=h_ (HR8.out.upd us (by omega));have U9:Hid (Upd (·=p) w w9):=U8.out.trans us (fun k hk e=>by omega);have HC9:=h_ hb;clear us hb hc;have HCF:=HC9;have HRF:=HR9;obtain ⟨wF,HwF⟩:=nm w9;rw [HwF.out] at e9 HCF HRF;have g0:=HCF.out.cell 0;have g1:=HCF.out.cell 1;have g2:=HCF.out.cell 2;have g3:=HCF.out.cell 3;have r0:=HRF.out.cell 0;have r1:=HRF.out.cell 1;have r2:=HRF.out.cell 2;have r3:=HRF.out.cell 3;have rf:=HRF.out.frozen;go_wp2_with fail
   rw [set4_eq];refine bodyPost_ret (results_cell_row rfl _ _ w.heap.size 102 _ (0,0) _ rfl (set4_blk HRF.out _ _ _ _) Tryz.underlying102 rfl (by kernel_rfl)) rfl ?_;have us:=set4_upd wF w.heap.size;have hXF:=H9.out;have hUF:=U9.out;rw [HwF.out] at hXF hUF;refine ⟨⟨2,(a:Nat),0,b⟩,y3,rfl,hXF.upd (us _ _ _ _) (fun k _ e=>by omega),HG3.out,HL3.out.trans hl.symm,by have q1:=HNG.out.2.1;have q2:=HI2.out;have q3:=HI3.out;omega,hUF.trans (us _ _ _ _) (fun k hk e=>by omega),?_⟩
   rw [pcond_pk];refine ResX.bind HRK.out (fun e he=>wrdF_err he) ?_;unfold pk1;rw [if_neg (by decide)];refine ResX.bind HRS2.out (fun e he=>wrdF_err he) ?_;unfold pk2;rw [if_neg (by decide),if_pos (by decide)];refine ResX.bind (g:=fun v ps=>(Except.ok ((⟨((2:Nat):Int),(a:Nat),0,v⟩:Cd),ps):Except Er (Cd×PS))) HRS3.out (fun e he=>wrdF_err he) ?_
   exact ResX.pure rfl
  ·skip;by_cases h3:s=[109,111,115,116]
   ·subst h3;obtain ⟨k1,k2,k3,k4⟩:=HTK.out (by simp);have t1:(qs.toList==[110,111,110,122,101,114,111])=false:=by rw [←Hqs.out,xktl];rfl
    have t2:(qs.toList==[108,101,97,115,116])=false:=by rw [←Hqs.out,xktl];rfl
    have t3:(qs.toList==[109,111,115,116])=true:=by rw [←Hqs.out,xktl];rfl
    have HRK:Hid (ResX x y1 (kindF T fin x.ps) (fun v=>v=3)):=by
     show ResX _ _ _ _;unfold kindF;rw [wrd_good (z:=x.ps) k2 rfl (u:=x.ps) (a:=3) rfl,k3];exact ⟨fun _=>⟨k1,rfl,rfl⟩,fun q=>absurd k1 q⟩
    clear HTK HTS k1 k2 k3 k4 h1 h2;go_enter Tryz.func126,Tryz.ntmps126;go_wp2_with fail
    refine CO.out.mono ?_;rintro e w2 ⟨rfl,u2⟩;obtain ⟨W3,HW3⟩:=nm (w2.alloc (.cells #[.int .i64 0,.int .i64 0,.int .i64 0,.int .i64 0] 102));have u3:Upd Non w2 W3:=by rw [←HW3.out];exact Upd.refl.alloc _
    have b3:Blk W3 w2.heap.size 102 #[.int .i64 0,.int .i64 0,.int .i64 0,.int .i64 0]:=by rw [←HW3.out];exact Blk.new _ _ _
    have e3:=HW3.out;have hg2:w.heap.size<w2.heap.size:=by have:=HB1.out.lt;have:=u2.size;omega
    have CN3:=h_ (CN.out _ (u2.then_non u3));clear e1 HW3;go_wp2_with fail
    refine CN3.out.mono ?_;rintro e w4 ⟨rfl,h4,u4⟩;have H4:=h_ h4;have U4:Hid (Upd (·=p) w w4):=(upd_eq ((HU1.out.then_non u2).then_non u3)).trans u4 (fun _ _ e=>e);have HR4:=h_ (((HB1.out.upd u2 (fun f=>f)).upd u3 (fun f=>f)).upd u4 (by omega));have hc4:=b3.upd u4 (by omega);have z0:=hc4.cell 0;have zf:=hc4.frozen;have HC4:=h_ hc4;obtain ⟨g,Hgn⟩:=nm w2.heap.size;rw [Hgn.out] at hg2 z0 zf HC4 ⊢;clear CO CN CN3 h4 u2 u3 u4 b3 e3 hc4 HB1 HU1;obtain ⟨w5,Hw5⟩:=nm (w4.setCell ⟨g,0,none⟩ (.int .i64 3));have e5:=Hw5.out;have u5:Upd (·=g) w4 w5:=by rw [←e5];exact updCell _ _ _ _
    have hb5:Blk w5 g 102 #[.int .i64 3,.int .i64 0,.int .i64 0,.int .i64 0]:=by rw [←e5];simpa using HC4.out.set_ 0 (.int .i64 3)
    have H5:=h_ (H4.out.upd u5 (fun k _ e=>by omega));have HR5:=h_ (HR4.out.upd u5 (by omega));have U5:Hid (Upd (·=p) w w5):=U4.out.trans u5 (fun k hk e=>by omega);have HC5:=h_ hb5;clear u5 hb5;have CA:=h_ (xPatternVar_c HXT.out H5.out HG1.out HL1.out);go_wp2_with fail
    refine CA.out.mono ?_;rintro e w6 hw;obtain ⟨a,y2,ev,hd,hgd,hld,hid,ud,hrd⟩:=hw;subst ev;have H6:=h_ hd;have HG2:=h_ hgd;have HL2:Hid (y2.left=false):=hld.trans HL1.out;have HI2:=h_ hid;have HRS2:=h_ hrd;have HR6:=h_ (HR5.out.upd ud (by omega));have hc:=HC5.out.upd ud (by omega);have U6:Hid (Upd (·=p) w w6):=U5.out.trans ud (fun _ _ e=>e);have v1:=hc.cell 1;have vf:=hc.frozen 1;clear e5 CA hd hgd hld hid ud hrd z0 zf;obtain ⟨w7,Hw7⟩:=nm (w6.setCell ⟨g,1,none⟩ (.int .i64 (a:Nat)));have e7:=Hw7.out;have us:Upd (·=g) w6 w7:=by rw [←e7];exact updCell _ _ _ _
    have hb:Blk w7 g 102 #[.int .i64 3,.int .i64 (a:Nat),.int .i64 0,.int .i64 0]:=by rw [←e7];simpa using hc.set_ 1 (.int .i64 (a:Nat))
    have H7:=h_ (H6.out.upd us (fun k _ e=>by omega));have HR7:=h_ (HR6.out.upd us (by omega));have U7:Hid (Upd (·=p) w w7):=U6.out.trans us (fun k hk e=>by omega);have HC7:=h_ hb;clear us hb hc;have CA:=h_ (xNumber_c HXT.out H7.out HG2.out);go_wp2_with fail
    refine CA.out.mono ?_;rintro e w8 hw;obtain ⟨b,y3,ev,hd,hgd,hld,hid,ud,hrd⟩:=hw;subst ev;have H8:=h_ hd;have HG3:=h_ hgd;have HL3:Hid (y3.left=false):=hld.trans HL2.out;have HI3:=h_ hid;have HRS3:=h_ hrd;have HR8:=h_ (HR7.out.upd ud (by omega));have hc:=HC7.out.upd ud (by omega);have U8:Hid (Upd (·=p) w w8):=U7.out.trans ud (fun _ _ e=>e);have v3:=hc.cell 3;have vf:=hc.frozen 3;clear e7 CA hd hgd hld hid ud hrd;obtain ⟨w9,Hw9⟩:=nm (w8.setCell ⟨g,3,none⟩ (.int .i64 b));have e9:=Hw9.out;have us:Upd (·=g) w8 w9:=by rw [←e9];exact updCell _ _ _ _
    have hb:Blk w9 g 102 #[.int .i64 3,.int .i64 (a:Nat),.int .i64 0,.int .i64 b]:=by rw [←e9];simpa using hc.set_ 3 (.int .i64 b)
    have H9:=h_ (H8.out.upd us (fun k _ e=>by omega));have HR9:=h_ (HR8.out.upd us (by omega));have U9:Hid (Upd (·=p) w w9):=U8.out.trans us (fun k hk e=>by omega);have HC9:=h_ hb;clear us hb hc;have HCF:=HC9;have HRF:=HR9;obtain ⟨wF,HwF⟩:=nm w9;rw [HwF.out] at e9 HCF HRF;have g0:=HCF.out.cell 0;have g1:=HCF.out.cell 1;have g2:=HCF.out.cell 2;have g3:=HCF.out.cell 3;have r0:=HRF.out.cell 0;have r1:=HRF.out.cell 1;have r2:=HRF.out.cell 2;have r3:=HRF.out.cell 3;have rf:=HRF.out.frozen;go_wp2_with fail
    rw [set4_eq];refine bodyPost_ret (results_cell_row rfl _ _ w.heap.size 102 _ (0,0) _ rfl (set4_blk HRF.out _ _ _ _) Tryz.underlying102 rfl (by kernel_rfl)) rfl ?_;have us:=set4_upd wF w.heap.size;have hXF:=H9.out;have hUF:=U9.out;rw [HwF.out] at hXF hUF;refine ⟨⟨3,(a:Nat),0,b⟩,y3,rfl,hXF.upd (us _ _ _ _) (fun k _ e=>by omega),HG3.out,HL3.out.trans hl.symm,by have q1:=HNG.out.2.1;have q2:=HI2.out;have q3:=HI3.out;omega,hUF.trans (us _ _ _ _) (fun k hk e=>by omega),?_⟩
    rw [pcond_pk];refine ResX.bind HRK.out (fun e he=>wrdF_err he) ?_;unfold pk1;rw [if_neg (by decide)];refine ResX.bind HRS2.out (fun e he=>wrdF_err he) ?_;unfold pk2;rw [if_neg (by decide),if_pos (by decide)];refine ResX.bind (g:=fun v ps=>(Except.ok ((⟨((3:Nat):Int),(a:Nat),0,v⟩:Cd),ps):Except Er (Cd×PS))) HRS3.out (fun e he=>wrdF_err he) ?_
    exact ResX.pure rfl
   ·skip;by_cases h4:s=[97,112,97,114,116]
    ·subst h4;obtain ⟨k1,k2,k3,k4⟩:=HTK.out (by simp);have t1:(qs.toList==[110,111,110,122,101,114,111])=false:=by rw [←Hqs.out,xktl];rfl
     have t2:(qs.toList==[108,101,97,115,116])=false:=by rw [←Hqs.out,xktl];rfl
     have t3:(qs.toList==[109,111,115,116])=false:=by rw [←Hqs.out,xktl];rfl
     have t4:(qs.toList==[97,112,97,114,116])=true:=by rw [←Hqs.out,xktl];rfl
     have HRK:Hid (ResX x y1 (kindF T fin x.ps) (fun v=>v=4)):=by
      show ResX _ _ _ _;unfold kindF;rw [wrd_good (z:=x.ps) k2 rfl (u:=x.ps) (a:=4) rfl,k3];exact ⟨fun _=>⟨k1,rfl,rfl⟩,fun q=>absurd k1 q⟩
     clear HTK HTS k1 k2 k3 k4 h1 h2 h3;go_enter Tryz.func126,Tryz.ntmps126;go_wp2_with fail
     refine CO.out.mono ?_;rintro e w2 ⟨rfl,u2⟩;obtain ⟨W3,HW3⟩:=nm (w2.alloc (.cells #[.int .i64 0,.int .i64 0,.int .i64 0,.int .i64 0] 102));have u3:Upd Non w2 W3:=by rw [←HW3.out];exact Upd.refl.alloc _
     have b3:Blk W3 w2.heap.size 102 #[.int .i64 0,.int .i64 0,.int .i64 0,.int .i64 0]:=by rw [←HW3.out];exact Blk.new _ _ _
     have e3:=HW3.out;have hg2:w.heap.size<w2.heap.size:=by have:=HB1.out.lt;have:=u2.size;omega
     have CN3:=h_ (CN.out _ (u2.then_non u3));clear e1 HW3;go_wp2_with fail
     refine CN3.out.mono ?_;rintro e w4 ⟨rfl,h4,u4⟩;have H4:=h_ h4;have U4:Hid (Upd (·=p) w w4):=(upd_eq ((HU1.out.then_non u2).then_non u3)).trans u4 (fun _ _ e=>e);have HR4:=h_ (((HB1.out.upd u2 (fun f=>f)).upd u3 (fun f=>f)).upd u4 (by omega));have hc4:=b3.upd u4 (by omega);have z0:=hc4.cell 0;have zf:=hc4.frozen;have HC4:=h_ hc4;obtain ⟨g,Hgn⟩:=nm w2.heap.size;rw [Hgn.out] at hg2 z0 zf HC4 ⊢;clear CO CN CN3 h4 u2 u3 u4 b3 e3 hc4 HB1 HU1;obtain ⟨w5,Hw5⟩:=nm (w4.setCell ⟨g,0,none⟩ (.int .i64 4));have e5:=Hw5.out;have u5:Upd (·=g) w4 w5:=by rw [←e5];exact updCell _ _ _ _
     have hb5:Blk w5 g 102 #[.int .i64 4,.int .i64 0,.int .i64 0,.int .i64 0]:=by rw [←e5];simpa using HC4.out.set_ 0 (.int .i64 4)
     have H5:=h_ (H4.out.upd u5 (fun k _ e=>by omega));have HR5:=h_ (HR4.out.upd u5 (by omega));have U5:Hid (Upd (·=p) w w5):=U4.out.trans u5 (fun k hk e=>by omega);have HC5:=h_ hb5;clear u5 hb5;have CA:=h_ (xPatternVar_c HXT.out H5.out HG1.out HL1.out);go_wp2_with fail
     refine CA.out.mono ?_;rintro e w6 hw;obtain ⟨a,y2,ev,hd,hgd,hld,hid,ud,hrd⟩:=hw;subst ev;have H6:=h_ hd;have HG2:=h_ hgd;have HL2:Hid (y2.left=false):=hld.trans HL1.out;have HI2:=h_ hid;have HRS2:=h_ hrd;have HR6:=h_ (HR5.out.upd ud (by omega));have hc:=HC5.out.upd ud (by omega);have U6:Hid (Upd (·=p) w w6):=U5.out.trans ud (fun _ _ e=>e);have v1:=hc.cell 1;have vf:=hc.frozen 1;clear e5 CA hd hgd hld hid ud hrd z0 zf;obtain ⟨w7,Hw7⟩:=nm (w6.setCell ⟨g,1,none⟩ (.int .i64 (a:Nat)));have e7:=Hw7.out;have us:Upd (·=g) w6 w7:=by rw [←e7];exact updCell _ _ _ _
     have hb:Blk w7 g 102 #[.int .i64 4,.int .i64 (a:Nat),.int .i64 0,.int .i64 0]:=by rw [←e7];simpa using hc.set_ 1 (.int .i64 (a:Nat))
     have H7:=h_ (H6.out.upd us (fun k _ e=>by omega));have HR7:=h_ (HR6.out.upd us (by omega));have U7:Hid (Upd (·=p) w w7):=U6.out.trans us (fun k hk e=>by omega);have HC7:=h_ hb;clear us hb hc;have CA:=h_ (xPatternVar_c HXT.out H7.out HG2.out HL2.out);go_wp2_with fail
     refine CA.out.mono ?_;rintro e w8 hw;obtain ⟨b,y3,ev,hd,hgd,hld,hid,ud,hrd⟩:=hw;subst ev;have H8:=h_ hd;have HG3:=h_ hgd;have HL3:Hid (y3.left=false):=hld.trans HL2.out;have HI3:=h_ hid;have HRS3:=h_ hrd;have HR8:=h_ (HR7.out.upd ud (by omega));have hc:=HC7.out.upd ud (by omega);have U8:Hid (Upd (·=p) w w8):=U7.out.trans ud (fun _ _ e=>e);have v2:=hc.cell 2;have vf:=hc.frozen 2;clear e7 CA hd hgd hld hid ud hrd;obtain ⟨w9,Hw9⟩:=nm (w8.setCell ⟨g,2,none⟩ (.int .i64 (b:Nat)));have e9:=Hw9.out;have us:Upd (·=g) w8 w9:=by rw [←e9];exact updCell _ _ _ _
     have hb:Blk w9 g 102 #[.int .i64 4,.int .i64 (a:Nat),.int .i64 (b:Nat),.int .i64 0]:=by rw [←e9];simpa using hc.set_ 2 (.int .i64 (b:Nat))
     have H9:=h_ (H8.out.upd us (fun k _ e=>by omega));have HR9:=h_ (HR8.out.upd us (by omega));have U9:Hid (Upd (·=p) w w9):=U8.out.trans us (fun k hk e=>by omega);have HC9:=h_ hb;clear us hb hc;have HCF:=HC9;have HRF:=HR9;obtain ⟨wF,HwF⟩:=nm w9;rw [HwF.out] at e9 HCF HRF;have g0:=HCF.out.cell 0;have g1:=HCF.out.cell 1;have g2:=HCF.out.cell 2;have g3:=HCF.out.cell 3;have r0:=HRF.out.cell 0;have r1:=HRF.out.cell 1;have r2:=HRF.out.cell 2;have r3:=HRF.out.cell 3;have rf:=HRF.out.frozen;go_wp2_with fail
     rw [set4_eq];refine bodyPost_ret (results_cell_row rfl _ _ w.heap.size 102 _ (0,0) _ rfl (set4_blk HRF.out _ _ _ _) Tryz.underlying102 rfl (by kernel_rfl)) rfl ?_;have us:=set4_upd wF w.heap.size;have hXF:=H9.out;have hUF:=U9.out;rw [HwF.out] at hXF hUF;refine ⟨⟨4,(a:Nat),(b:Nat),0⟩,y3,rfl,hXF.upd (us _ _ _ _) (fun k _ e=>by omega),HG3.out,HL3.out.trans hl.symm,by have q1:=HNG.out.2.1;have q2:=HI2.out;have q3:=HI3.out;omega,hUF.trans (us _ _ _ _) (fun k hk e=>by omega),?_⟩
     rw [pcond_pk];refine ResX.bind HRK.out (fun e he=>wrdF_err he) ?_;unfold pk1;rw [if_neg (by decide)];refine ResX.bind HRS2.out (fun e he=>wrdF_err he) ?_;unfold pk2;rw [if_neg (by decide),if_neg (by decide),if_pos rfl];refine ResX.bind (g:=fun v ps=>(Except.ok ((⟨4,(a:Nat),(v:Nat),0⟩:Cd),ps):Except Er (Cd×PS))) HRS3.out (fun e he=>wrdF_err he) ?_;exact ResX.pure rfl
    ·skip;by_cases h5:s=[105,110,115,105,100,101]
     ·subst h5;obtain ⟨k1,k2,k3,k4⟩:=HTK.out (by simp);have t1:(qs.toList==[110,111,110,122,101,114,111])=false:=by rw [←Hqs.out,xktl];rfl
      have t2:(qs.toList==[108,101,97,115,116])=false:=by rw [←Hqs.out,xktl];rfl
      have t3:(qs.toList==[109,111,115,116])=false:=by rw [←Hqs.out,xktl];rfl
      have t4:(qs.toList==[97,112,97,114,116])=false:=by rw [←Hqs.out,xktl];rfl
      have t5:(qs.toList==[105,110,115,105,100,101])=true:=by rw [←Hqs.out,xktl];rfl
      have HRK:Hid (ResX x y1 (kindF T fin x.ps) (fun v=>v=5)):=by
       show ResX _ _ _ _;unfold kindF;rw [wrd_good (z:=x.ps) k2 rfl (u:=x.ps) (a:=5) rfl,k3];exact ⟨fun _=>⟨k1,rfl,rfl⟩,fun q=>absurd k1 q⟩
      clear HTK HTS k1 k2 k3 k4 h1 h2 h3 h4;go_enter Tryz.func126,Tryz.ntmps126;go_wp2_with fail
      refine CO.out.mono ?_;rintro e w2 ⟨rfl,u2⟩;obtain ⟨W3,HW3⟩:=nm (w2.alloc (.cells #[.int .i64 0,.int .i64 0,.int .i64 0,.int .i64 0] 102));have u3:Upd Non w2 W3:=by rw [←HW3.out];exact Upd.refl.alloc _
      have b3:Blk W3 w2.heap.size 102 #[.int .i64 0,.int .i64 0,.int .i64 0,.int .i64 0]:=by rw [←HW3.out];exact Blk.new _ _ _
      have e3:=HW3.out;have hg2:w.heap.size<w2.heap.size:=by have:=HB1.out.lt;have:=u2.size;omega
      have CN3:=h_ (CN.out _ (u2.then_non u3));clear e1 HW3;go_wp2_with fail
      refine CN3.out.mono ?_;rintro e w4 ⟨rfl,h4,u4⟩;have H4:=h_ h4;have U4:Hid (Upd (·=p) w w4):=(upd_eq ((HU1.out.then_non u2).then_non u3)).trans u4 (fun _ _ e=>e);have HR4:=h_ (((HB1.out.upd u2 (fun f=>f)).upd u3 (fun f=>f)).upd u4 (by omega));have hc4:=b3.upd u4 (by omega);have z0:=hc4.cell 0;have zf:=hc4.frozen;have HC4:=h_ hc4;obtain ⟨g,Hgn⟩:=nm w2.heap.size;rw [Hgn.out] at hg2 z0 zf HC4 ⊢;clear CO CN CN3 h4 u2 u3 u4 b3 e3 hc4 HB1 HU1;obtain ⟨w5,Hw5⟩:=nm (w4.setCell ⟨g,0,none⟩ (.int .i64 5));have e5:=Hw5.out;have u5:Upd (·=g) w4 w5:=by rw [←e5];exact updCell _ _ _ _
      have hb5:Blk w5 g 102 #[.int .i64 5,.int .i64 0,.int .i64 0,.int .i64 0]:=by rw [←e5];simpa using HC4.out.set_ 0 (.int .i64 5)
      have H5:=h_ (H4.out.upd u5 (fun k _ e=>by omega));have HR5:=h_ (HR4.out.upd u5 (by omega));have U5:Hid (Upd (·=p) w w5):=U4.out.trans u5 (fun k hk e=>by omega);have HC5:=h_ hb5;clear u5 hb5;have CA:=h_ (xPatternVar_c HXT.out H5.out HG1.out HL1.out);go_wp2_with fail
      refine CA.out.mono ?_;rintro e w6 hw;obtain ⟨a,y2,ev,hd,hgd,hld,hid,ud,hrd⟩:=hw;subst ev;have H6:=h_ hd;have HG2:=h_ hgd;have HL2:Hid (y2.left=false):=hld.trans HL1.out;have HI2:=h_ hid;have HRS2:=h_ hrd;have HR6:=h_ (HR5.out.upd ud (by omega));have hc:=HC5.out.upd ud (by omega);have U6:Hid (Upd (·=p) w w6):=U5.out.trans ud (fun _ _ e=>e);have v1:=hc.cell 1;have vf:=hc.frozen 1;clear e5 CA hd hgd hld hid ud hrd z0 zf;obtain ⟨w7,Hw7⟩:=nm (w6.setCell ⟨g,1,none⟩ (.int .i64 (a:Nat)));have e7:=Hw7.out;have us:Upd (·=g) w6 w7:=by rw [←e7];exact updCell _ _ _ _
      have hb:Blk w7 g 102 #[.int .i64 5,.int .i64 (a:Nat),.int .i64 0,.int .i64 0]:=by rw [←e7];simpa using hc.set_ 1 (.int .i64 (a:Nat))
      have H7:=h_ (H6.out.upd us (fun k _ e=>by omega));have HR7:=h_ (HR6.out.upd us (by omega));have U7:Hid (Upd (·=p) w w7):=U6.out.trans us (fun k hk e=>by omega);have HC7:=h_ hb;clear us hb hc;have CA:=h_ (xImmVar_c HXT.out H7.out HG2.out HL2.out);go_wp2_with fail
      refine CA.out.mono ?_;rintro e w8 hw;obtain ⟨b,y3,ev,hd,hgd,hld,hid,ud,hrd⟩:=hw;subst ev;have H8:=h_ hd;have HG3:=h_ hgd;have HL3:Hid (y3.left=false):=hld.trans HL2.out;have HI3:=h_ hid;have HRS3:=h_ hrd;have HR8:=h_ (HR7.out.upd ud (by omega));have hc:=HC7.out.upd ud (by omega);have U8:Hid (Upd (·=p) w w8):=U7.out.trans ud (fun _ _ e=>e);have v2:=hc.cell 2;have vf:=hc.frozen 2;clear e7 CA hd hgd hld hid ud hrd;obtain ⟨w9,Hw9⟩:=nm (w8.setCell ⟨g,2,none⟩ (.int .i64 (b:Nat)));have e9:=Hw9.out;have us:Upd (·=g) w8 w9:=by rw [←e9];exact updCell _ _ _ _
      have hb:Blk w9 g 102 #[.int .i64 5,.int .i64 (a:Nat),.int .i64 (b:Nat),.int .i64 0]:=by rw [←e9];simpa using hc.set_ 2 (.int .i64 (b:Nat))
      have H9:=h_ (H8.out.upd us (fun k _ e=>by omega));have HR9:=h_ (HR8.out.upd us (by omega));have U9:Hid (Upd (·=p) w w9):=U8.out.trans us (fun k hk e=>by omega);have HC9:=h_ hb;clear us hb hc;have HCF:=HC9;have HRF:=HR9;obtain ⟨wF,HwF⟩:=nm w9;rw [HwF.out] at e9 HCF HRF;have g0:=HCF.out.cell 0;have g1:=HCF.out.cell 1;have g2:=HCF.out.cell 2;have g3:=HCF.out.cell 3;have r0:=HRF.out.cell 0;have r1:=HRF.out.cell 1;have r2:=HRF.out.cell 2;have r3:=HRF.out.cell 3;have rf:=HRF.out.frozen;go_wp2_with fail
      rw [set4_eq];refine bodyPost_ret (results_cell_row rfl _ _ w.heap.size 102 _ (0,0) _ rfl (set4_blk HRF.out _ _ _ _) Tryz.underlying102 rfl (by kernel_rfl)) rfl ?_;have us:=set4_upd wF w.heap.size;have hXF:=H9.out;have hUF:=U9.out;rw [HwF.out] at hXF hUF;refine ⟨⟨5,(a:Nat),(b:Nat),0⟩,y3,rfl,hXF.upd (us _ _ _ _) (fun k _ e=>by omega),HG3.out,HL3.out.trans hl.symm,by have q1:=HNG.out.2.1;have q2:=HI2.out;have q3:=HI3.out;omega,hUF.trans (us _ _ _ _) (fun k hk e=>by omega),?_⟩
      rw [pcond_pk];refine ResX.bind HRK.out (fun e he=>wrdF_err he) ?_;unfold pk1;rw [if_neg (by decide)];refine ResX.bind HRS2.out (fun e he=>wrdF_err he) ?_;unfold pk2;rw [if_neg (by decide),if_neg (by decide),if_neg (by decide)];refine ResX.bind (g:=fun v ps=>(Except.ok ((⟨((5:Nat):Int),(a:Nat),(v:Nat),0⟩:Cd),ps):Except Er (Cd×PS))) HRS3.out (fun e he=>wrdF_err he) ?_
      exact ResX.pure rfl
     ·skip;by_cases h6:s=[117,110,108,105,107,101]
      ·subst h6;obtain ⟨k1,k2,k3,k4⟩:=HTK.out (by simp);have t1:(qs.toList==[110,111,110,122,101,114,111])=false:=by rw [←Hqs.out,xktl];rfl
       have t2:(qs.toList==[108,101,97,115,116])=false:=by rw [←Hqs.out,xktl];rfl
       have t3:(qs.toList==[109,111,115,116])=false:=by rw [←Hqs.out,xktl];rfl
       have t4:(qs.toList==[97,112,97,114,116])=false:=by rw [←Hqs.out,xktl];rfl
       have t5:(qs.toList==[105,110,115,105,100,101])=false:=by rw [←Hqs.out,xktl];rfl
       have t6:(qs.toList==[117,110,108,105,107,101])=true:=by rw [←Hqs.out,xktl];rfl
       have HRK:Hid (ResX x y1 (kindF T fin x.ps) (fun v=>v=6)):=by
        show ResX _ _ _ _;unfold kindF;rw [wrd_good (z:=x.ps) k2 rfl (u:=x.ps) (a:=6) rfl,k3];exact ⟨fun _=>⟨k1,rfl,rfl⟩,fun q=>absurd k1 q⟩
       clear HTK HTS k1 k2 k3 k4 h1 h2 h3 h4 h5;go_enter Tryz.func126,Tryz.ntmps126;go_wp2_with fail
       refine CO.out.mono ?_;rintro e w2 ⟨rfl,u2⟩;obtain ⟨W3,HW3⟩:=nm (w2.alloc (.cells #[.int .i64 0,.int .i64 0,.int .i64 0,.int .i64 0] 102));have u3:Upd Non w2 W3:=by rw [←HW3.out];exact Upd.refl.alloc _
       have b3:Blk W3 w2.heap.size 102 #[.int .i64 0,.int .i64 0,.int .i64 0,.int .i64 0]:=by rw [←HW3.out];exact Blk.new _ _ _
       have e3:=HW3.out;have hg2:w.heap.size<w2.heap.size:=by have:=HB1.out.lt;have:=u2.size;omega
       have CN3:=h_ (CN.out _ (u2.then_non u3));clear e1 HW3;go_wp2_with fail
       refine CN3.out.mono ?_;rintro e w4 ⟨rfl,h4,u4⟩;have H4:=h_ h4;have U4:Hid (Upd (·=p) w w4):=(upd_eq ((HU1.out.then_non u2).then_non u3)).trans u4 (fun _ _ e=>e);have HR4:=h_ (((HB1.out.upd u2 (fun f=>f)).upd u3 (fun f=>f)).upd u4 (by omega));have hc4:=b3.upd u4 (by omega);have z0:=hc4.cell 0;have zf:=hc4.frozen;have HC4:=h_ hc4;obtain ⟨g,Hgn⟩:=nm w2.heap.size;rw [Hgn.out] at hg2 z0 zf HC4 ⊢;clear CO CN CN3 h4 u2 u3 u4 b3 e3 hc4 HB1 HU1;obtain ⟨w5,Hw5⟩:=nm (w4.setCell ⟨g,0,none⟩ (.int .i64 6));have e5:=Hw5.out;have u5:Upd (·=g) w4 w5:=by rw [←e5];exact updCell _ _ _ _
       have hb5:Blk w5 g 102 #[.int .i64 6,.int .i64 0,.int .i64 0,.int .i64 0]:=by rw [←e5];simpa using HC4.out.set_ 0 (.int .i64 6)
       have H5:=h_ (H4.out.upd u5 (fun k _ e=>by omega));have HR5:=h_ (HR4.out.upd u5 (by omega));have U5:Hid (Upd (·=p) w w5):=U4.out.trans u5 (fun k hk e=>by omega);have HC5:=h_ hb5;clear u5 hb5;have CA:=h_ (xImmVar_c HXT.out H5.out HG1.out HL1.out);go_wp2_with fail
       refine CA.out.mono ?_;rintro e w6 hw;obtain ⟨a,y2,ev,hd,hgd,hld,hid,ud,hrd⟩:=hw;subst ev;have H6:=h_ hd;have HG2:=h_ hgd;have HL2:Hid (y2.left=false):=hld.trans HL1.out;have HI2:=h_ hid;have HRS2:=h_ hrd;have HR6:=h_ (HR5.out.upd ud (by omega));have hc:=HC5.out.upd ud (by omega);have U6:Hid (Upd (·=p) w w6):=U5.out.trans ud (fun _ _ e=>e);have v1:=hc.cell 1;have vf:=hc.frozen 1;clear e5 CA hd hgd hld hid ud hrd z0 zf;obtain ⟨w7,Hw7⟩:=nm (w6.setCell ⟨g,1,none⟩ (.int .i64 (a:Nat)));have e7:=Hw7.out;have us:Upd (·=g) w6 w7:=by rw [←e7];exact updCell _ _ _ _
       have hb:Blk w7 g 102 #[.int .i64 6,.int .i64 (a:Nat),.int .i64 0,.int .i64 0]:=by rw [←e7];simpa using hc.set_ 1 (.int .i64 (a:Nat))
       have H7:=h_ (H6.out.upd us (fun k _ e=>by omega));have HR7:=h_ (HR6.out.upd us (by omega));have U7:Hid (Upd (·=p) w w7):=U6.out.trans us (fun k hk e=>by omega);have HC7:=h_ hb;clear us hb hc;have CA:=h_ (xImmVar_c HXT.out H7.out HG2.out HL2.out);go_wp2_with fail
       refine CA.out.mono ?_;rintro e w8 hw;obtain ⟨b,y3,ev,hd,hgd,hld,hid,ud,hrd⟩:=hw;subst ev;have H8:=h_ hd;have HG3:=h_ hgd;have HL3:Hid (y3.left=false):=hld.trans HL2.out;have HI3:=h_ hid;have HRS3:=h_ hrd;have HR8:=h_ (HR7.out.upd ud (by omega));have hc:=HC7.out.upd ud (by omega);have U8:Hid (Upd (·=p) w w8):=U7.out.trans ud (fun _ _ e=>e);have v2:=hc.cell 2;have vf:=hc.frozen 2;clear e7 CA hd hgd hld hid ud hrd;obtain ⟨w9,Hw9⟩:=nm (w8.setCell ⟨g,2,none⟩ (.int .i64 (b:Nat)));have e9:=Hw9.out;have us:Upd (·=g) w8 w9:=by rw [←e9];exact updCell _ _ _ _
       have hb:Blk w9 g 102 #[.int .i64 6,.int .i64 (a:Nat),.int .i64 (b:Nat),.int .i64 0]:=by rw [←e9];simpa using hc.set_ 2 (.int .i64 (b:Nat))
       have H9:=h_ (H8.out.upd us (fun k _ e=>by omega));have HR9:=h_ (HR8.out.upd us (by omega));have U9:Hid (Upd (·=p) w w9):=U8.out.trans us (fun k hk e=>by omega);have HC9:=h_ hb;clear us hb hc;have HCF:=HC9;have HRF:=HR9;obtain ⟨wF,HwF⟩:=nm w9;rw [HwF.out] at e9 HCF HRF;have g0:=HCF.out.cell 0;have g1:=HCF.out.cell 1;have g2:=HCF.out.cell 2;have g3:=HCF.out.cell 3;have r0:=HRF.out.cell 0;have r1:=HRF.out.cell 1;have r2:=HRF.out.cell 2;have r3:=HRF.out.cell 3;have rf:=HRF.out.frozen;go_wp2_with fail
       rw [set4_eq];refine bodyPost_ret (results_cell_row rfl _ _ w.heap.size 102 _ (0,0) _ rfl (set4_blk HRF.out _ _ _ _) Tryz.underlying102 rfl (by kernel_rfl)) rfl ?_;have us:=set4_upd wF w.heap.size;have hXF:=H9.out;have hUF:=U9.out;rw [HwF.out] at hXF hUF;refine ⟨⟨6,(a:Nat),(b:Nat),0⟩,y3,rfl,hXF.upd (us _ _ _ _) (fun k _ e=>by omega),HG3.out,HL3.out.trans hl.symm,by have q1:=HNG.out.2.1;have q2:=HI2.out;have q3:=HI3.out;omega,hUF.trans (us _ _ _ _) (fun k hk e=>by omega),?_⟩
       rw [pcond_pk];refine ResX.bind HRK.out (fun e he=>wrdF_err he) ?_;unfold pk1;rw [if_pos rfl];refine ResX.bind HRS2.out (fun e he=>wrdF_err he) ?_;unfold pk2;rw [if_neg (by decide),if_neg (by decide),if_neg (by decide)];refine ResX.bind (g:=fun v ps=>(Except.ok ((⟨((6:Nat):Int),(a:Nat),(v:Nat),0⟩:Cd),ps):Except Er (Cd×PS))) HRS3.out (fun e he=>wrdF_err he) ?_
       exact ResX.pure rfl
      ·skip;have t1:(qs.toList==[110,111,110,122,101,114,111])=false:=by rw [←Hqs.out,xktl];exact beq_eq_false_iff_ne.2 h1
       have t2:(qs.toList==[108,101,97,115,116])=false:=by rw [←Hqs.out,xktl];exact beq_eq_false_iff_ne.2 h2
       have t3:(qs.toList==[109,111,115,116])=false:=by rw [←Hqs.out,xktl];exact beq_eq_false_iff_ne.2 h3
       have t4:(qs.toList==[97,112,97,114,116])=false:=by rw [←Hqs.out,xktl];exact beq_eq_false_iff_ne.2 h4
       have t5:(qs.toList==[105,110,115,105,100,101])=false:=by rw [←Hqs.out,xktl];exact beq_eq_false_iff_ne.2 h5
       have t6:(qs.toList==[117,110,108,105,107,101])=false:=by rw [←Hqs.out,xktl];exact beq_eq_false_iff_ne.2 h6
       have HRB:Hid (ResX x (y1.fail 2 off) (pcondF T fin x.ps) (fun v=>v=⟨0,0,0,0⟩)):=by
        have hno:findL condL s 0=none:=by
         simp only [findL,condL];rw [if_neg (fun q=>h1 q.symm),if_neg (fun q=>h2 q.symm),if_neg (fun q=>h3 q.symm),if_neg (fun q=>h4 q.symm),if_neg (fun q=>h5 q.symm),if_neg (fun q=>h6 q.symm)]
        have hk:ResX x (y1.fail 2 off) (kindF T fin x.ps) (fun v=>v=0):=by
         by_cases h0:x.why=0
         ·have:=bad_resX (fin:=fin) (x:=x) (f:=fun s x=>(findL condL s 0).map fun i=>(i+1,x)) (P:=fun v=>v=0) (fun t ht=>by rw [HTS.out t h0 ht,hno];rfl)
          rw [Hy1.out,Hoff.out] at this;exact this
         ·have e:=(nx_none (T:=T) (fin:=fin) (x:=x) (fun r=>h0 r.1)).2;rw [Hy1.out] at e;rw [e,xfail_why h0,xfail_why h0];exact ⟨fun q=>absurd q h0,fun _=>⟨rfl,rfl⟩⟩
        unfold pcondF;refine ⟨fun h0=>?_,hk.2⟩;have h5:=hk.1 h0
        cases hkf:kindF T fin x.ps with
        | error e=>rw [hkf] at h5;exact h5
        | ok v=>rw [hkf] at h5;exact absurd h5.1 (xfail_ne _ (by decide))
       clear HTK HTS h1 h2 h3 h4 h5 h6;go_enter Tryz.func126,Tryz.ntmps126;go_wp2_with fail
       refine CO.out.mono ?_;rintro e w2 ⟨rfl,u2⟩;obtain ⟨W3,HW3⟩:=nm (w2.alloc (.cells #[.int .i64 0,.int .i64 0,.int .i64 0,.int .i64 0] 102));have u3:Upd Non w2 W3:=by rw [←HW3.out];exact Upd.refl.alloc _
       have b3:Blk W3 w2.heap.size 102 #[.int .i64 0,.int .i64 0,.int .i64 0,.int .i64 0]:=by rw [←HW3.out];exact Blk.new _ _ _
       have e3:=HW3.out;have hg2:w.heap.size<w2.heap.size:=by have:=HB1.out.lt;have:=u2.size;omega
       have CN3:=h_ (CN.out _ (u2.then_non u3));clear e1 HW3;go_wp2_with fail
       refine CN3.out.mono ?_;rintro e w4 ⟨rfl,h4,u4⟩;have H4:=h_ h4;have U4:Hid (Upd (·=p) w w4):=(upd_eq ((HU1.out.then_non u2).then_non u3)).trans u4 (fun _ _ e=>e);have HR4:=h_ (((HB1.out.upd u2 (fun f=>f)).upd u3 (fun f=>f)).upd u4 (by omega));have hc4:=b3.upd u4 (by omega);have z0:=hc4.cell 0;have zf:=hc4.frozen;have HC4:=h_ hc4;obtain ⟨g,Hgn⟩:=nm w2.heap.size;rw [Hgn.out] at hg2 z0 zf HC4 ⊢;clear CO CN CN3 h4 u2 u3 u4 b3 e3 hc4 HB1 HU1;have CF:=h_ (xFail_c H4.out 2 off);go_wp2_with fail
       refine CF.out.mono ?_;rintro e wF ⟨rfl,h9,u9⟩;have HCF:=h_ (HC4.out.upd u9 (by omega));have HRF:=h_ (HR4.out.upd u9 (by omega));have H9:=h_ h9;have U9:Hid (Upd (·=p) w wF):=U4.out.trans u9 (fun _ _ e=>e);clear CF h9 u9 z0 zf;have g0:=HCF.out.cell 0;have g1:=HCF.out.cell 1;have g2:=HCF.out.cell 2;have g3:=HCF.out.cell 3;have r0:=HRF.out.cell 0;have r1:=HRF.out.cell 1;have r2:=HRF.out.cell 2;have r3:=HRF.out.cell 3;have rf:=HRF.out.frozen;go_wp2_with fail
       rw [set4_eq];refine bodyPost_ret (results_cell_row rfl _ _ w.heap.size 102 _ (0,0) _ rfl (set4_blk HRF.out _ _ _ _) Tryz.underlying102 rfl (by kernel_rfl)) rfl ?_;have us:=set4_upd wF w.heap.size;exact ⟨⟨0,0,0,0⟩,y1.fail 2 off,rfl,H9.out.upd (us _ _ _ _) (fun k _ e=>by omega),HG1.out.fail _ _,by rw [xfail_left];exact HL1.out.trans hl.symm,by rw [xfail_i];exact HNG.out.2.1,U9.out.trans (us _ _ _ _) (fun k hk e=>by omega),HRB.out⟩
def setLf (w:World) (g:Nat) (a b c d e:Value):World:=((((w.setCell ⟨g,1,none⟩ a).setCell ⟨g,2,none⟩ b).setCell ⟨g,3,none⟩ c).setCell ⟨g,4,none⟩ d).setCell ⟨g,5,none⟩ e
theorem setLf_blk {w:World} {g:Nat} {t:TypeId} {x0 x1 x2 x3 x4 x5 x6 x7 x8 x9 x10 x11 x12 x13:Value} (h:Blk w g t #[x0,x1,x2,x3,x4,x5,x6,x7,x8,x9,x10,x11,x12,x13]) (a b c d e:Value):Blk (setLf w g a b c d e) g t #[x0,a,b,c,d,e,x6,x7,x8,x9,x10,x11,x12,x13]:=by
 unfold setLf;simpa using ((((h.set_ 1 a).set_ 2 b).set_ 3 c).set_ 4 d).set_ 5 e
theorem setLf_upd (w:World) (g:Nat) (a b c d e:Value):Upd (·=g) w (setLf w g a b c d e):=by
 have s:∀(w:World) (i:Nat) (v:Value),Upd (·=g) w (w.setCell ⟨g,i,none⟩ v):=fun w i v=>updCell _ _ _ _
 have t:∀{a b c:World},Upd (·=g) a b→Upd (·=g) b c→Upd (·=g) a c:=fun h k=>h.trans k (fun _ _ h=>h)
 exact t (t (t (t (s _ _ _) (s _ _ _)) (s _ _ _)) (s _ _ _)) (s _ _ _)
theorem setLf_eq (w:World) (g:Nat) (a b c d e:Value):((((w.setCell ⟨g,1,none⟩ a).setCell ⟨g,2,none⟩ b).setCell ⟨g,3,none⟩ c).setCell ⟨g,4,none⟩ d).setCell ⟨g,5,none⟩ e=setLf w g a b c d e:=rfl
def AxP (ax:Bs→Option Rl) (s:Bs) (w:World) (e:Ending) (w':World):Prop :=
 ∃(rl:Rl) (a:RlA) (b:Bool),e=.returned (.tuple #[rlv rl a,.bool b])∧RlK w' (fun k=>w.heap.size≤k) rl a∧Upd Non w w'∧(b=true→ax s=some rl)∧(b=false→ax s=none)
section
variable {L:List Tok} {T:List (Bs×Nat)} {fin:Nat}
end
section
variable {P P' S:Nat→Prop} {w0 w w':World} {p:Nat} {A:Option Addr} {c:Nat} {L:List Tok} {x y y':St}
def z14:Array Value:=#[.string ⟨#[]⟩,.int .i64 0,.int .i64 0,.int .i64 0,.int .i64 0,.slice none 0 0,.int .i64 0,.int .i64 0,.int .i64 0,.int .i64 0,.slice none 0 0,.slice none 0 0,.int .i64 0,.int .i64 0]
def z3:Array Value:=#[.string ⟨#[]⟩,.int .i64 0,.bool false]
section
variable {g1 g2:Nat} {ts:Bs} {tp:Nat} {R R':Rl} {a a':RlA}
end
end
theorem ba_beq (s q:ByteArray):(s==q)=decide (s=q):=by
 rcases s with ⟨s⟩;rcases q with ⟨q⟩
 show (s==q)=_;rw [Bool.eq_iff_iff];simp
def lookS:List MapEntry→ByteArray→Option Value
 | [],_=>none
 | e::es,s=>match e.key with
  | .string k=>if s=k then some e.val else lookS es s
  | _=>lookS es s
def SMap (w:World) (b:Nat) (m:ByteArray→Option Value):Prop :=
 ∃es clock,w.heap[b]?=some (.map es clock)∧(∀e∈es.toList,∃s,e.key=.string s)∧∀s,lookS es.toList s=m s
section
variable {P:Program} {w w':World} {b:Nat} {m:ByteArray→Option Value}
theorem SMap.new (w:World):SMap (w.alloc (.map #[] 0)) w.heap.size (fun _=>none):=⟨#[],0,heap_alloc_new w _,by simp,fun _=>rfl⟩
theorem SMap.upd {S:Nat→Prop} (h:SMap w b m) (u:Upd S w w') (hS:¬S b):SMap w' b m:=by
 obtain ⟨es,clock,hb,h1,h2⟩:=h;exact ⟨es,clock,(u.block b (lt_of_heap hb) hS).trans hb,h1,h2⟩
theorem findNow_str (s:ByteArray):∀(es:List MapEntry) (i:Nat),(∀e∈es,∃s,e.key=.string s)→∃r,Instr.findNow .string (.string s) es i=some r∧r.map (·.2)=lookS es s ∧
  (∀j v,r=some (j,v)→∃k,j=i+k∧k<es.length∧(es[k]?).map (·.key)=some (.string s)∧∀s' x,lookS (es.modify k fun e=>{ e with key:=.string s,val:=x }) s'=if s'=s then some x else lookS es s') ∧
  (r=none→∀s' x c,lookS (es++[{ key:=.string s,val:=x,born:=c }]) s'=if s'=s then some x else lookS es s'):=by
 intro es
 induction es with
 | nil =>
  intro i _;refine ⟨none,rfl,rfl,by simp,fun _ s' x c=>?_⟩;simp only [List.nil_append,lookS]
 | cons e es ih =>
  intro i hk;obtain ⟨q,hq⟩:=hk e (by simp);obtain ⟨r,h1,h2,h3,h4⟩:=ih (i+1) (fun x hx=>hk x (by simp [hx]));by_cases he:s=q
  ·subst he;refine ⟨some (i,e.val),by simp [Instr.findNow,Instr.sameNow,hq,ba_beq],by simp [lookS,hq],?_,by simp⟩;rintro j v ⟨⟩;refine ⟨0,rfl,by simp,by simp [hq],fun s' x=>?_⟩;simp only [List.modify_zero_cons,lookS,hq]
   split <;> simp_all
  ·have hb:(s==q)=false:=by simpa [ba_beq] using he
   refine ⟨r,by simp [Instr.findNow,Instr.sameNow,hq,hb,h1],by simp [lookS,hq,he,h2],?_,?_⟩
   ·rintro j v rfl;obtain ⟨k,rfl,hkl,hkk,hm⟩:=h3 j v rfl;refine ⟨k+1,by omega,by simpa using hkl,by simpa using hkk,fun s' x=>?_⟩;simp only [List.modify_succ_cons,lookS,hq,hm]
    split
    ·rename_i e2;subst e2;rw [if_neg (fun h=>he h.symm)]
    ·rfl
   ·intro hr s' x c;simp only [List.cons_append,lookS,hq,h4 hr]
    split
    ·rename_i e2;subst e2;rw [if_neg (fun h=>he h.symm)]
    ·rfl
theorem checkKey_string {k:TypeId} (hk:P.underlying k=some .string) (b:Bool) (n:Nat) (s:ByteArray):(Instr.checkKey b (n+1) k (.string s)).run P w=.ok () w:=by
 simp [Instr.checkKey,run_underlying hk]
theorem SMap.look1 {t k e:TypeId} (ht:P.underlying t=some (.map k e)) (hk:P.underlying k=some .string) {z:Value} (hz:(zeroValue e).run P w=.ok z w) (h:SMap w b m) (s:ByteArray) :
  (Instr.lookup t (.map (some b)) (.string s) false).run P w=.ok ((m s).getD z) w:=by
 obtain ⟨es,clock,hb,h1,h2⟩:=h;obtain ⟨r,hr,hm,_⟩:=findNow_str s es.toList 0 h1;have hg:(getObj b).run P w=.ok (.map es clock) w:=by simp [getObj,Sem.run,hb]
 rw [←h2 s,←hm]
 cases r with
 | none=>simp [Instr.lookup,run_underlying ht,run_underlying hk,hg,checkKey_string hk,Instr.findKey,hr,hz]
 | some p=>simp [Instr.lookup,run_underlying ht,run_underlying hk,hg,checkKey_string hk,Instr.findKey,hr]
theorem SMap.store {t k e:TypeId} (ht:P.underlying t=some (.map k e)) (hk:P.underlying k=some .string) (h:SMap w b m) (s:ByteArray) (v:Value) :
  ∃w',(Instr.mapUpdate t (.map (some b)) (.string s) v).run P w=.ok () w'∧SMap w' b (fun x=>if x=s then some v else m x)∧Upd (·=b) w w':=by
 obtain ⟨es,clock,hb,h1,h2⟩:=h;obtain ⟨r,hr,hm,h3,h4⟩:=findNow_str s es.toList 0 h1;have hg:(getObj b).run P w=.ok (.map es clock) w:=by simp [getObj,Sem.run,hb]
 have hset:∀o,(setObj b o).run P w=.ok () { w with heap:=w.heap.setIfInBounds b o }:=fun o=>by simp [setObj,Sem.run,hb]
 have hU:∀o,Upd (·=b) w { w with heap:=w.heap.setIfInBounds b o }:=fun o=>⟨rfl,rfl,rfl,by simp,fun j hj hne=>by simp [Ne.symm hne]⟩
 have hlt:=lt_of_heap hb
 cases r with
 | none =>
  refine ⟨{ w with heap:=w.heap.setIfInBounds b (.map (es.push { key:=.string s,val:=v,born:=clock }) (clock+1)) },by simp [Instr.mapUpdate,run_underlying ht,hg,checkKey_string hk,Instr.findKey,run_underlying hk,hr,hset],?_,hU _⟩
  refine ⟨es.push { key:=.string s,val:=v,born:=clock },clock+1,by simp [hlt],?_,fun s'=>?_⟩
  ·intro e he;rw [Array.toList_push] at he;rcases List.mem_append.1 he with he | he
   ·exact h1 e he
   ·simp at he;subst he;exact ⟨s,rfl⟩
  ·rw [Array.toList_push,h4 rfl];simp only [h2]
 | some p =>
  obtain ⟨j,v0⟩:=p;obtain ⟨kk,hj,hkl,hkk,hmod⟩:=h3 j v0 rfl;have hj':j=kk:=by omega
  subst hj'
  have hkey:((es[j]?).map (·.key)).getD (.string s)=.string s:=by
   have : es.toList[j]?=es[j]?:=by simp
   rw [←this,hkk];rfl
  have hst:(Instr.keyThatStays (.string s) (.string s)).run P w=.ok (.string s) w:=by simp [Instr.keyThatStays,Instr.sameBits,ba_beq]
  refine ⟨{ w with heap:=w.heap.setIfInBounds b (.map (es.modify j fun e=>{ e with key:=.string s,val:=v }) clock) },by simp [Instr.mapUpdate,run_underlying ht,hg,checkKey_string hk,Instr.findKey,run_underlying hk,hr,hkey,hst,hset],?_,hU _⟩
  refine ⟨es.modify j fun e=>{ e with key:=.string s,val:=v },clock,by simp [hlt],?_,fun s'=>?_⟩
  ·intro e he;rw [Array.toList_modify] at he;obtain ⟨i,hi,rfl⟩:=List.mem_iff_getElem.1 he;rw [List.getElem_modify]
   split
   ·exact ⟨s,rfl⟩
   ·exact h1 _ (List.getElem_mem _)
  ·rw [Array.toList_modify,hmod];simp only [h2]
end
def RlAt (w:World) (b o:Nat) (r:Rl) (a:RlA):Prop :=
  w.cell? ⟨b,o,none⟩=some (.string r.name)∧w.cell? ⟨b,o+1,none⟩=some (.int .i64 r.l.v)∧w.cell? ⟨b,o+2,none⟩=some (.int .i64 r.l.op)∧w.cell? ⟨b,o+3,none⟩=some (.int .i64 r.l.imm)∧w.cell? ⟨b,o+4,none⟩=some (.int .i64 r.l.iv)∧w.cell? ⟨b,o+5,none⟩=some (.slice a.la r.l.kids.length a.lc) ∧
  w.cell? ⟨b,o+6,none⟩=some (.int .i64 r.r.v)∧w.cell? ⟨b,o+7,none⟩=some (.int .i64 r.r.op)∧w.cell? ⟨b,o+8,none⟩=some (.int .i64 r.r.imm)∧w.cell? ⟨b,o+9,none⟩=some (.int .i64 r.r.iv)∧w.cell? ⟨b,o+10,none⟩=some (.slice a.ra r.r.kids.length a.rc) ∧
  w.cell? ⟨b,o+11,none⟩=some (.slice a.ca r.conds.length a.cc)∧w.cell? ⟨b,o+12,none⟩=some (.int .i64 r.vars)∧w.cell? ⟨b,o+13,none⟩=some (.int .i64 r.imms)
theorem RlAt.upd {w w':World} {b o:Nat} {r:Rl} {a:RlA} {S:Nat→Prop} (h:RlAt w b o r a) (u:Upd S w w') (hb:¬S b):RlAt w' b o r a:=by
 obtain ⟨c0,c1,c2,c3,c4,c5,c6,c7,c8,c9,c10,c11,c12,c13⟩:=h;exact ⟨u_ c0 u hb,u_ c1 u hb,u_ c2 u hb,u_ c3 u hb,u_ c4 u hb,u_ c5 u hb,u_ c6 u hb,u_ c7 u hb,u_ c8 u hb,u_ c9 u hb,u_ c10 u hb,u_ c11 u hb,u_ c12 u hb,u_ c13 u hb⟩
def RlsV (w:World) (F:Nat→Prop) (A:Option Addr) (L:List Rl):Prop :=
 L=[]∨∃b o,A=some ⟨b,o,none⟩∧F b∧∀i (h:i<L.length),∃a,RlAt w b (o+i * 14) L[i] a∧RlK w F L[i] a
theorem RlsV.upd {w w':World} {F S:Nat→Prop} {A:Option Addr} {L:List Rl} (h:RlsV w F A L) (u:Upd S w w') (d:∀k,k<w.heap.size→F k→¬S k):RlsV w' F A L:=by
 rcases h with h | ⟨b,o,e,hF,h⟩
 ·exact .inl h
 ·refine .inr ⟨b,o,e,hF,fun i hi=>?_⟩;obtain ⟨a,ha,hk⟩:=h i hi;exact ⟨a,ha.upd u (d b (World.block_lt_of_cell? _ _ ha.1) hF),hk.upd u d⟩
theorem RlsV.at_ {w:World} {F:Nat→Prop} {A:Option Addr} {L:List Rl} (h:RlsV w F A L) {i:Nat} (hi:i<L.length):∃b o a,A=some ⟨b,o,none⟩∧F b∧b<w.heap.size∧RlAt w b (o+i * 14) L[i] a∧RlK w F L[i] a:=by
 rcases h with h | ⟨b,o,e,hF,h⟩
 ·subst h;simp at hi
 ·obtain ⟨a,ha,hk⟩:=h i hi;exact ⟨b,o,a,e,hF,World.block_lt_of_cell? _ _ ha.1,ha,hk⟩
section
variable {w w':World} {F G G' S:Nat→Prop} {A:Option Addr} {L:List Rl} {n c:Nat}
def RsCells (w:World) (K:Nat→Prop) (cs:List Value) (L:List Rl):Prop :=
 cs.length=14 * L.length∧∀i (h:i<L.length),∃a,(∀j,j<14→cs[14 * i+j]?=(rlCells L[i] a).toList[j]?)∧RlK w K L[i] a
theorem RsCells.nil {K:Nat→Prop}:RsCells w K [] []:=⟨rfl,fun i h=>by simp at h⟩
theorem RsCells.snoc {K:Nat→Prop} {cs:List Value} (h:RsCells w K cs L) {r:Rl} {a:RlA} (hk:RlK w K r a) :
  RsCells w K (cs++(rlCells r a).toList) (L++[r]):=by
 refine ⟨by simp [h.1,rlCells];omega,fun i hi=>?_⟩;have hl:=h.1;by_cases hlt:i<L.length
 ·obtain ⟨a,h1,h5⟩:=h.2 i hlt;refine ⟨a,fun j hj=>?_,?_⟩
  ·rw [List.getElem?_append_left (by omega),List.getElem_append_left hlt];exact h1 j hj
  ·rw [List.getElem_append_left hlt];exact h5
 ·have he:i=L.length:=by simp at hi;omega
  subst he;refine ⟨a,fun j hj=>?_,?_⟩
  ·rw [List.getElem?_append_right (by omega),hl];simp
  ·simpa using hk
def RlO (w:World) (G:Nat→Prop) (A:Option Addr) (n c:Nat) (L:List Rl):Prop :=
 n=L.length∧∃cs,Own w 41 14 A n c cs∧RsCells w (fun k=>G k∧¬At A k) cs L
theorem RlO.view (h:RlO w G A n c L) (hA:∀k,At A k→F k) (hG:∀k,k<w.heap.size→G k→F k):RlsV w F A L:=by
 obtain ⟨rfl,cs,h2,h3⟩:=h;rcases h2.cases with ⟨_,h0,_,_⟩ | ⟨g,cur,rfl,hb,_,_,_,ht⟩
 ·exact .inl (List.eq_nil_of_length_eq_zero h0)
 ·refine .inr ⟨g,0,rfl,hA g (At.some_.2 rfl),fun i hi=>?_⟩;have hl:=h3.1;obtain ⟨a,c1,c5⟩:=h3.2 i hi
  have hcell:∀j u,cs[j]?=some u→w.cell? ⟨g,j,none⟩=some u:=by
   intro j u hj;rw [hb.cell];rw [←ht] at hj;rw [List.getElem?_take] at hj
   split at hj
   ·simpa using hj
   ·cases hj
  have e:0+i * 14=14 * i:=by omega
  refine ⟨a,?_,c5.mono (fun k hk hg=>hG k hk hg.1)⟩;rw [e];exact ⟨hcell _ _ (c1 0 (by omega)),hcell _ _ (c1 1 (by omega)),hcell _ _ (c1 2 (by omega)),hcell _ _ (c1 3 (by omega)),hcell _ _ (c1 4 (by omega)),hcell _ _ (c1 5 (by omega)),hcell _ _ (c1 6 (by omega)),hcell _ _ (c1 7 (by omega)),hcell _ _ (c1 8 (by omega)),hcell _ _ (c1 9 (by omega)),hcell _ _ (c1 10 (by omega)),hcell _ _ (c1 11 (by omega)),hcell _ _ (c1 12 (by omega)),hcell _ _ (c1 13 (by omega))⟩
end
section
variable {T:List (Bs×Nat)} {fin:Nat} {L:List Tok}
end
section
variable {T:List (Bs×Nat)} {fin:Nat} {ax:Bs→Option Rl} {n:Nat} {R:Except Er (List Rl)} {y y':St} {Q:List Rl} {fu:Nat}
end
end Go.Proofs.YtifhejahbbnkiaaGreat
namespace Go.Proofs.YtifhejahbbnkiaaGreat
open Go.RowKit
section
variable {w0 w w':World} {p mb:Nat} {A:Option Addr} {c:Nat} {L:List Tok} {y y':St} {OA:Option Addr} {oc:Nat} {Q:List Rl}
end
section
variable {T:List (Bs×Nat)} {fin:Nat}
theorem ResX.ebind {β:Type} {y z:Xs} {s:Bs} {g:PS→Except Er (β×PS)} {Q:β→Prop} (h2:ResX (exY T fin s y) z (g (exY T fin s y).ps) Q):ResX y z (bindE (expF T fin s y.ps) g) Q:=by
 refine ⟨fun h0=>?_,fun h0=>?_⟩
 ·have h1:=exY_res (T:=T) (fin:=fin) (s:=s) h0
  cases he:expF T fin s y.ps with
  | error e =>
   rw [he] at h1;have hn:(exY T fin s y).why≠0:=by rw [h1.1];exact expF_err he
   have h3:=h2.2 hn;exact ⟨h3.1.trans h1.1,h3.2.trans h1.2⟩
  | ok u =>
   rw [he] at h1;obtain ⟨h3,rfl⟩:=h1;exact h2.1 h3
 ·have e:=exY_err (T:=T) (fin:=fin) (s:=s) h0;rw [e] at h2;exact h2.2 h0
def CdX (T:List (Bs×Nat)) (fin:Nat) (y5 y:Xs) (cs:List Cd) (f:Nat):Prop :=
 (y5.why=0→(y.why=0→T.length<f+y.i∧ifF T fin (T.length+1) y5.ps=match condsF T fin f y.ps with
  | .error e=>.error e
  | .ok (l,z)=>.ok (cs++l,z))∧(y.why≠0→ifF T fin (T.length+1) y5.ps=.error (y.why,y.ea)))∧(y5.why≠0→y.why=y5.why∧y.ea=y5.ea)
theorem CdX.first {y5 y:Xs} {cd:Cd} (ht:tkF T y5.i=some [105,102]) (h0:y5.why=0) (h:ResX { y5 with i:=y5.i+1 } y (pcondF T fin { y5.ps with i:=y5.i+1 }) (fun v=>v=cd)):CdX T fin y5 y [cd] (T.length+1):=by
 have hc:=h.1 h0;refine ⟨fun _=>⟨fun hy=>?_,fun hy=>?_⟩,fun q=>absurd h0 q⟩
 ·refine ⟨by omega,?_⟩;unfold ifF;rw [show y5.ps.i=y5.i from rfl,if_pos ht]
  cases hp:pcondF T fin { y5.ps with i:=y5.i+1 } with
  | error e=>rw [hp] at hc;exact absurd (hc.1 ▸ hy) (pcondF_err hp)
  | ok v =>
   obtain ⟨v,s⟩:=v;rw [hp] at hc;obtain ⟨_,rfl,rfl⟩:=hc;rfl
 ·unfold ifF;rw [show y5.ps.i=y5.i from rfl,if_pos ht]
  cases hp:pcondF T fin { y5.ps with i:=y5.i+1 } with
  | error e=>rw [hp] at hc;dsimp only;rw [hc.1,hc.2]
  | ok v=>rw [hp] at hc;exact absurd hc.1 hy
theorem CdX.more {y5 y y':Xs} {cs:List Cd} {cd:Cd} {f:Nat} (hl:CdX T fin y5 y cs f) (ht:tkF T y.i=some [44]) (h0:y.why=0) (hi:y.i<T.length) (h:ResX { y with i:=y.i+1 } y' (pcondF T fin { y.ps with i:=y.i+1 }) (fun v=>v=cd)) (hy':y.i+1≤y'.i):0<f∧CdX T fin y5 y' (cs++[cd]) (f - 1):=by
 have hc:=h.1 h0
 have h5:y5.why=0:=by
  by_cases q:y5.why=0
  ·exact q
  ·exact absurd ((hl.2 q).1 ▸ h0) q
 obtain ⟨hf,he⟩:=(hl.1 h5).1 h0
 match f with
 | 0=>omega
 | f+1 =>
 refine ⟨by omega,fun _=>?_,fun q=>absurd h5 q⟩;rw [he,condsF_succ];rw [show y.ps.i=y.i from rfl,if_pos ht];refine ⟨fun hy=>?_,fun hy=>?_⟩
 ·cases hp:pcondF T fin { y.ps with i:=y.i+1 } with
  | error e=>rw [hp] at hc;exact absurd (hc.1 ▸ hy) (pcondF_err hp)
  | ok v =>
   obtain ⟨v,s⟩:=v;rw [hp] at hc;obtain ⟨_,rfl,rfl⟩:=hc;refine ⟨by show T.length<f+1 - 1+y'.i;omega,?_⟩;dsimp only;rw [show f+1 - 1=f from rfl]
   cases condsF T fin f y'.ps with
   | error e=>rfl
   | ok v=>obtain ⟨l,z⟩:=v;simp
 ·cases hp:pcondF T fin { y.ps with i:=y.i+1 } with
  | error e=>rw [hp] at hc;dsimp only;rw [hc.1,hc.2]
  | ok v=>rw [hp] at hc;exact absurd hc.1 hy
theorem CdX.done {y5 y:Xs} {cs:List Cd} {f:Nat} (hl:CdX T fin y5 y cs f) (hD:(y.why==0&&decide (tkF T y.i=some [44]))=false):ResX y5 y (ifF T fin (T.length+1) y5.ps) (fun v=>v=cs):=by
 refine ⟨fun h5=>?_,hl.2⟩;by_cases h0:y.why=0
 ·have he:=((hl.1 h5).1 h0).2;have ht:¬tkF T y.i=some [44]:=by simpa [h0] using hD
  have hc:condsF T fin f y.ps=.ok ([],y.ps):=by
   cases f with
   | zero=>rfl
   | succ f=>rw [condsF_succ,show y.ps.i=y.i from rfl,if_neg ht]
  rw [hc] at he;rw [he];exact ⟨h0,rfl,by simp⟩
 ·rw [(hl.1 h5).2 h0];exact ⟨rfl,rfl⟩
theorem ifX_none {y:Xs} (hD:(y.why==0&&decide (tkF T y.i=some [105,102]))=false):ResX y y (ifF T fin (T.length+1) y.ps) (fun v=>v=[]):=by
 refine ⟨fun h0=>?_,fun _=>⟨rfl,rfl⟩⟩;have ht:¬tkF T y.i=some [105,102]:=by simpa [h0] using hD
 unfold ifF;rw [show y.ps.i=y.i from rfl,if_neg ht];exact ⟨h0,rfl,rfl⟩
def ruleN (T:List (Bs×Nat)) (fin:Nat) (x:PS):Except Er (Rl×PS):=match tkF T x.i with
 | none=>.error (serr T fin x.i)
 | some s=>rg2 T fin s ⟨x.i+1,[],[]⟩
theorem ruleX_fin {x x0 y1 y3 y5 y6:Xs} {s:Bs} {l r:Pt} {cs:List Cd} (h0:x0={ x with vs:=[],ms:=[] }) (hs:nxS T x0=s) (h1:nxY T fin x0=y1)
  (h3:ResX (exY T fin [58] y1) y3 (termF T fin true (T.length+1) (exY T fin [58] y1).ps) (fun v=>v=l))
  (h5:ResX (exY T fin [61,62] y3) y5 (termF T fin false (T.length+1) (exY T fin [61,62] y3).ps) (fun v=>v=r))
  (h6:ResX y5 y6 (ifF T fin (T.length+1) y5.ps) (fun v=>v=cs)) :
  ResX x (exY T fin [59] y6) (ruleN T fin x.ps) (fun v=>v=⟨⟨s.toArray⟩,l,r,cs,(exY T fin [59] y6).vs.length,(exY T fin [59] y6).ms.length⟩):=by
 have k7:ResX y6 (exY T fin [59] y6) (rg7 T fin s l r cs y6.ps) (fun v=>v=⟨⟨s.toArray⟩,l,r,cs,(exY T fin [59] y6).vs.length,(exY T fin [59] y6).ms.length⟩):=by
  unfold rg7;exact ResX.ebind ⟨fun h=>⟨h,rfl,rfl⟩,fun _=>⟨rfl,rfl⟩⟩
 have k6:=ResX.bind (g:=fun q z=>rg7 T fin s l r q z) h6 (fun e=>ifF_err) k7;have k5:=ResX.bind (g:=fun q z=>rg6 T fin s l q z) h5 (fun e=>termF_err _ _ e) k6;have k4:=ResX.ebind (g:=fun u=>rg5 T fin s l u) k5;have k3:=ResX.bind (g:=fun q z=>rg4 T fin s q z) h3 (fun e=>termF_err _ _ e) k4;have k2:=ResX.ebind (g:=fun u=>rg3 T fin s u) k3
 change ResX y1 _ (rg2 T fin s y1.ps) _ at k2
 unfold ruleN;rw [show x.ps.i=x.i from rfl];have ey:x0.why=x.why∧x0.ea=x.ea∧x0.i=x.i:=by subst h0;exact ⟨rfl,rfl,rfl⟩
 by_cases hw:x.why=0
 ·by_cases q:x.i<T.length
  ·obtain ⟨t,ht⟩:=tk_some q;obtain ⟨e1,e2,_⟩:=nx_some (fin:=fin) (x:=x0) (ey.1.trans hw) (by rw [ey.2.2];exact ht);rw [ht];rw [e1] at hs;subst hs;rw [e2] at h1;have e3:y1.ps=⟨x.i+1,[],[]⟩:=by rw [←h1,h0];rfl
   rw [e3] at k2;exact ⟨fun _=>k2.1 (by rw [←h1];exact ey.1.trans hw),fun q=>absurd hw q⟩
  ·obtain ⟨_,e2⟩:=nx_none (T:=T) (fin:=fin) (x:=x0) (fun r=>q (by rw [←ey.2.2];exact r.2));rw [e2,xfail_zero (ey.1.trans hw)] at h1;rw [tk_none q];refine ⟨fun _=>?_,fun q=>absurd hw q⟩;have h2:=k2.2 (by rw [←h1];show (2:Int)≠0;decide);rw [←h1] at h2;rw [ey.2.2] at h2;exact h2
 ·obtain ⟨_,e2⟩:=nx_none (T:=T) (fin:=fin) (x:=x0) (fun r=>hw (ey.1 ▸ r.1));rw [e2,xfail_why (by rw [ey.1];exact hw)] at h1;rw [←h1] at k2;refine ⟨fun q=>absurd q hw,fun _=>?_⟩;have h2:=k2.2 (by rw [ey.1];exact hw);exact ⟨h2.1.trans ey.1,h2.2.trans ey.2.1⟩
end
def XRuleP (w:World) (p:Nat) (A:Option Addr) (c:Nat) (T:List (Bs×Nat)) (fin:Nat) (x:Xs) (r:Except Er (Rl×PS)) (e:Ending) (w':World):Prop :=
 ∃(R:Rl) (a:RlA) (y:Xs),e=.returned (rlv R a)∧RlK w' (fun k=>w.heap.size≤k) R a∧XdS w' p A c T fin y∧GoodX T y∧x.i≤y.i∧Upd (·=p) w w'∧RlSz R∧R.name=kstr (nxS T x)∧ResX x y r (fun v=>v=R)
structure XRs (w0 w:World) (p:Nat) (A:Option Addr) (c:Nat) (T:List (Bs×Nat)) (fin:Nat) (y:Xs) (g:Nat) (R:Rl) (a:RlA):Prop where
 xd:XdS w p A c T fin y
 res:Blk w w0.heap.size 41 z14
 rl:Blk w g 41 (rlCells R a)
 cds:CdO w a.ca a.cc R.conds
 cat:∀k,At a.ca k→g<k
 kl:PtK w (fun k=>g<k∧¬At a.ca k) R.l a.la a.lc
 kr:PtK w (fun k=>g<k∧¬At a.ca k) R.r a.ra a.rc
 lt:w0.heap.size<g
 plt:p<w0.heap.size
 upd:Upd (·=p) w0 w
section
variable {w0 w w':World} {p:Nat} {A:Option Addr} {c:Nat} {T:List (Bs×Nat)} {fin:Nat} {y y':Xs} {g:Nat} {R R':Rl} {a a':RlA}
theorem XRs.call (h:XRs w0 w p A c T fin y g R a) (hr:XdS w' p A c T fin y') (u:Upd (·=p) w w'):XRs w0 w' p A c T fin y' g R a:=by
 have h1:=h.lt;have h2:=h.plt;exact ⟨hr,h.res.upd u (by omega),h.rl.upd u (by omega),h.cds.upd u (fun k hk e=>by have:=h.cat k hk;omega),h.cat,PtK.upd u (fun k _ q e=>by have:=q.1;omega) _ _ _ h.kl,PtK.upd u (fun k _ q e=>by have:=q.1;omega) _ _ _ h.kr,h1,h2,h.upd.trans u (fun _ _ e=>e)⟩
theorem XRs.non (h:XRs w0 w p A c T fin y g R a) (u:Upd Non w w'):XRs w0 w' p A c T fin y g R a:=h.call (h.xd.non u) (upd_eq u)
theorem XRs.rule (h:XRs w0 w p A c T fin y g R a) (u:Upd (·=g) w w') (hb:Blk w' g 41 (rlCells R' a')) (e1:a'.ca=a.ca) (e2:a'.cc=a.cc) (e3:R'.conds=R.conds) (kl:PtK w (fun k=>g<k∧¬At a.ca k) R'.l a'.la a'.lc) (kr:PtK w (fun k=>g<k∧¬At a.ca k) R'.r a'.ra a'.rc):XRs w0 w' p A c T fin y g R' a':=by
 have h1:=h.lt;have h2:=h.plt;have hc:=h.cat;refine ⟨h.xd.upd u (fun k _ e=>by omega),h.res.upd u (by omega),hb,?_,?_,?_,?_,h1,h2,h.upd.trans u (fun k hk e=>by omega)⟩
 ·rw [e1,e2,e3];exact h.cds.upd u (fun k hk e=>by have:=hc k hk;omega)
 ·rw [e1];exact hc
 ·rw [e1];exact PtK.upd u (fun k _ q e=>by have:=q.1;omega) _ _ _ kl
 ·rw [e1];exact PtK.upd u (fun k _ q e=>by have:=q.1;omega) _ _ _ kr
theorem XRs.new (h:XRs w0 w p A c T fin y g R a) {q:Pt} {KA:Option Addr} {kc:Nat} (hq:PtK w' (fun k=>w.heap.size≤k) q KA kc):PtK w' (fun k=>g<k∧¬At a.ca k) q KA kc :=
 PtK.mono (fun _ _ r=>⟨Nat.lt_of_lt_of_le h.rl.lt r,fun s=>Nat.lt_irrefl _ (Nat.lt_of_lt_of_le (CdO.lt h.cds s) r)⟩) _ _ _ hq
theorem XRs.app (h:XRs w0 w p A c T fin y g R a) {CA:Option Addr} {cc:Nat} {cd:Cd} (u:Upd (At a.ca) w w') (hc:CdO w' CA cc (R.conds++[cd])) (hat:∀k,At CA k→At a.ca k∨k=w.heap.size) {w'':World} (u2:Upd (·=g) w' w'') (hb:Blk w'' g 41 (rlCells { R with conds:=R.conds++[cd] } { a with ca:=CA,cc:=cc })):XRs w0 w'' p A c T fin y g { R with conds:=R.conds++[cd] } { a with ca:=CA,cc:=cc }:=by
 have h1:=h.lt;have h2:=h.plt;have hcat:=h.cat;have hg:g<w.heap.size:=h.rl.lt;have uu:Upd (fun k=>At a.ca k∨k=g) w w'':=(u.mono (fun _ _ q=>.inl q)).trans (u2.mono (fun _ _ q=>.inr q)) (fun _ _ q=>q)
 have hge:∀k,(At a.ca k∨k=g)→g≤k:=fun k q=>by
  rcases q with q | q
  ·exact Nat.le_of_lt (hcat k q)
  ·omega
 have hcat2:∀k,At CA k→g<k:=fun k q=>by
  rcases hat k q with r | r
  ·exact hcat k r
  ·omega
 have m1:∀k,k<w.heap.size→(g<k∧¬At a.ca k)→(g<k∧¬At a.ca k)∧k<w.heap.size:=fun _ hk r=>⟨r,hk⟩
 have m2:∀k,k<w.heap.size→((g<k∧¬At a.ca k)∧k<w.heap.size)→¬(At a.ca k∨k=g):=fun k _ r e=>by
  rcases e with e | e
  ·exact r.1.2 e
  ·have:=r.1.1;omega
 have m3:∀k,k<w''.heap.size→((g<k∧¬At a.ca k)∧k<w.heap.size)→g<k∧¬At CA k:=fun k _ r=>⟨r.1.1,fun s=>by
  rcases hat k s with s | s
  ·exact r.1.2 s
  ·have:=r.2;omega⟩
 have hpt:∀{q:Pt} {B:Option Addr} {n:Nat},PtK w (fun k=>g<k∧¬At a.ca k) q B n→PtK w'' (fun k=>g<k∧¬At CA k) q B n:=fun hq =>
  PtK.mono m3 _ _ _ (PtK.upd uu m2 _ _ _ (PtK.mono m1 _ _ _ hq))
 refine ⟨h.xd.upd uu (fun k _ e=>by have:=hge k e;omega),h.res.upd uu (fun e=>by have:=hge _ e;omega),hb,?_,hcat2,hpt h.kl,hpt h.kr,h1,h2,h.upd.trans uu (fun k hk e=>by have:=hge k e;omega)⟩
 exact CdO.upd hc u2 (fun k hk e=>by have:=hcat2 k hk;omega)
theorem XRs.fin_ (h:XRs w0 w p A c T fin y g R a) (u:Upd (·=w0.heap.size) w w'):XdS w' p A c T fin y∧RlK w' (fun k=>w0.heap.size≤k) R a∧Upd (·=p) w0 w':=by
 have h1:=h.lt;have h2:=h.plt;refine ⟨h.xd.upd u (fun k _ e=>by omega),⟨?_,?_,?_,?_⟩,h.upd.trans u (fun k hk e=>by omega)⟩
 ·exact PtK.mono (fun k _ q=>by have:=q.1;omega) _ _ _ (PtK.upd u (fun k _ q e=>by have:=q.1;omega) _ _ _ h.kl)
 ·exact PtK.mono (fun k _ q=>by have:=q.1;omega) _ _ _ (PtK.upd u (fun k _ q e=>by have:=q.1;omega) _ _ _ h.kr)
 ·have hc:CdO w' a.ca a.cc R.conds:=h.cds.upd u (fun k hk e=>by have:=h.cat k hk;omega);exact hc.view.mono (fun k _ q=>by have:=h.cat k q;omega)
 ·exact CdO.le h.cds
theorem XdS.setI (h:XdS w p A c T fin y) (n:Nat):XdS (w.setCell ⟨p,1,none⟩ (.int .i64 n)) p A c T fin { y with i:=n }:=by
 refine h.set (updCell _ _ _ _) ?_;have:=h.blk.set_ 1 (.int .i64 n);simpa [xcells] using this
theorem XdS.setLeft (h:XdS w p A c T fin y) (b:Bool):XdS (w.setCell ⟨p,7,none⟩ (.bool b)) p A c T fin { y with left:=b }:=by
 refine h.set (updCell _ _ _ _) ?_;have:=h.blk.set_ 7 (.bool b);simpa [xcells] using this
theorem XdS.clear (h:XdS w p A c T fin y):XdS ((w.setCell ⟨p,5,none⟩ (.string ⟨#[]⟩)).setCell ⟨p,6,none⟩ (.string ⟨#[]⟩)) p A c T fin { y with vs:=[],ms:=[] }:=by
 refine h.set ((updCell w p 5 _).trans (updCell _ p 6 _) (fun _ _ q=>q)) ?_;have:=(h.blk.set_ 5 (.string ⟨#[]⟩)).set_ 6 (.string ⟨#[]⟩);simpa [xcells,kstr] using this
end
theorem ResX.weak {α:Type} {x y:Xs} {r:Except Er (α×PS)} {P Q:α→Prop} (h:ResX x y r P) (k:∀v,P v→Q v):ResX x y r Q:=by
 refine ⟨fun h0=>?_,h.2⟩;have h1:=h.1 h0
 cases r with
 | error e=>exact h1
 | ok v=>exact ⟨h1.1,h1.2.1,k _ h1.2.2⟩
theorem exY_left_set {T:List (Bs×Nat)} {fin:Nat} {s:Bs} {y:Xs} {b:Bool}:exY T fin s { y with left:=b }={ (exY T fin s y) with left:=b }:=by
 unfold exY Xs.fail;dsimp only
 split
 ·rfl
 ·split <;> rfl
set_option maxRecDepth 100000 in
set_option maxHeartbeats 4000000 in
theorem xRule_c {T:List (Bs×Nat)} {fin:Nat} (hT:XOk T) {w:World} {p:Nat} {A:Option Addr} {c:Nat} {x:Xs} (h:XdS w p A c T fin x) (hx:GoodX T x) :
  Calls Tryz.prog 64 #[.pointer (some ⟨p,0,none⟩)] w (XRuleP w p A c T fin x (ruleN T fin x.ps)):=by
 have hTl:=hT.len;have hxi:=hx.1;obtain ⟨r,Hr⟩:=nm (ruleN T fin x.ps);rw [Hr.out];obtain ⟨W1,HW1⟩:=nm (w.alloc (.cells #[.string ⟨#[]⟩,.int .i64 0,.int .i64 0,.int .i64 0,.int .i64 0,.slice none 0 0,.int .i64 0,.int .i64 0,.int .i64 0,.int .i64 0,.slice none 0 0,.slice none 0 0,.int .i64 0,.int .i64 0] 41))
 have u1:Upd Non w W1:=by rw [←HW1.out];exact Upd.refl.alloc _
 have b1:Blk W1 w.heap.size 41 z14:=by rw [←HW1.out];exact Blk.new _ _ _
 have s1:w.heap.size<W1.heap.size:=by rw [←HW1.out];simp
 obtain ⟨W2,HW2⟩:=nm (W1.alloc (.cells #[.string ⟨#[]⟩,.int .i64 0,.int .i64 0,.int .i64 0,.int .i64 0,.slice none 0 0,.int .i64 0,.int .i64 0,.int .i64 0,.int .i64 0,.slice none 0 0,.slice none 0 0,.int .i64 0,.int .i64 0] 41))
 have u2:Upd Non W1 W2:=by rw [←HW2.out];exact Upd.refl.alloc _
 have b2:Blk W2 W1.heap.size 41 (rlCells ⟨⟨#[]⟩,.mk 0 0 0 0 [],.mk 0 0 0 0 [],[],0,0⟩ ⟨none,0,none,0,none,0⟩):=by rw [←HW2.out];exact Blk.new _ _ _
 have hpw:p<w.heap.size:=h.blk.lt
 have HS2:Hid (XRs w W2 p A c T fin x W1.heap.size ⟨⟨#[]⟩,.mk 0 0 0 0 [],.mk 0 0 0 0 [],[],0,0⟩ ⟨none,0,none,0,none,0⟩) :=
  ⟨(h.non u1).non u2,b1.upd u2 (fun f=>f),b2,CdO.none_,fun k q=>(At.none_ q).elim,PtK.leaf,PtK.leaf,s1,hpw,upd_eq (u1.then_non u2)⟩
 have HXT:=h_ hT;have HX:=h_ hx;clear h hx u1 u2 b1 b2;go_enter Tryz.func64,Tryz.ntmps64
 go_upto_region 1 with fail
 rw [HW1.out]
 go_upto_region 2 with fail
 rw [HW2.out];clear HW1 HW2;obtain ⟨c0,c1,c2,c3,c4,c5,c6,c7⟩:=HS2.out.xd.cells;have cf:=HS2.out.xd.blk.frozen;have hcl:=HS2.out.xd.clear;obtain ⟨x0,Hx0⟩:=nm ({ x with vs:=[],ms:=[] }:Xs);rw [Hx0.out] at hcl;obtain ⟨W3,HW3⟩:=nm ((W2.setCell ⟨p,5,none⟩ (.string ⟨#[]⟩)).setCell ⟨p,6,none⟩ (.string ⟨#[]⟩));rw [HW3.out] at hcl;have e3:=HW3.out;have u3:Upd (·=p) W2 W3:=by rw [←e3];exact (updCell _ p 5 _).trans (updCell _ p 6 _) (fun _ _ q=>q)
 have HS3:=h_ (HS2.out.call hcl u3);have hx0i:x0.i=x.i:=by rw [←Hx0.out]
 have HG0:Hid (GoodX T x0):=by rw [←Hx0.out];exact ⟨HX.out.1,Nat.zero_le _,Nat.zero_le _⟩
 have HNM:Hid (nxS T x0=nxS T x):=by rw [←Hx0.out];rfl
 have CN:=h_ (xNext_c HS3.out.xd (by omega))
 have hsl:(nxS T x0).length≤20000:=by
  by_cases q:x0.why=0∧x0.i<T.length
  ·obtain ⟨s,hs⟩:=tk_some q.2;rw [(nx_some (fin:=fin) q.1 hs).1];exact (hT.tk hs).2
  ·rw [(nx_none (fin:=fin) q).1];simp
 have HG1:=h_ (nxY_good (fin:=fin) HG0.out);obtain ⟨s,Hs⟩:=nm (nxS T x0);obtain ⟨y1,Hy1⟩:=nm (nxY T fin x0);rw [Hs.out] at CN hsl HNM;rw [Hy1.out] at CN HG1;clear hcl u3 HW3 c0 c1 c2 c3 c4 c7 HS2;go_wp2_with fail
 refine CN.out.mono ?_;rintro e w4 ⟨rfl,h4,u4⟩;have HS4:=h_ (HS3.out.call h4 u4);have b4:=HS4.out.rl;unfold rlCells at b4;have k0:=b4.cell 0;have kf:=b4.frozen;obtain ⟨W5,HW5⟩:=nm (w4.setCell ⟨W1.heap.size,0,none⟩ (.string (kstr s)));have u5:Upd (·=W1.heap.size) w4 W5:=by rw [←HW5.out];exact updCell _ _ _ _
 have b5:Blk W5 W1.heap.size 41 (rlCells ⟨kstr s,.mk 0 0 0 0 [],.mk 0 0 0 0 [],[],0,0⟩ ⟨none,0,none,0,none,0⟩):=by
  have:=b4.set_ 0 (.string (kstr s));rw [HW5.out] at this;simpa [rlCells] using this
 have HS5:=h_ (HS4.out.rule u5 b5 rfl rfl rfl HS4.out.kl HS4.out.kr);have CE:=h_ (xExpect_c HS5.out.xd [58] (by have:=HG1.out.1.1;omega));clear b4 c5 c6 cf e3 CN h4 u4 u5 b5 HS3
 go_upto_region 5 with fail
 rw [HW5.out];clear k0 kf HS4 HW5;go_wp2_with fail
 refine CE.out.mono ?_;rintro e w6 ⟨rfl,h6,u6⟩;have HS6:=h_ (HS5.out.call h6 u6);have HG2:Hid (GoodX T (exY T fin [58] y1)):=exY_good HG1.out.1;have HI2:Hid (y1.i≤(exY T fin [58] y1).i):=exY_i;clear CE h6 u6 HS5;obtain ⟨c0,c1,c2,c3,c4,c5,c6,c7⟩:=HS6.out.xd.cells;have cf:=HS6.out.xd.blk.frozen;obtain ⟨W7,HW7⟩:=nm (w6.setCell ⟨p,7,none⟩ (.bool true));have e7:=HW7.out
 have HS7:Hid (XRs w W7 p A c T fin { (exY T fin [58] y1) with left:=true } W1.heap.size ⟨kstr s,.mk 0 0 0 0 [],.mk 0 0 0 0 [],[],0,0⟩ ⟨none,0,none,0,none,0⟩):=by
  rw [←e7];exact HS6.out.call (HS6.out.xd.setLeft true) (updCell _ _ _ _)
 have CT:=h_ (xTerm_any hT true T.length HS7.out.xd HG2.out rfl (fun _=>by omega));clear c0 c1 c2 c3 c4 c5 c6 HS6;go_wp2_with fail
 refine CT.out.mono ?_;rintro e w8 ⟨q1,KA1,kc1,y3,rfl,hq,h8,hg8,_,hi8,hz8,u8,hr8⟩;have HS8:=h_ (HS7.out.call h8 u8);have HQ1:=h_ (HS7.out.new hq);have HG4:=h_ hg8;have HI4:Hid ((exY T fin [58] y1).i≤y3.i):=hi8;have HZ1:Hid (q1.size≤20001):=by have:=hg8.1;show _≤_;omega
 have HR3:Hid (ResX (exY T fin [58] y1) y3 (termF T fin true (T.length+1) (exY T fin [58] y1).ps) (fun v=>v=q1)):=ResX.weak hr8 (fun _ q=>q.1);have b8:=HS8.out.rl;unfold rlCells at b8;have k1:=b8.cell 1;have k2:=b8.cell 2;have k3:=b8.cell 3;have k4:=b8.cell 4;have k5:=b8.cell 5;have kf:=b8.frozen;clear c7 cf e7 HW7 CT hq h8 hg8 hi8 hz8 u8 hr8 HS7;unfold pv
 go_upto_region 8 with fail
 rw [setLf_eq];obtain ⟨W9,HW9⟩:=nm (setLf w8 W1.heap.size (.int .i64 q1.v) (.int .i64 q1.op) (.int .i64 q1.imm) (.int .i64 q1.iv) (.slice KA1 q1.kids.length kc1));rw [HW9.out];have u9:Upd (·=W1.heap.size) w8 W9:=by rw [←HW9.out];exact setLf_upd _ _ _ _ _ _ _
 have b9:Blk W9 W1.heap.size 41 (rlCells ⟨kstr s,q1,.mk 0 0 0 0 [],[],0,0⟩ ⟨KA1,kc1,none,0,none,0⟩):=by rw [←HW9.out];exact setLf_blk b8 _ _ _ _ _
 have HS9:=h_ (HS8.out.rule u9 b9 rfl rfl rfl HQ1.out HS8.out.kr);clear b8 k1 k2 k3 k4 k5 kf u9 b9 HW9 HS8 HQ1;obtain ⟨c0,c1,c2,c3,c4,c5,c6,c7⟩:=HS9.out.xd.cells;have cf:=HS9.out.xd.blk.frozen;obtain ⟨W10,HW10⟩:=nm (W9.setCell ⟨p,7,none⟩ (.bool false));have e10:=HW10.out
 have HS10:Hid (XRs w W10 p A c T fin { y3 with left:=false } W1.heap.size ⟨kstr s,q1,.mk 0 0 0 0 [],[],0,0⟩ ⟨KA1,kc1,none,0,none,0⟩):=by
  rw [←e10];exact HS9.out.call (HS9.out.xd.setLeft false) (updCell _ _ _ _)
 have CE:=h_ (xExpect_c HS10.out.xd [61,62] (by have:=HG4.out.1;show y3.i≤_;omega));clear c0 c1 c2 c3 c4 c5 c6 HS9;go_wp2_with fail
 refine CE.out.mono ?_;rintro e w11 ⟨rfl,h11,u11⟩;rw [exY_left_set] at h11;have HS11:=h_ (HS10.out.call h11 u11);have HG5:Hid (GoodX T (exY T fin [61,62] y3)):=exY_good HG4.out;have HI5:Hid (y3.i≤(exY T fin [61,62] y3).i):=exY_i;have CT:=h_ (xTerm_any hT false T.length HS11.out.xd HG5.out rfl (fun _=>by omega));clear CE c7 cf e10 HW10 h11 u11 HS10;go_wp2_with fail
 refine CT.out.mono ?_;rintro e w12 ⟨q2,KA2,kc2,y5,rfl,hq,h12,hg12,hl12,hi12,hz12,u12,hr12⟩;have HS12:=h_ (HS11.out.call h12 u12);have HQ2:=h_ (HS11.out.new hq);have HG7:=h_ hg12;have HL7:Hid (y5.left=false):=hl12;have HI7:Hid ((exY T fin [61,62] y3).i≤y5.i):=hi12;have HZ2:Hid (q2.size≤20001):=by have:=hg12.1;show _≤_;omega
 have HR5:Hid (ResX (exY T fin [61,62] y3) y5 (termF T fin false (T.length+1) (exY T fin [61,62] y3).ps) (fun v=>v=q2)):=ResX.weak hr12 (fun _ q=>q.1)
 have b12:=HS12.out.rl;unfold rlCells at b12;have k6:=b12.cell 6;have k7:=b12.cell 7;have k8:=b12.cell 8;have k9:=b12.cell 9;have k10:=b12.cell 10;have kf:=b12.frozen;clear CT hq h12 hg12 hl12 hi12 hz12 u12 hr12 HS11;unfold pv
 go_upto_region 11 with fail
 rw [setRt_eq];obtain ⟨W13,HW13⟩:=nm (setRt w12 W1.heap.size (.int .i64 q2.v) (.int .i64 q2.op) (.int .i64 q2.imm) (.int .i64 q2.iv) (.slice KA2 q2.kids.length kc2));rw [HW13.out];have u13:Upd (·=W1.heap.size) w12 W13:=by rw [←HW13.out];exact setRt_upd _ _ _ _ _ _ _
 have b13:Blk W13 W1.heap.size 41 (rlCells ⟨kstr s,q1,q2,[],0,0⟩ ⟨KA1,kc1,KA2,kc2,none,0⟩):=by rw [←HW13.out];exact setRt_blk b12 _ _ _ _ _
 have HS13:=h_ (HS12.out.rule u13 b13 rfl rfl rfl HS12.out.kl HQ2.out);have CI:=h_ (xAt_c HS13.out.xd [105,102]);obtain ⟨z,Hz⟩:=nm (y5.why==0&&decide (tkF T y5.i=some [105,102]));rw [Hz.out] at CI;clear b12 k6 k7 k8 k9 k10 kf u13 b13 HW13 HS12 HQ2
 go_upto_if 30 with fail
 refine CI.out.mono ?_;rintro e w14 ⟨rfl,u14⟩;have HS14:=h_ (HS13.out.non u14);clear CI u14 HS13;have HT:=HXT
 go_upto_if 30 with fail
 go_cut [] (fun wx=>∃(CA:Option Addr) (cc:Nat) (cs:List Cd) (y6:Xs),Hid (XRs w wx p A c T fin y6 W1.heap.size ⟨kstr s,q1,q2,cs,0,0⟩ ⟨KA1,kc1,KA2,kc2,CA,cc⟩)∧Hid (GoodX T y6)∧Hid (y5.i≤y6.i)∧Hid (ResX y5 y6 (ifF T fin (T.length+1) y5.ps) (fun v=>v=cs))∧cs.length≤T.length+2)
 case first =>
  cases z with
  | false =>
   go_wp2_with fail
   go_meet
   case rel=>exact ⟨none,0,[],y5,HS14,HG7,Nat.le_refl _,ifX_none Hz.out,Nat.zero_le _⟩
  | true =>
   have hz2:=Hz.out;simp only [Bool.and_eq_true,beq_iff_eq,decide_eq_true_eq] at hz2;have H05:Hid (y5.why=0):=hz2.1;have HTK:Hid (tkF T y5.i=some [105,102]):=hz2.2;have hiT:=xtk_lt hz2.2;obtain ⟨c0,c1,c2,c3,c4,c5,c6,c7⟩:=HS14.out.xd.cells;have cf:=HS14.out.xd.blk.frozen;have hs18:=HS14.out.call (HS14.out.xd.setI (y5.i+1)) (updCell _ _ _ _);have hg18:GoodX T { y5 with i:=y5.i+1 }:=⟨hiT,Nat.le_succ_of_le HG7.out.2.1,Nat.le_succ_of_le HG7.out.2.2⟩;obtain ⟨i,Hi⟩:=nm y5.i;rw [Hi.out] at c1 hiT hs18;rw [show (.int .i64 ((i+1:Nat):Int):Value)=.int .i64 ((i:Int)+1) from rfl] at hs18;obtain ⟨W18,HW18⟩:=nm (w14.setCell ⟨p,1,none⟩ (.int .i64 ((i:Int)+1)));have e18:=HW18.out;rw [e18,←Hi.out] at hs18;have HS18:=h_ hs18;have HG:=h_ hg18;have HL:Hid (({ y5 with i:=y5.i+1 }:Xs).left=false):=HL7.out;clear hz2 c0 c2 c3 c4 c5 c6 c7 hs18 hg18
   go_upto_region 13 with fail
   clear c1 cf e18 HW18;obtain ⟨yy,CA,cc,cs,Hyy,Hcs,HS,HG,HL⟩:∃(yy:Xs) (CA:Option Addr) (cc:Nat) (cs:List Cd),Hid (yy={ y5 with i:=y5.i+1 })∧Hid (cs=[])∧Hid (XRs w W18 p A c T fin yy W1.heap.size ⟨kstr s,q1,q2,cs,0,0⟩ ⟨KA1,kc1,KA2,kc2,CA,cc⟩)∧Hid (GoodX T yy)∧Hid (yy.left=false):=⟨_,none,0,[],rfl,rfl,HS18,HG,HL⟩
   have hcl:cs.length≤100000:=by rw [Hcs.out];exact Nat.zero_le _
   clear HS18 HS14
   go_cut [] (fun wx=>∃(A8:Option Addr) (c8:Nat) (cd:Cd) (y':Xs),Hid (XRs w wx p A c T fin y' W1.heap.size ⟨kstr s,q1,q2,cs++[cd],0,0⟩ ⟨KA1,kc1,KA2,kc2,A8,c8⟩)∧Hid (GoodX T y')∧Hid (y'.left=false)∧Hid (yy.i≤y'.i)∧Hid (ResX yy y' (pcondF T fin yy.ps) (fun v=>v=cd)))
   case first =>
    obtain ⟨wD,HwD⟩:=nm W18.drew;have uD:Upd Non W18 wD:=by rw [←HwD.out];exact Upd.refl.drew
    have HS:=h_ (HS.out.non uD);refine wp_region_held_drew (S:=fun _=>True) (by kernel_rfl) trivial (fun hHeld=>?_);rw [HwD.out];clear uD;refine wpT 0 ?_;(try simp only [y_,z_]);refine wpT 2 ?_;(try simp only [y_,z_]);refine aR_ (rs:=[1,3]) (by kernel_rfl) (by simp) ?_;refine aC_ rfl (fun K hK=>?_) (aC_ rfl (fun K hK=>?_) aN_)
    ·skip;have hbk:=HS.out.rl;unfold rlCells at hbk;have k11:=hbk.cell 11;go_simp;refine hK.out _ _ ?_ (fun hHeld=>?_)
     ·exact trivial
     clear hK K;(try simp only [y_,z_]);clear hbk k11;refine aR_ (rs:=[3]) (by kernel_rfl) (by simp) ?_;refine aC_ rfl (fun K hK=>?_) aN_;go_simp;refine (xCond_c HT.out HS.out.xd HG.out HL.out).mono ?_;rintro e wc6 ⟨cd,y',rfl,hy',hg',hl',hi',hu',hres⟩;have HS:=h_ (HS.out.call hy' hu');have HG2:=h_ hg';have HL2:Hid (y'.left=false):=hl'.trans HL.out;have HI2:Hid (yy.i≤y'.i):=hi';have HRS:=h_ hres;clear hy' hg' hu' hres hl' hi';go_wp2_with fail
     refine hK.out _ _ ?_ (fun hHeld=>?_)
     ·exact trivial
     clear hK K;(try simp only [y_,z_]);refine aR_ (rs:=[4]) (by kernel_rfl) (by simp) ?_;refine aC_ rfl (fun K hK=>?_) aN_;go_simp;have HS:=h_ (HS.out.non (Upd.refl.alloc (.cells #[.int .i64 cd.kind,.int .i64 cd.a,.int .i64 cd.b,.int .i64 cd.n] 102) (S:=Non)));refine hK.out _ _ ?_ (fun hHeld=>?_)
     ·exact trivial
     clear hK K;(try simp only [y_,z_]);refine aR_ (rs:=[5]) (by kernel_rfl) (by simp) ?_;refine aC_ rfl (fun K hK=>?_) aN_;have hko:=HS.out.cds;unfold CdO at hko;refine step_app rfl rfl T_conds rfl hko rfl (Sl.new _ _ _) rfl (by simp [Value.oneCell']) (by simp only [maxLen];omega) (by omega) ?_;intro A8 c8 w8' ho8 hu8 hat8;have hcd:=CdO.of rfl ho8;have hbk:=HS.out.rl.upd hu8 (fun q=>Nat.lt_irrefl _ (HS.out.cat _ q));unfold rlCells at hbk;have k11:=hbk.cell 11;have kf:=hbk.frozen;clear hko ho8;refine hK.out _ _ ?_ (fun hHeld=>?_)
     ·exact trivial
     clear hK K;(try simp only [y_,z_]);refine wpT 6 ?_;(try simp only [y_,z_]);refine aR_ (rs:=[7]) (by kernel_rfl) (by simp) ?_;refine aC_ rfl (fun K hK=>?_) aN_;go_simp;have hb9:=hbk.set_ 11 (.slice A8 (cs++[cd]).length c8);obtain ⟨w9,Hw9⟩:=nm (w8'.setCell ⟨W1.heap.size,11,none⟩ (.slice A8 (cs++[cd]).length c8));have e9:=Hw9.out;rw [e9] at hb9;rw [List.length_append,List.length_singleton] at e9;rw [e9];have u9:Upd (·=W1.heap.size) w8' w9:=by rw [←Hw9.out];exact updCell _ _ _ _
     have HS:=h_ (HS.out.app hu8 hcd hat8 u9 (by simpa [rlCells] using hb9));clear hbk k11 kf hcd hu8 hat8 hb9 u9 Hw9 e9;refine hK.out _ _ ?_ (fun hHeld=>?_)
     ·exact trivial
     clear hK K;(try simp only [y_,z_]);refine aD_ (by kernel_rfl) ?_ _;go_wp2_with fail
     go_meet
     case rel=>exact ⟨A8,c8,cd,y',HS,HG2,HL2,HI2,HRS⟩
    ·skip;go_simp;refine (xCond_c HT.out HS.out.xd HG.out HL.out).mono ?_;rintro e wc6 ⟨cd,y',rfl,hy',hg',hl',hi',hu',hres⟩;have HS:=h_ (HS.out.call hy' hu');have HG2:=h_ hg';have HL2:Hid (y'.left=false):=hl'.trans HL.out;have HI2:Hid (yy.i≤y'.i):=hi';have HRS:=h_ hres;clear hy' hg' hu' hres hl' hi';go_wp2_with fail
     refine hK.out _ _ ?_ (fun hHeld=>?_)
     ·exact trivial
     clear hK K;(try simp only [y_,z_]);have hbk:=HS.out.rl;unfold rlCells at hbk;have k11:=hbk.cell 11;refine wpAnyH_takeM (fun w'=>w'.cell? ⟨W1.heap.size,11,none⟩=some (.slice CA cs.length cc)) (calm_cell _ _) [5,6,7] (i:=1) (v:=?_) rfl (by kernel_rfl) (by kernel_rfl) (by kernel_rfl) (by kernel_rfl) (fun _ _ _ h=>h) (Or.inl ⟨by rfl,?_⟩) (k11) (by assumption) ?_
     rotate_left
     ·intro w hSw;(try dsimp only at hSw);go_simp;try with_reducible rfl
     (try simp only [y_,z_]);clear hbk k11;refine aR_ (rs:=[4]) (by kernel_rfl) (by simp) ?_;refine aC_ rfl (fun K hK=>?_) aN_;go_simp;have HS:=h_ (HS.out.non (Upd.refl.alloc (.cells #[.int .i64 cd.kind,.int .i64 cd.a,.int .i64 cd.b,.int .i64 cd.n] 102) (S:=Non)));refine hK.out _ _ ?_ (fun hHeld=>?_)
     ·exact trivial
     clear hK K;(try simp only [y_,z_]);refine aR_ (rs:=[5]) (by kernel_rfl) (by simp) ?_;refine aC_ rfl (fun K hK=>?_) aN_;have hko:=HS.out.cds;unfold CdO at hko;refine step_app rfl rfl T_conds rfl hko rfl (Sl.new _ _ _) rfl (by simp [Value.oneCell']) (by simp only [maxLen];omega) (by omega) ?_;intro A8 c8 w8' ho8 hu8 hat8;have hcd:=CdO.of rfl ho8;have hbk:=HS.out.rl.upd hu8 (fun q=>Nat.lt_irrefl _ (HS.out.cat _ q));unfold rlCells at hbk;have k11:=hbk.cell 11;have kf:=hbk.frozen;clear hko ho8;refine hK.out _ _ ?_ (fun hHeld=>?_)
     ·exact trivial
     clear hK K;(try simp only [y_,z_]);refine wpT 6 ?_;(try simp only [y_,z_]);refine aR_ (rs:=[7]) (by kernel_rfl) (by simp) ?_;refine aC_ rfl (fun K hK=>?_) aN_;go_simp;have hb9:=hbk.set_ 11 (.slice A8 (cs++[cd]).length c8);obtain ⟨w9,Hw9⟩:=nm (w8'.setCell ⟨W1.heap.size,11,none⟩ (.slice A8 (cs++[cd]).length c8));have e9:=Hw9.out;rw [e9] at hb9;rw [List.length_append,List.length_singleton] at e9;rw [e9];have u9:Upd (·=W1.heap.size) w8' w9:=by rw [←Hw9.out];exact updCell _ _ _ _
     have HS:=h_ (HS.out.app hu8 hcd hat8 u9 (by simpa [rlCells] using hb9));clear hbk k11 kf hcd hu8 hat8 hb9 u9 Hw9 e9;refine hK.out _ _ ?_ (fun hHeld=>?_)
     ·exact trivial
     clear hK K;(try simp only [y_,z_]);refine aD_ (by kernel_rfl) ?_ _;go_wp2_with fail
     go_meet
     case rel=>exact ⟨A8,c8,cd,y',HS,HG2,HL2,HI2,HRS⟩
   case rest =>
    obtain ⟨CB,cb,cd,y6,HS,HG,HL,HI,HRS⟩:=hcut
    have HC:Hid (CdX T fin y5 y6 (cs++[cd]) (T.length+1)):=by
     show CdX T fin y5 y6 (cs++[cd]) (T.length+1);rw [Hcs.out];have h2:=HRS.out;rw [Hyy.out] at h2;exact CdX.first HTK.out H05.out h2
    have HI6:Hid (y5.i≤y6.i):=by have h3:=HI.out;rw [Hyy.out] at h3;exact Nat.le_of_succ_le h3
    have hcb:(cs++[cd]).length+(T.length+1)≤T.length+2:=by rw [Hcs.out];simp;omega
    clear Hyy Hcs HRS hcl HTK H05 HI;go_wp2_with fail
    go_loopg [] (T.length+1) (fun g wr=>∃(fu:Nat) (CB:Option Addr) (cb:Nat) (cs:List Cd) (y:Xs),Hid (g=fu)∧Hid (XRs w wr p A c T fin y W1.heap.size ⟨kstr s,q1,q2,cs,0,0⟩ ⟨KA1,kc1,KA2,kc2,CB,cb⟩)∧Hid (GoodX T y)∧Hid (y.left=false)∧Hid (CdX T fin y5 y cs fu)∧Hid (y5.i≤y.i)∧cs.length+fu≤T.length+2)
    case atStart=>exact ⟨_,CB,cb,cs++[cd],y6,rfl,HS,HG,HL,HC,HI6,hcb⟩
    case round =>
     clear HS HG HL HC hcb HI6;obtain ⟨fu,CA,cc,cs,y,Hfu,HS,HG,HL,HC,HI,hcb⟩:=hrel;have CI:=h_ (xAt_c HS.out.xd [44]);obtain ⟨z,Hz3⟩:=nm (y.why==0&&decide (tkF T y.i=some [44]));rw [Hz3.out] at CI;go_wp2_with fail
     refine CI.out.mono ?_;rintro e wi ⟨rfl,hui⟩;have HSi:=h_ (HS.out.non hui);clear HS CI hui
     cases z with
     | false =>
      go_wp2_with fail
      go_meet
      case rel=>exact ⟨CA,cc,cs,y,HSi,HG,HI,CdX.done HC.out Hz3.out,by omega⟩
     | true =>
      have hz2:=Hz3.out;simp only [Bool.and_eq_true,beq_iff_eq,decide_eq_true_eq] at hz2;have H05:Hid (y.why=0):=hz2.1;have HTK:Hid (tkF T y.i=some [44]):=hz2.2;have hiT:=xtk_lt hz2.2;obtain ⟨c0,c1,c2,c3,c4,c5,c6,c7⟩:=HSi.out.xd.cells;have cf:=HSi.out.xd.blk.frozen;have hs18:=HSi.out.call (HSi.out.xd.setI (y.i+1)) (updCell _ _ _ _);have hg18:GoodX T { y with i:=y.i+1 }:=⟨hiT,Nat.le_succ_of_le HG.out.2.1,Nat.le_succ_of_le HG.out.2.2⟩;have HIT:=h_ hiT;obtain ⟨i,Hi⟩:=nm y.i;rw [Hi.out] at c1 hiT hs18;rw [show (.int .i64 ((i+1:Nat):Int):Value)=.int .i64 ((i:Int)+1) from rfl] at hs18;obtain ⟨W18,HW18⟩:=nm (wi.setCell ⟨p,1,none⟩ (.int .i64 ((i:Int)+1)));have e18:=HW18.out;rw [e18,←Hi.out] at hs18;obtain ⟨yy,Hyy,HS,HG,HL⟩:∃(yy:Xs),Hid (yy={ y with i:=y.i+1 })∧Hid (XRs w W18 p A c T fin yy W1.heap.size ⟨kstr s,q1,q2,cs,0,0⟩ ⟨KA1,kc1,KA2,kc2,CA,cc⟩)∧Hid (GoodX T yy)∧Hid (yy.left=false):=⟨_,rfl,hs18,hg18,HL.out⟩
      have hcl:cs.length≤100002:=by omega
      clear hz2 c0 c2 c3 c4 c5 c6 c7 hs18 hg18 HSi
      go_upto_region 16 with fail
      clear c1 cf e18 HW18;obtain ⟨wD,HwD⟩:=nm W18.drew;have uD:Upd Non W18 wD:=by rw [←HwD.out];exact Upd.refl.drew
      have HS:=h_ (HS.out.non uD);refine wp_region_held_drew (S:=fun _=>True) (by kernel_rfl) trivial (fun hHeld=>?_);rw [HwD.out];clear uD;refine wpT 0 ?_;(try simp only [y_,z_]);refine wpT 2 ?_;(try simp only [y_,z_]);refine aR_ (rs:=[1,3]) (by kernel_rfl) (by simp) ?_;refine aC_ rfl (fun K hK=>?_) (aC_ rfl (fun K hK=>?_) aN_)
      ·skip;have hbk:=HS.out.rl;unfold rlCells at hbk;have k11:=hbk.cell 11;go_simp;refine hK.out _ _ ?_ (fun hHeld=>?_)
       ·exact trivial
       clear hK K;(try simp only [y_,z_]);clear hbk k11;refine aR_ (rs:=[3]) (by kernel_rfl) (by simp) ?_;refine aC_ rfl (fun K hK=>?_) aN_;go_simp;refine (xCond_c HT.out HS.out.xd HG.out HL.out).mono ?_;rintro e wc6 ⟨cd,y',rfl,hy',hg',hl',hi',hu',hres⟩;have HS:=h_ (HS.out.call hy' hu');have HG2:=h_ hg';have HL2:Hid (y'.left=false):=hl'.trans HL.out;have HI2:Hid (yy.i≤y'.i):=hi';have HRS:=h_ hres;clear hy' hg' hu' hres hl' hi';go_wp2_with fail
       refine hK.out _ _ ?_ (fun hHeld=>?_)
       ·exact trivial
       clear hK K;(try simp only [y_,z_]);refine aR_ (rs:=[4]) (by kernel_rfl) (by simp) ?_;refine aC_ rfl (fun K hK=>?_) aN_;go_simp;have HS:=h_ (HS.out.non (Upd.refl.alloc (.cells #[.int .i64 cd.kind,.int .i64 cd.a,.int .i64 cd.b,.int .i64 cd.n] 102) (S:=Non)));refine hK.out _ _ ?_ (fun hHeld=>?_)
       ·exact trivial
       clear hK K;(try simp only [y_,z_]);refine aR_ (rs:=[5]) (by kernel_rfl) (by simp) ?_;refine aC_ rfl (fun K hK=>?_) aN_;have hko:=HS.out.cds;unfold CdO at hko;refine step_app rfl rfl T_conds rfl hko rfl (Sl.new _ _ _) rfl (by simp [Value.oneCell']) (by simp only [maxLen];omega) (by omega) ?_;intro A8 c8 w8' ho8 hu8 hat8;have hcd:=CdO.of rfl ho8;have hbk:=HS.out.rl.upd hu8 (fun q=>Nat.lt_irrefl _ (HS.out.cat _ q));unfold rlCells at hbk;have k11:=hbk.cell 11;have kf:=hbk.frozen;clear hko ho8;refine hK.out _ _ ?_ (fun hHeld=>?_)
       ·exact trivial
       clear hK K;(try simp only [y_,z_]);refine wpT 6 ?_;(try simp only [y_,z_]);refine aR_ (rs:=[7]) (by kernel_rfl) (by simp) ?_;refine aC_ rfl (fun K hK=>?_) aN_;go_simp;have hb9:=hbk.set_ 11 (.slice A8 (cs++[cd]).length c8);obtain ⟨w9,Hw9⟩:=nm (w8'.setCell ⟨W1.heap.size,11,none⟩ (.slice A8 (cs++[cd]).length c8));have e9:=Hw9.out;rw [e9] at hb9;rw [List.length_append,List.length_singleton] at e9;rw [e9];have u9:Upd (·=W1.heap.size) w8' w9:=by rw [←Hw9.out];exact updCell _ _ _ _
       have HS:=h_ (HS.out.app hu8 hcd hat8 u9 (by simpa [rlCells] using hb9));clear hbk k11 kf hcd hu8 hat8 hb9 u9 Hw9 e9;refine hK.out _ _ ?_ (fun hHeld=>?_)
       ·exact trivial
       clear hK K;(try simp only [y_,z_]);refine aD_ (by kernel_rfl) ?_ _
       have HM:Hid (0<fu∧CdX T fin y5 y' (cs++[cd]) (fu - 1)):=by
        have h2:=HRS.out;have h3:=HI2.out;rw [Hyy.out] at h2 h3;exact CdX.more HC.out HTK.out H05.out HIT.out h2 h3
       have hg0:=HM.out.1;have HC2:Hid (CdX T fin y5 y' (cs++[cd]) (fu - 1)):=HM.out.2
       have HI3:Hid (y5.i≤y'.i):=by
        have h3:=HI2.out;rw [Hyy.out] at h3;have h4:=HI.out;exact Nat.le_trans h4 (Nat.le_of_succ_le h3)
       clear HM HRS Hyy HC HTK H05;go_wp2_with fail
       go_roundg (fu - 1)
       case measure=>rw [Hfu.out];omega
       case rel=>exact ⟨fu - 1,A8,c8,cs++[cd],y',rfl,HS,HG2,HL2,HC2,HI3,by rw [List.length_append,List.length_singleton];omega⟩
      ·skip;go_simp;refine (xCond_c HT.out HS.out.xd HG.out HL.out).mono ?_;rintro e wc6 ⟨cd,y',rfl,hy',hg',hl',hi',hu',hres⟩;have HS:=h_ (HS.out.call hy' hu');have HG2:=h_ hg';have HL2:Hid (y'.left=false):=hl'.trans HL.out;have HI2:Hid (yy.i≤y'.i):=hi';have HRS:=h_ hres;clear hy' hg' hu' hres hl' hi';go_wp2_with fail
       refine hK.out _ _ ?_ (fun hHeld=>?_)
       ·exact trivial
       clear hK K;(try simp only [y_,z_]);have hbk:=HS.out.rl;unfold rlCells at hbk;have k11:=hbk.cell 11;refine wpAnyH_takeM (fun w'=>w'.cell? ⟨W1.heap.size,11,none⟩=some (.slice CA cs.length cc)) (calm_cell _ _) [5,6,7] (i:=1) (v:=?_) rfl (by kernel_rfl) (by kernel_rfl) (by kernel_rfl) (by kernel_rfl) (fun _ _ _ h=>h) (Or.inl ⟨by rfl,?_⟩) (k11) (by assumption) ?_
       rotate_left
       ·intro w hSw;(try dsimp only at hSw);go_simp;try with_reducible rfl
       (try simp only [y_,z_]);clear hbk k11;refine aR_ (rs:=[4]) (by kernel_rfl) (by simp) ?_;refine aC_ rfl (fun K hK=>?_) aN_;go_simp;have HS:=h_ (HS.out.non (Upd.refl.alloc (.cells #[.int .i64 cd.kind,.int .i64 cd.a,.int .i64 cd.b,.int .i64 cd.n] 102) (S:=Non)));refine hK.out _ _ ?_ (fun hHeld=>?_)
       ·exact trivial
       clear hK K;(try simp only [y_,z_]);refine aR_ (rs:=[5]) (by kernel_rfl) (by simp) ?_;refine aC_ rfl (fun K hK=>?_) aN_;have hko:=HS.out.cds;unfold CdO at hko;refine step_app rfl rfl T_conds rfl hko rfl (Sl.new _ _ _) rfl (by simp [Value.oneCell']) (by simp only [maxLen];omega) (by omega) ?_;intro A8 c8 w8' ho8 hu8 hat8;have hcd:=CdO.of rfl ho8;have hbk:=HS.out.rl.upd hu8 (fun q=>Nat.lt_irrefl _ (HS.out.cat _ q));unfold rlCells at hbk;have k11:=hbk.cell 11;have kf:=hbk.frozen;clear hko ho8;refine hK.out _ _ ?_ (fun hHeld=>?_)
       ·exact trivial
       clear hK K;(try simp only [y_,z_]);refine wpT 6 ?_;(try simp only [y_,z_]);refine aR_ (rs:=[7]) (by kernel_rfl) (by simp) ?_;refine aC_ rfl (fun K hK=>?_) aN_;go_simp;have hb9:=hbk.set_ 11 (.slice A8 (cs++[cd]).length c8);obtain ⟨w9,Hw9⟩:=nm (w8'.setCell ⟨W1.heap.size,11,none⟩ (.slice A8 (cs++[cd]).length c8));have e9:=Hw9.out;rw [e9] at hb9;rw [List.length_append,List.length_singleton] at e9;rw [e9];have u9:Upd (·=W1.heap.size) w8' w9:=by rw [←Hw9.out];exact updCell _ _ _ _
       have HS:=h_ (HS.out.app hu8 hcd hat8 u9 (by simpa [rlCells] using hb9));clear hbk k11 kf hcd hu8 hat8 hb9 u9 Hw9 e9;refine hK.out _ _ ?_ (fun hHeld=>?_)
       ·exact trivial
       clear hK K;(try simp only [y_,z_]);refine aD_ (by kernel_rfl) ?_ _
       have HM:Hid (0<fu∧CdX T fin y5 y' (cs++[cd]) (fu - 1)):=by
        have h2:=HRS.out;have h3:=HI2.out;rw [Hyy.out] at h2 h3;exact CdX.more HC.out HTK.out H05.out HIT.out h2 h3
       have hg0:=HM.out.1;have HC2:Hid (CdX T fin y5 y' (cs++[cd]) (fu - 1)):=HM.out.2
       have HI3:Hid (y5.i≤y'.i):=by
        have h3:=HI2.out;rw [Hyy.out] at h3;have h4:=HI.out;exact Nat.le_trans h4 (Nat.le_of_succ_le h3)
       clear HM HRS Hyy HC HTK H05;go_wp2_with fail
       go_roundg (fu - 1)
       case measure=>rw [Hfu.out];omega
       case rel=>exact ⟨fu - 1,A8,c8,cs++[cd],y',rfl,HS,HG2,HL2,HC2,HI3,by rw [List.length_append,List.length_singleton];omega⟩
 case rest =>
  clear HG7 HL7 HS14;obtain ⟨CA,cc,cs,y6,HS,HG,HI6,HR6,hcl⟩:=hcut;have CE:=h_ (xExpect_c HS.out.xd [59] (by have:=HG.out.1;omega));go_wp2_with fail
  refine CE.out.mono ?_;rintro e w19 ⟨rfl,h19,u19⟩;have HGE:Hid (GoodX T (exY T fin [59] y6)):=exY_good HG.out;have HIE:Hid (y6.i≤(exY T fin [59] y6).i):=exY_i;have HRU:=h_ (ruleX_fin Hx0.out.symm Hs.out Hy1.out HR3.out HR5.out HR6.out);obtain ⟨yE,HyE⟩:=nm (exY T fin [59] y6);rw [HyE.out] at h19 HGE HIE HRU;have HS19:=h_ (HS.out.call h19 u19);clear CE h19 u19 HS;obtain ⟨c0,c1,c2,c3,c4,c5,c6,c7⟩:=HS19.out.xd.cells;have cf:=HS19.out.xd.blk.frozen;have hvs:(kstr yE.vs).size=yE.vs.length:=kstr_size _;have hms:(kstr yE.ms).size=yE.ms.length:=kstr_size _;obtain ⟨sv,Hsv⟩:=nm (kstr yE.vs);obtain ⟨sm,Hsm⟩:=nm (kstr yE.ms);obtain ⟨vn,Hvn⟩:=nm yE.vs.length;obtain ⟨mn,Hmn⟩:=nm yE.ms.length;rw [Hsv.out] at c5 hvs;rw [Hsm.out] at c6 hms;rw [Hvn.out] at hvs HRU;rw [Hmn.out] at hms HRU;have b19:=HS19.out.rl;unfold rlCells at b19;have k12:=b19.cell 12;have k13:=b19.cell 13;have kf:=b19.frozen;obtain ⟨W20,HW20⟩:=nm ((w19.setCell ⟨W1.heap.size,12,none⟩ (.int .i64 (vn:Nat))).setCell ⟨W1.heap.size,13,none⟩ (.int .i64 (mn:Nat)));have e20:=HW20.out
  have u20:Upd (·=W1.heap.size) w19 W20:=by rw [←HW20.out];exact (updCell _ _ 12 _).trans (updCell _ _ 13 _) (fun _ _ q=>q)
  have b20:Blk W20 W1.heap.size 41 (rlCells ⟨kstr s,q1,q2,cs,vn,mn⟩ ⟨KA1,kc1,KA2,kc2,CA,cc⟩):=by
   have:=(b19.set_ 12 (.int .i64 (vn:Nat))).set_ 13 (.int .i64 (mn:Nat));rw [HW20.out] at this;simpa [rlCells] using this
  have HS20:=h_ (HS19.out.rule u20 b20 rfl rfl rfl HS19.out.kl HS19.out.kr);clear c0 c1 c2 c3 c4 c7 b19 u20 b20 HW20
  go_upto_region 20 with fail
  clear c5 c6 cf k12 k13 kf e20 HS19;have b21:=HS20.out.rl;unfold rlCells at b21;have k0:=b21.cell 0;have k1:=b21.cell 1;have k2:=b21.cell 2;have k3:=b21.cell 3;have k4:=b21.cell 4;have k5:=b21.cell 5;have k6:=b21.cell 6;have k7:=b21.cell 7;have k8:=b21.cell 8;have k9:=b21.cell 9;have k10:=b21.cell 10;have k11:=b21.cell 11;have k12:=b21.cell 12;have k13:=b21.cell 13;have b0:=HS20.out.res;unfold z14 at b0;have z0:=b0.cell 0;have z1:=b0.cell 1;have z2:=b0.cell 2;have z3:=b0.cell 3;have z4:=b0.cell 4;have z5:=b0.cell 5;have z6:=b0.cell 6;have z7:=b0.cell 7;have z8:=b0.cell 8;have z9:=b0.cell 9;have z10:=b0.cell 10;have z11:=b0.cell 11;have z12:=b0.cell 12;have z13:=b0.cell 13;have zf:=b0.frozen;have HB0:=h_ b0;clear b21 b0;go_wp2_with fail
  rw [set14_eq];have u22:=set14_upd W20 w.heap.size (.string (kstr s)) (.int .i64 q1.v) (.int .i64 q1.op) (.int .i64 q1.imm) (.int .i64 q1.iv) (.slice KA1 q1.kids.length kc1) (.int .i64 q2.v) (.int .i64 q2.op) (.int .i64 q2.imm) (.int .i64 q2.iv) (.slice KA2 q2.kids.length kc2) (.slice CA cs.length cc) (.int .i64 (vn:Nat)) (.int .i64 (mn:Nat))
  have HF:=h_ (HS20.out.fin_ u22);refine bodyPost_ret (results_cell_row rfl _ _ w.heap.size 41 _ (0,0) _ rfl (set14_blk HB0.out _ _ _ _ _ _ _ _ _ _ _ _ _ _) Tryz.underlying41 rfl (by kernel_rfl)) rfl ?_
  rw [←Hr.out];refine ⟨⟨kstr s,q1,q2,cs,vn,mn⟩,⟨KA1,kc1,KA2,kc2,CA,cc⟩,yE,rfl,HF.out.2.1,HF.out.1,HGE.out,?_,HF.out.2.2,⟨?_,?_,?_,?_⟩,by rw [←HNM.out],HRU.out⟩
  ·have e1:=HG1.out.2.1;have e2:=HI2.out;have e3:=HI4.out;have e4:=HI5.out;have e5:=HI7.out;have e6:=HI6.out;have e7:=HIE.out;omega
  ·have:=HZ1.out;show q1.size≤_;omega
  ·have:=HZ2.out;show q2.size≤_;omega
  ·show cs.length≤_;omega
  ·show (kstr s).size≤_;rw [kstr_size];omega
def axTx (x:Bs×Bs):Bs:=[114,117,108,101,32]++x.1++[58,32]++x.2++[59]
theorem axiomF_eq (s:Bs):axiomF s=match axL.find? (fun x=>decide (x.1=s)) with
  | none=>none
  | some x=>match parseG (fun _=>none) (axTx x) with
   | .ok [r]=>some r
   | _=>none:=by
 unfold axiomF axText
 cases h:axL.find? (fun x=>decide (x.1=s)) with
 | none=>rfl
 | some x =>
  have:=List.find?_some h;simp only [decide_eq_true_eq] at this;subst this;rfl
def szB (r:Rl):Bool:=decide (r.l.size≤1000000000000)&&decide (r.r.size≤1000000000000)&&decide (r.conds.length≤1000000000000)&&decide (r.name.size≤1000000000000000)
theorem ax_len:axL.all (fun x=>decide (x.1.length≤1000)&&decide (x.2.length≤1000))=true:=by decide +kernel
theorem ax_size {x:Bs×Bs} (h:x∈axL):(kstr x.1).size≤1000∧(kstr x.2).size≤1000:=by
 have h1:=List.all_eq_true.1 ax_len x h;simp only [Bool.and_eq_true,decide_eq_true_eq] at h1;rw [←kx_len,←kx_len,kx_kstr,kx_kstr];exact h1
theorem find_take {x:Bs×Bs} {s:Bs} {l:List (Bs×Bs)} (hn:∀y∈l,¬y.1=s) (hx:x.1=s) (r:List (Bs×Bs)):(l++x::r).find? (fun x=>decide (x.1=s))=some x:=by
 rw [List.find?_append]
 have : l.find? (fun x=>decide (x.1=s))=none:=by
  rw [List.find?_eq_none];intro y hy;simpa using hn y hy
 rw [this,List.find?_cons_of_pos (by simpa using hx)];rfl
def axCs:List Value:=axL.flatMap fun x=>[.string (kstr x.1),.string (kstr x.2)]
theorem axCs_get {i:Nat} (h:i<axL.length):axCs[i * 2]?=some (.string (kstr axL[i].1))∧axCs[i * 2+1]?=some (.string (kstr axL[i].2)):=by
 have : ∀(l:List (Bs×Bs)) (i:Nat) (h:i<l.length),(l.flatMap fun x=>[Value.string (kstr x.1),Value.string (kstr x.2)])[i * 2]?=some (.string (kstr l[i].1))∧(l.flatMap fun x=>[Value.string (kstr x.1),Value.string (kstr x.2)])[i * 2+1]?=some (.string (kstr l[i].2)):=by
  intro l
  induction l with
  | nil=>intro i h;simp at h
  | cons x l ih =>
   intro i h
   cases i with
   | zero=>exact ⟨rfl,rfl⟩
   | succ i =>
    have:=ih i (by simpa using h);rw [show (i+1) * 2=i * 2+1+1 by omega];exact this
 exact this axL i h
end Go.Proofs.YtifhejahbbnkiaaGreat
namespace Go.Proofs.YtifhejahbbnkiaaGreat
open Go.RowKit
end Go.Proofs.YtifhejahbbnkiaaGreat
namespace Go.Proofs.YtifhejahbbnkiaaGreat
open Go.RowKit
def PI (p:Pt):Prop:=∀q∈nodes p,I64 q.imm
structure RlI (R:Rl):Prop where
 l:PI R.l
 r:PI R.r
 c:∀x∈R.conds,I64 x.n
theorem nodes_self (p:Pt):p∈nodes p:=by cases p;simp [nodes]
theorem nodesL_mem {q k:Pt}:∀{ks:List Pt},k∈ks→q∈nodes k→q∈nodesL ks
 | x::ks,hk,hq=>by
  simp only [nodesL,List.mem_append];rcases List.mem_cons.1 hk with rfl | hk
  ·exact .inl hq
  ·exact .inr (nodesL_mem hk hq)
theorem PI.kid {p k:Pt} (h:PI p) (hk:k∈p.kids):PI k:=fun q hq=>h q (by
 cases p
 simp only [nodes,List.mem_cons]
 exact .inr (nodesL_mem hk hq))
theorem oS_ops {op:Int} (h:(oSortsF op).2.2=true):op=1∨(4≤op∧op<32):=by
 rw [←allowed_ok] at h;simp only [allowedF,decide_eq_true_iff] at h;omega
end Go.Proofs.YtifhejahbbnkiaaGreat
namespace Go.Proofs.YtifhejahbbnkiaaGreat
open Go.RowKit
end Go.Proofs.YtifhejahbbnkiaaGreat
