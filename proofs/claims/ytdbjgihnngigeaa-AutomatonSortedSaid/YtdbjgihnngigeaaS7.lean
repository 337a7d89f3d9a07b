/-
  Lemmas and walks that the claim rests on, part 7 (packed by a program).
-/
import Derived.Test.YtdbjgihnngigeaaS4
import Derived.Test.YtdbjgihnngigeaaS6
import Derived.Test.YtdbjgihnngigeaaS1
import Derived.Test.YtdbjgihnngigeaaRows
import Derived.ProofKit
import Derived.OpenShut
import Derived.SizedLaws
namespace Go.Proofs.Ytdbjgihnngigeaa
open Go.RowKit
def frO (op:Int) (n:Nat):List Bool:=if isG op then true::List.replicate (n - 1) false else List.replicate n false
mutual
def frP:Pt→List Bool
 | .mk v op _ _ kids=>if 0<v then [] else frO op (ownN op kids)++frL kids
def frL:List Pt→List Bool
 | []=>[]
 | k::ks=>frP k++frL ks
end
theorem frP_iff (p:Pt):frP p=if 0<p.v then [] else frO p.op (ownN p.op p.kids)++frL p.kids:=by
 obtain ⟨v,op,imm,iv,kids⟩:=p;rw [frP];rfl
theorem frL_app:∀l m:List Pt,frL (l++m)=frL l++frL m
 | [],_=>rfl
 | q::qs,m=>by rw [List.cons_append,frL,frL,frL_app qs m,List.append_assoc]
theorem frO_len {op:Int} {kids:List Pt}:(frO op (ownN op kids)).length=ownN op kids:=by
 unfold frO
 split
 ·rename_i h
  have h2:ownN op kids=2:=by
   have h1:=h;unfold isG at h1;have h1:=of_decide_eq_true h1;unfold ownN;rw [if_neg (by omega),if_neg (by omega),if_pos h]
  rw [List.length_cons,List.length_replicate,h2]
 ·rw [List.length_replicate]
theorem frP_len (p:Pt):(frP p).length=bN p:=by
 induction p using Pt.ind with
 | h p ih =>
  rw [frP_iff,bN_iff]
  split
  ·rfl
  ·rw [List.length_append,frO_len]
   congr 1
   have : ∀l:List Pt,(∀q∈l,(frP q).length=bN q)→(frL l).length=bL l:=by
    intro l
    induction l with
    | nil=>intro _;rfl
    | cons q qs h=>intro hq;rw [frL,List.length_append,hq q (by simp),h (fun x hx=>hq x (by simp [hx]))];rfl
   exact this _ ih
theorem frL_len:∀l:List Pt,(frL l).length=bL l
 | []=>rfl
 | q::qs=>by rw [frL,List.length_append,frP_len,frL_len qs];rfl
def selK (op:Int) (kids:List Pt) (j:Nat):List Pt:=if op=12 then kids.take (min j 1) else kids.take j
theorem selK_all {p:Pt} (hw:WfP 64 p) (hv:¬0<p.v) (hs:supO p.op p.kids=true):iL (selK p.op p.kids p.kids.length)=iL p.kids∧frL (selK p.op p.kids p.kids.length)=frL p.kids:=by
 have hw':=(WfP.iff 64 p).1 hw;unfold selK;by_cases h12:p.op=12
 ·have h2:p.kids.length=2:=by rw [hw'.2.2.1 (by omega),h12];rfl
  obtain ⟨k0,k1,ek⟩:∃k0 k1,p.kids=[k0,k1]:=by
   match p.kids,h2 with
   | [x,y],_=>exact ⟨x,y,rfl⟩
  have ho:k1.op=1:=by
   have:=hs;unfold supO at this;have:=of_decide_eq_true this;rw [h12,ek] at this;simp [kid] at this;omega
  have w1:=(WfP.iff 64 k1).1 (hw'.2.2.2 k1 (by rw [ek];simp))
  have hz1:iP k1=[]∧frP k1=[]:=by
   rw [iP_iff,frP_iff];by_cases hv1:0<k1.v
   ·rw [if_pos hv1,if_pos hv1];exact ⟨rfl,rfl⟩
   ·have hk0:k1.kids=[]:=List.length_eq_zero_iff.1 (by rw [w1.2.2.1 (by omega),ho];rfl);rw [if_neg hv1,if_neg hv1,hk0,ho];exact ⟨rfl,rfl⟩
  rw [if_pos h12,ek];simp [iL,frL,hz1.1,hz1.2]
 ·rw [if_neg h12,List.take_length];exact ⟨rfl,rfl⟩
theorem selK_succ {op:Int} {kids:List Pt} {j:Nat} (hj:j<kids.length) (h:op≠12∨j=0):selK op kids (j+1)=selK op kids j++[kids[j]]:=by
 unfold selK;by_cases h12:op=12
 ·have : j=0:=by rcases h with h | h;exact absurd h12 h;exact h
  subst this;rw [if_pos h12,if_pos h12];simpa using List.take_succ_eq_append_getElem hj
 ·rw [if_neg h12,if_neg h12];exact List.take_succ_eq_append_getElem hj
theorem selK_skip {op:Int} {kids:List Pt} {j:Nat} (h:op=12) (h0:j≠0):selK op kids (j+1)=selK op kids j:=by
 unfold selK;rw [if_pos h,if_pos h]
 congr 1
 omega
def bls (l:List Bool):List Value:=l.map .bool
theorem bls_len (l:List Bool):(bls l).length=l.length:=List.length_map _
theorem T_bls:SlT Try.prog 78 4 1 1:=by
 obtain ⟨i,h1,h2,h3,h4⟩:=info_parts (show (Try.prog.info? 4).map (fun i=>(i.zero,i.size,i.bytes))=some (some (.bool false),1,1) from by kernel_rfl)
 exact ⟨Try.underlying78,⟨i,_,h1,h2,h3,h4,rfl⟩,by omega⟩
def BF (w:World) (A:Option Addr) (c:Nat) (N:List Bool) (B:Option Addr) (d:Nat) (G:List Bool):Prop :=
 Own w 5 1 A N.length c (b8s N)∧Own w 4 1 B G.length d (bls G)
theorem BF.upd {w w':World} {S:Nat→Prop} {A B:Option Addr} {c d:Nat} {N G:List Bool} (h:BF w A c N B d G) (u:Upd S w w') (hA:∀k,At A k→¬S k) (hB:∀k,At B k→¬S k):BF w' A c N B d G:=⟨h.1.upd u hA,h.2.upd u hB⟩
def RInP (w:World) (A B:Option Addr) (N G:List Bool) (e:Ending) (w':World):Prop :=
 ∃(A':Option Addr) (c':Nat) (B':Option Addr) (d':Nat),e=.returned (.tuple #[.slice A' N.length c',.slice B' G.length d'])∧BF w' A' c' N B' d' G ∧
  (∀k,At A' k→At A k∨w.heap.size≤k)∧(∀k,At B' k→At B k∨w.heap.size≤k)∧Upd (fun k=>At A k∨At B k) w w'
def RInQ (W:World) (A B:Option Addr) (N G:List Bool) (s1 s2:Value) (wx:World):Prop :=
 ∃(A1:Option Addr) (c1:Nat) (B1:Option Addr) (d1:Nat),s1=.slice A1 N.length c1∧s2=.slice B1 G.length d1∧BF wx A1 c1 N B1 d1 G∧(∀k,At A1 k→At A k∨W.heap.size≤k)∧(∀k,At B1 k→At B k∨W.heap.size≤k)∧Upd (fun k=>At A k∨At B k) W wx
theorem own_two {w:World} {A B:Option Addr} {n c m d:Nat} {cs ds:List Value} (hA:Own w 5 1 A n c cs) (hB:Own w 4 1 B m d ds) (k:Nat) (h:At A k):¬At B k:=by
 intro h2;rcases hB.cases with ⟨rfl,_⟩ | ⟨g,cur,rfl,hb,_⟩
 ·exact At.none_ h2
 ·rw [At.some_] at h2;subst h2;exact hA.ne_blk hb (by decide) h
theorem BF.step {W w2 w3 w4 w5:World} {A B A3 B5:Option Addr} {c d c3 d5 n g m:Nat} {N G o f:List Bool} (h:BF W A c N B d G) (hn:N.length=n) (hg:G.length=g) (ho:o.length=m) (hf:f.length=m)
  (u2:Upd Non W w2) (ho3:Own w3 5 1 A3 (n+m) c3 (b8s N++b8s o)) (hu3:Upd (At A) w2 w3) (ha3:∀k,At A3 k→At A k∨k=w2.heap.size)
  (u4:Upd Non w3 w4) (ho5:Own w5 4 1 B5 (g+m) d5 (bls G++bls f)) (hu5:Upd (At B) w4 w5) (hb5:∀k,At B5 k→At B k∨k=w4.heap.size):RInQ W A B (N++o) (G++f) (.slice A3 (n+m) c3) (.slice B5 (g+m) d5) w5:=by
 have hBlt:∀k,At B k→k<W.heap.size:=fun k h'=>h.2.lt h'
 have s2:=u2.size;have s3:=hu3.size;have s4:=u4.size
 have h3:∀k,At A3 k→¬At B k:=fun k hk hB=>by
  rcases ha3 k hk with q | q
  ·exact own_two h.1 h.2 k q hB
  ·have:=hBlt k hB;omega
 refine ⟨A3,c3,B5,d5,by rw [List.length_append,hn,ho],by rw [List.length_append,hg,hf],⟨?_,?_⟩,fun k hk=>?_,fun k hk=>?_,?_⟩
 ·have:=(ho3.upd u4 (fun _ _ f=>f)).upd hu5 h3;rw [List.length_append,hn,ho,show b8s (N++o)=b8s N++b8s o from List.map_append];exact this
 ·rw [List.length_append,hg,hf,show bls (G++f)=bls G++bls f from List.map_append];exact ho5
 ·rcases ha3 k hk with q | q
  ·exact .inl q
  ·exact .inr (by omega)
 ·rcases hb5 k hk with q | q
  ·exact .inl q
  ·exact .inr (by omega)
 ·exact (((u2.mono (fun _ _ f=>f.elim)).trans hu3 (fun _ _ q=>.inl q)).then_non u4).trans hu5 (fun _ _ q=>.inr q)
theorem RInP.same {w w':World} {A B:Option Addr} {c d:Nat} {N G N' G':List Bool} {n g:Nat} (hN:N'=N) (hG:G'=G) (hn:N.length=n) (hg:G.length=g) (h:BF w A c N B d G) (u:Upd Non w w'):RInP w A B N' G' (.returned (.tuple #[.slice A n c,.slice B g d])) w':=by
 subst hN hG hn hg;exact ⟨A,c,B,d,rfl,h.upd u (fun _ _ f=>f) (fun _ _ f=>f),fun _ h=>.inl h,fun _ h=>.inl h,u.mono (fun _ _ f=>f.elim)⟩
set_option maxRecDepth 100000 in
set_option maxHeartbeats 16000000 in
theorem rInit_c (p:Pt):∀(w:World) (F:Nat→Prop) (KA:Option Addr) (kc:Nat) (A:Option Addr) (c:Nat) (B:Option Addr) (d:Nat) (N G:List Bool),supF p=true→WfP 64 p→PtK w F p KA kc→(∀k,F k→¬At A k∧¬At B k)→BF w A c N B d G→N.length+bN p≤1000000→G.length+bN p≤1000000 →
  Calls Try.prog 29 #[pv p KA kc,.slice A N.length c,.slice B G.length d] w fun e w'=>RInP w A B (N++iP p) (G++frP p) e w':=by
 induction p using Pt.ind with
 | h p ih =>
  intro w F KA kc A c B d N G hs hw hp0 hF0 hB0 hn hg;have hp1:=PtK.mono (G:=fun k=>F k∧k<w.heap.size) (fun k hk h=>⟨h,hk⟩) p KA kc hp0;obtain ⟨W,HW⟩:=nm (w.alloc (.cells #[.int .i64 p.v,.int .i64 p.op,.int .i64 p.imm,.int .i64 p.iv,.slice KA p.kids.length kc] 24));have hU:Upd Non w W:=by rw [←HW.out];exact Upd.refl.alloc _
  have hb:Blk W w.heap.size 24 #[.int .i64 p.v,.int .i64 p.op,.int .i64 p.imm,.int .i64 p.iv,.slice KA p.kids.length kc]:=by rw [←HW.out];exact Blk.new _ _ _
  have e0:=HW.out;have hpW:=PtK.upd hU (fun _ _ _ f=>f) p KA kc hp1;have hAlt:∀k,At A k→k<w.heap.size:=fun k h=>hB0.1.lt h
  have hBlt:∀k,At B k→k<w.heap.size:=fun k h=>hB0.2.lt h
  have HB0:=h_ hB0;have HBW:=h_ (hB0.upd hU (fun _ _ f=>f) (fun _ _ f=>f));have HF0:=h_ hF0;have HAL:=h_ hAlt;have HBL:=h_ hBlt;have HI:=h_ ih;have HWF:=h_ ((WfP.iff 64 p).1 hw);have HW1:=h_ hw;have HUW:=h_ hU;have HPW:=h_ hpW;obtain ⟨n,Hn⟩:=nm N.length;obtain ⟨g,Hg⟩:=nm G.length;rw [Hn.out,Hg.out];rw [Hn.out] at hn;rw [Hg.out] at hg;have c0:=hb.cell 0;have c1:=hb.cell 1;have HB:=h_ hb;have HSF:=h_ hs;clear ih hp0 hF0 hB0 hp1 hAlt hBlt hU hpW hw hs hb;unfold pv;by_cases hv:0<p.v
  ·have HP:Hid (RInP w A B (N++iP p) (G++frP p) (.returned (.tuple #[.slice A n c,.slice B g d])) W):=RInP.same (by rw [iP_iff,if_pos hv,List.append_nil]) (by rw [frP_iff,if_pos hv,List.append_nil]) Hn.out Hg.out HB0.out HUW.out
   obtain ⟨v,Hv⟩:=nm p.v;rw [Hv.out] at c0 e0 ⊢;have tv:decide (0<v)=true:=dT_ (by rw [←Hv.out];exact hv);clear hv;go_enter Try.func29,Try.ntmps29;go_wp2_with fail
   refine bodyPost_ret (results_tmp2 rfl _ _ _) rfl ?_;exact HP.out
  ·have hs1:supO p.op p.kids=true:=by have:=HSF.out;rw [supF_op hv,Bool.and_eq_true] at this;exact this.1
   obtain ⟨own,Hown⟩:=nm (ownN p.op p.kids);obtain ⟨o0,Ho0⟩:=nm (inO p.op own false);obtain ⟨f0,Hf0⟩:=nm (frO p.op own);have HIP:Hid (iP p=o0++iL p.kids):=by show _=_;rw [iP_iff,if_neg hv,Hown.out,Ho0.out]
   have HFP:Hid (frP p=f0++frL p.kids):=by show _=_;rw [frP_iff,if_neg hv,Hown.out,Hf0.out]
   have HBN:Hid (bN p=own+bL p.kids):=by show _=_;rw [bN_iff,if_neg hv,Hown.out]
   have HSEL:=h_ (selK_all HW1.out hv hs1);have hn0:n+own≤1000000:=by have:=HBN.out;omega
   have hg0:g+own≤1000000:=by have:=HBN.out;omega
   obtain ⟨v,Hv⟩:=nm p.v;have HV:=h_ hv;rw [Hv.out] at c0 e0 ⊢;have tv:decide (0<v)=false:=dF_ (by rw [←Hv.out];exact hv);by_cases h1:p.op=1
   ·have hk0:p.kids=[]:=List.length_eq_zero_iff.1 (by rw [HWF.out.2.2.1 (by have:=HWF.out.1;omega),h1];rfl);have ho:own=0:=by rw [←Hown.out,h1];rfl
    have HP:Hid (RInP w A B (N++iP p) (G++frP p) (.returned (.tuple #[.slice A n c,.slice B g d])) W):=RInP.same (by rw [HIP.out,←Ho0.out,ho,h1,hk0];simp [inO,iL,isG]) (by rw [HFP.out,←Hf0.out,ho,h1,hk0];simp [frO,frL,isG]) Hn.out Hg.out HB0.out HUW.out
    rw [h1] at c1;clear hv h1 hk0 ho;go_enter Try.func29,Try.ntmps29;go_wp2_with fail
    refine bodyPost_ret (results_tmp2 rfl _ _ _) rfl ?_;exact HP.out
   ·have t1:(p.op==1)=false:=by simpa using h1
    have hops:=supO_ops hs1;obtain ⟨op,Hop⟩:=nm p.op;rw [Hop.out] at c1 e0 t1 hops Hown Ho0 Hf0;rw [Hop.out];go_enter Try.func29,Try.ntmps29;rw [HBN.out] at hn hg;have HN:=h_ hn;have HG:=h_ hg;clear hn hg h1
    go_upto_block 0 with fail
    go_cut [1,2] (fun s1 s2 wx=>RInQ W A B (N++o0) (G++f0) s1 s2 wx)
    case first =>
     have hA:=HBW.out.1;have hB:=HBW.out.2;rw [Hn.out] at hA;rw [Hg.out] at hB;rcases hops with e | e | e | e | e | e | e | e | e | e | e | e | e | e | e
     ·subst e;simp at t1
     ·subst e;obtain rfl:own=1:=by rw [←Hown.out];rfl
      have ho:o0=[false]:=by rw [←Ho0.out];rfl
      have hf:f0=[false]:=by rw [←Hf0.out];rfl
      subst ho hf
      go_upto_region 7 with (at_builtin;refine wpList_app rfl rfl T_u8s rfl (hA.alloc _) rfl (Sl.new _ _ _) rfl (by simp [Value.oneCell']) (by simp only [maxLen];omega) (by omega) ?_;intro A3 c3 w3 ho3 hu3 hat3)
      have hB3:=(hB.alloc _).upd hu3 (fun k hk hA'=>own_two HBW.out.1 HBW.out.2 k hA' hk)
      go_wp2_with (at_builtin;refine wpList_app rfl rfl T_bls rfl (hB3.alloc _) rfl (Sl.new _ _ _) rfl (by simp [Value.oneCell']) (by simp only [maxLen];omega) (by omega) ?_;intro B5 d5 w5 ho5 hu5 hat5)
      go_meet
      case rel=>exact BF.step HBW.out Hn.out Hg.out rfl rfl (Upd.refl.alloc _) ho3 hu3 hat3 (Upd.refl.alloc _) ho5 hu5 hat5
     ·subst e;obtain rfl:own=1:=by rw [←Hown.out];rfl
      have ho:o0=[false]:=by rw [←Ho0.out];rfl
      have hf:f0=[false]:=by rw [←Hf0.out];rfl
      subst ho hf
      go_upto_region 7 with (at_builtin;refine wpList_app rfl rfl T_u8s rfl (hA.alloc _) rfl (Sl.new _ _ _) rfl (by simp [Value.oneCell']) (by simp only [maxLen];omega) (by omega) ?_;intro A3 c3 w3 ho3 hu3 hat3)
      have hB3:=(hB.alloc _).upd hu3 (fun k hk hA'=>own_two HBW.out.1 HBW.out.2 k hA' hk)
      go_wp2_with (at_builtin;refine wpList_app rfl rfl T_bls rfl (hB3.alloc _) rfl (Sl.new _ _ _) rfl (by simp [Value.oneCell']) (by simp only [maxLen];omega) (by omega) ?_;intro B5 d5 w5 ho5 hu5 hat5)
      go_meet
      case rel=>exact BF.step HBW.out Hn.out Hg.out rfl rfl (Upd.refl.alloc _) ho3 hu3 hat3 (Upd.refl.alloc _) ho5 hu5 hat5
     ·subst e;have ho:o0=[]:=by rw [←Ho0.out,←Hown.out];rfl
      have hf:f0=[]:=by rw [←Hf0.out,←Hown.out];rfl
      subst ho hf;go_wp2_with fail
      go_meet
      case rel =>
       rw [List.append_nil,List.append_nil];exact ⟨A,c,B,d,by rw [Hn.out],by rw [Hg.out],HBW.out,fun _ h=>.inl h,fun _ h=>.inl h,Upd.refl⟩
     ·subst e;have ho:o0=[]:=by rw [←Ho0.out,←Hown.out];rfl
      have hf:f0=[]:=by rw [←Hf0.out,←Hown.out];rfl
      subst ho hf;go_wp2_with fail
      go_meet
      case rel =>
       rw [List.append_nil,List.append_nil];exact ⟨A,c,B,d,by rw [Hn.out],by rw [Hg.out],HBW.out,fun _ h=>.inl h,fun _ h=>.inl h,Upd.refl⟩
     ·subst e;have ho:o0=[]:=by rw [←Ho0.out,←Hown.out];rfl
      have hf:f0=[]:=by rw [←Hf0.out,←Hown.out];rfl
      subst ho hf;go_wp2_with fail
      go_meet
      case rel =>
       rw [List.append_nil,List.append_nil];exact ⟨A,c,B,d,by rw [Hn.out],by rw [Hg.out],HBW.out,fun _ h=>.inl h,fun _ h=>.inl h,Upd.refl⟩
     ·subst e;have h2:p.kids.length=2:=by rw [HWF.out.2.2.1 (by have:=HWF.out.1;have:=HV.out;omega),Hop.out];rfl
      obtain ⟨k0,k1,ek⟩:∃k0 k1,p.kids=[k0,k1]:=by
       match p.kids,h2 with
       | [x,y],_=>exact ⟨x,y,rfl⟩
      have hk1n:1<p.kids.length:=by omega
      have hk1:(1:Int)<(p.kids.length:Int):=by omega
      obtain ⟨b,o,eK,hFb,hbw,KB,kd,_,_,g2,_,_,_⟩:=HPW.out.at_ (i:=1) hk1n;have ek1:p.kids[1]'hk1n=k1:=by simp [ek]
      rw [ek1] at g2;have ha:=and63 k1.imm;have how:(k1.imm % 64).toNat=own:=by rw [←Hown.out,ek];rfl
      rw [how] at ha;have ho:o0=List.replicate own false:=by rw [←Ho0.out];rfl
      have hf:f0=List.replicate own false:=by rw [←Hf0.out];rfl
      subst ho hf;have c4:=HB.out.cell 4;subst eK;clear how h2 ek
      go_upto_region 13 with fail
      have hz8:∀i z,Try.prog.info? 5=some i→i.zero=some z→z.cells=#[b8 false]:=fun i z h1 h2=>by
       have h3:(Try.prog.info? 5).map (fun i=>i.zero.map (·.cells))=some (some #[b8 false]):=by kernel_rfl
       rw [h1] at h3;simp only [Option.map_some,h2,Option.some.injEq] at h3;exact h3
      have hzb:∀i z,Try.prog.info? 4=some i→i.zero=some z→z.cells=#[.bool false]:=fun i z h1 h2=>by
       have h3:(Try.prog.info? 4).map (fun i=>i.zero.map (·.cells))=some (some #[.bool false]):=by kernel_rfl
       rw [h1] at h3;simp only [Option.map_some,h2,Option.some.injEq] at h3;exact h3
      have HZ8:=h_ hz8;have HZB:=h_ hzb;clear hz8 hzb
      go_upto_region 14 with (at_builtin;refine wpList_appz rfl rfl T_u8s (kn:=.i64) rfl HZ8.out rfl rfl hA rfl (by simp only [maxLen];omega) (by omega) ?_;intro A3 c3 w3 ho3 hu3 hat3)
      have hB3:=hB.upd hu3 (fun k hk hA'=>own_two HBW.out.1 HBW.out.2 k hA' hk)
      go_wp2_with (at_builtin;refine wpList_appz rfl rfl T_bls (kn:=.i64) rfl HZB.out rfl rfl hB3 rfl (by simp only [maxLen];omega) (by omega) ?_;intro B5 d5 w5 ho5 hu5 hat5)
      go_meet
      case rel=>exact BF.step HBW.out Hn.out Hg.out (by simp) (by simp) Upd.refl (by simpa [b8s] using ho3) hu3 hat3 Upd.refl (by simpa [bls] using ho5) hu5 hat5
     ·subst e;obtain rfl:own=2:=by rw [←Hown.out];rfl
      have ho:o0=[false,true]:=by rw [←Ho0.out];rfl
      have hf:f0=[true,false]:=by rw [←Hf0.out];rfl
      subst ho hf
      go_upto_region 19 with (at_builtin;refine wpList_app rfl rfl T_u8s rfl (hA.alloc _) rfl (Sl.new _ _ _) rfl (by simp [Value.oneCell']) (by simp only [maxLen];omega) (by omega) ?_;intro A3 c3 w3 ho3 hu3 hat3)
      have hB3:=(hB.alloc _).upd hu3 (fun k hk hA'=>own_two HBW.out.1 HBW.out.2 k hA' hk)
      go_wp2_with (at_builtin;refine wpList_app rfl rfl T_bls rfl (hB3.alloc _) rfl (Sl.new _ _ _) rfl (by simp [Value.oneCell']) (by simp only [maxLen];omega) (by omega) ?_;intro B5 d5 w5 ho5 hu5 hat5)
      go_meet
      case rel=>exact BF.step HBW.out Hn.out Hg.out rfl rfl (Upd.refl.alloc _) ho3 hu3 hat3 (Upd.refl.alloc _) ho5 hu5 hat5
     ·subst e;obtain rfl:own=2:=by rw [←Hown.out];rfl
      have ho:o0=[false,true]:=by rw [←Ho0.out];rfl
      have hf:f0=[true,false]:=by rw [←Hf0.out];rfl
      subst ho hf
      go_upto_region 19 with (at_builtin;refine wpList_app rfl rfl T_u8s rfl (hA.alloc _) rfl (Sl.new _ _ _) rfl (by simp [Value.oneCell']) (by simp only [maxLen];omega) (by omega) ?_;intro A3 c3 w3 ho3 hu3 hat3)
      have hB3:=(hB.alloc _).upd hu3 (fun k hk hA'=>own_two HBW.out.1 HBW.out.2 k hA' hk)
      go_wp2_with (at_builtin;refine wpList_app rfl rfl T_bls rfl (hB3.alloc _) rfl (Sl.new _ _ _) rfl (by simp [Value.oneCell']) (by simp only [maxLen];omega) (by omega) ?_;intro B5 d5 w5 ho5 hu5 hat5)
      go_meet
      case rel=>exact BF.step HBW.out Hn.out Hg.out rfl rfl (Upd.refl.alloc _) ho3 hu3 hat3 (Upd.refl.alloc _) ho5 hu5 hat5
     ·subst e;obtain rfl:own=2:=by rw [←Hown.out];rfl
      have ho:o0=[false,false]:=by rw [←Ho0.out];rfl
      have hf:f0=[true,false]:=by rw [←Hf0.out];rfl
      subst ho hf
      go_upto_region 24 with (at_builtin;refine wpList_app rfl rfl T_u8s rfl (hA.alloc _) rfl (Sl.new _ _ _) rfl (by simp [Value.oneCell']) (by simp only [maxLen];omega) (by omega) ?_;intro A3 c3 w3 ho3 hu3 hat3)
      have hB3:=(hB.alloc _).upd hu3 (fun k hk hA'=>own_two HBW.out.1 HBW.out.2 k hA' hk)
      go_wp2_with (at_builtin;refine wpList_app rfl rfl T_bls rfl (hB3.alloc _) rfl (Sl.new _ _ _) rfl (by simp [Value.oneCell']) (by simp only [maxLen];omega) (by omega) ?_;intro B5 d5 w5 ho5 hu5 hat5)
      go_meet
      case rel=>exact BF.step HBW.out Hn.out Hg.out rfl rfl (Upd.refl.alloc _) ho3 hu3 hat3 (Upd.refl.alloc _) ho5 hu5 hat5
     ·subst e;obtain rfl:own=2:=by rw [←Hown.out];rfl
      have ho:o0=[false,true]:=by rw [←Ho0.out];rfl
      have hf:f0=[true,false]:=by rw [←Hf0.out];rfl
      subst ho hf
      go_upto_region 19 with (at_builtin;refine wpList_app rfl rfl T_u8s rfl (hA.alloc _) rfl (Sl.new _ _ _) rfl (by simp [Value.oneCell']) (by simp only [maxLen];omega) (by omega) ?_;intro A3 c3 w3 ho3 hu3 hat3)
      have hB3:=(hB.alloc _).upd hu3 (fun k hk hA'=>own_two HBW.out.1 HBW.out.2 k hA' hk)
      go_wp2_with (at_builtin;refine wpList_app rfl rfl T_bls rfl (hB3.alloc _) rfl (Sl.new _ _ _) rfl (by simp [Value.oneCell']) (by simp only [maxLen];omega) (by omega) ?_;intro B5 d5 w5 ho5 hu5 hat5)
      go_meet
      case rel=>exact BF.step HBW.out Hn.out Hg.out rfl rfl (Upd.refl.alloc _) ho3 hu3 hat3 (Upd.refl.alloc _) ho5 hu5 hat5
     ·subst e;obtain rfl:own=2:=by rw [←Hown.out];rfl
      have ho:o0=[false,false]:=by rw [←Ho0.out];rfl
      have hf:f0=[true,false]:=by rw [←Hf0.out];rfl
      subst ho hf
      go_upto_region 24 with (at_builtin;refine wpList_app rfl rfl T_u8s rfl (hA.alloc _) rfl (Sl.new _ _ _) rfl (by simp [Value.oneCell']) (by simp only [maxLen];omega) (by omega) ?_;intro A3 c3 w3 ho3 hu3 hat3)
      have hB3:=(hB.alloc _).upd hu3 (fun k hk hA'=>own_two HBW.out.1 HBW.out.2 k hA' hk)
      go_wp2_with (at_builtin;refine wpList_app rfl rfl T_bls rfl (hB3.alloc _) rfl (Sl.new _ _ _) rfl (by simp [Value.oneCell']) (by simp only [maxLen];omega) (by omega) ?_;intro B5 d5 w5 ho5 hu5 hat5)
      go_meet
      case rel=>exact BF.step HBW.out Hn.out Hg.out rfl rfl (Upd.refl.alloc _) ho3 hu3 hat3 (Upd.refl.alloc _) ho5 hu5 hat5
     ·subst e;obtain rfl:own=1:=by rw [←Hown.out];rfl
      have ho:o0=[true]:=by rw [←Ho0.out];rfl
      have hf:f0=[false]:=by rw [←Hf0.out];rfl
      subst ho hf
      go_upto_region 10 with (at_builtin;refine wpList_app rfl rfl T_u8s rfl (hA.alloc _) rfl (Sl.new _ _ _) rfl (by simp [Value.oneCell']) (by simp only [maxLen];omega) (by omega) ?_;intro A3 c3 w3 ho3 hu3 hat3)
      have hB3:=(hB.alloc _).upd hu3 (fun k hk hA'=>own_two HBW.out.1 HBW.out.2 k hA' hk)
      go_wp2_with (at_builtin;refine wpList_app rfl rfl T_bls rfl (hB3.alloc _) rfl (Sl.new _ _ _) rfl (by simp [Value.oneCell']) (by simp only [maxLen];omega) (by omega) ?_;intro B5 d5 w5 ho5 hu5 hat5)
      go_meet
      case rel=>exact BF.step HBW.out Hn.out Hg.out rfl rfl (Upd.refl.alloc _) ho3 hu3 hat3 (Upd.refl.alloc _) ho5 hu5 hat5
     ·subst e;have ho:o0=[]:=by rw [←Ho0.out,←Hown.out];rfl
      have hf:f0=[]:=by rw [←Hf0.out,←Hown.out];rfl
      subst ho hf;go_wp2_with fail
      go_meet
      case rel =>
       rw [List.append_nil,List.append_nil];exact ⟨A,c,B,d,by rw [Hn.out],by rw [Hg.out],HBW.out,fun _ h=>.inl h,fun _ h=>.inl h,Upd.refl⟩
     ·subst e;obtain rfl:own=2:=by rw [←Hown.out];rfl
      have ho:o0=[false,false]:=by rw [←Ho0.out];rfl
      have hf:f0=[true,false]:=by rw [←Hf0.out];rfl
      subst ho hf
      go_upto_region 24 with (at_builtin;refine wpList_app rfl rfl T_u8s rfl (hA.alloc _) rfl (Sl.new _ _ _) rfl (by simp [Value.oneCell']) (by simp only [maxLen];omega) (by omega) ?_;intro A3 c3 w3 ho3 hu3 hat3)
      have hB3:=(hB.alloc _).upd hu3 (fun k hk hA'=>own_two HBW.out.1 HBW.out.2 k hA' hk)
      go_wp2_with (at_builtin;refine wpList_app rfl rfl T_bls rfl (hB3.alloc _) rfl (Sl.new _ _ _) rfl (by simp [Value.oneCell']) (by simp only [maxLen];omega) (by omega) ?_;intro B5 d5 w5 ho5 hu5 hat5)
      go_meet
      case rel=>exact BF.step HBW.out Hn.out Hg.out rfl rfl (Upd.refl.alloc _) ho3 hu3 hat3 (Upd.refl.alloc _) ho5 hu5 hat5
    case rest =>
     obtain ⟨w1,rfl⟩:∃w1:World,w1=wc:=⟨_,rfl⟩;obtain ⟨A0,ca,B0,da,rfl,rfl,hbf,hatA,hatB,hu0⟩:=hcut;have hb1:=HB.out.upd hu0 (fun h=>by rcases h with h | h;have:=HAL.out _ h;omega;have:=HBL.out _ h;omega);have HB1:=h_ hb1;have HSZ:Hid (W.heap.size=w.heap.size+1):=by show _=_;rw [←HW.out];simp
     obtain ⟨k,Hk⟩:=nm p.kids.length
     have hk3:k≤3:=by
      rw [←Hk.out,HWF.out.2.2.1 (by have:=HWF.out.1;have:=HV.out;omega),Hop.out];rcases hops with e | e | e | e | e | e | e | e | e | e | e | e | e | e | e <;> rw [e] <;> decide
     obtain ⟨N0,HN0⟩:=nm (N++o0);obtain ⟨G0,HG0⟩:=nm (G++f0);rw [HN0.out,HG0.out] at hbf ⊢;have HBF:=h_ hbf;have HAA:=h_ hatA;have HBB:=h_ hatB;have HU0:=h_ hu0;clear hb1 hbf hatA hatB hu0 c1 t1 tv;go_wp2_with fail
     go_loopg [1,2,9] k (fun gg s1 s2 i wr=>∃(j:Nat) (A1:Option Addr) (c1:Nat) (B1:Option Addr) (d1:Nat) (N1 G1:List Bool),Hid (gg=k - j)∧j≤k∧s1=.slice A1 N1.length c1∧s2=.slice B1 G1.length d1∧i=.int .i64 j ∧
      Hid (N1=N0++iL (selK op p.kids j))∧Hid (G1=G0++frL (selK op p.kids j))∧Hid (BF wr A1 c1 N1 B1 d1 G1)∧Hid (∀i,At A1 i→At A i∨W.heap.size≤i)∧Hid (∀i,At B1 i→At B i∨W.heap.size≤i)∧Hid (Upd (fun i=>At A i∨At B i) W wr))
     case atStart=>exact ⟨0,A0,ca,B0,da,N0,G0,rfl,by omega,rfl,rfl,rfl,by show _=_;simp [selK,iL],by show _=_;simp [selK,frL],HBF.out,HAA.out,HBB.out,HU0.out⟩
     case round =>
      obtain ⟨j,A1,c1,B1,d1,N1,G1,Hgg,hj,rfl,rfl,rfl,HN1,HG1,HF1,HA1,HB2,HU1⟩:=hrel;have hbr:=HB.out.upd HU1.out (fun h=>by rcases h with h | h;have:=HAL.out _ h;omega;have:=HBL.out _ h;omega);have y1:=hbr.cell 1;have y4:=hbr.cell 4;rw [Hop.out] at y1;rw [Hk.out] at y4;clear hbr;by_cases hlt:j<k
      ·have hjk:j<p.kids.length:=by rw [Hk.out];exact hlt
       have hjk2:(j:Int)<(k:Int):=by omega
       by_cases hsk:op=12∧j≠0
       ·obtain ⟨rfl,hj0⟩:=hsk;have tj:((j:Int)==0)=false:=by simp;omega
        have HS1:=h_ (selK_skip (kids:=p.kids) (op:=12) rfl hj0);clear hj0;go_wp2_with fail
        go_roundg (k - (j+1))
        case measure=>rw [Hgg.out];omega
        case rel=>exact ⟨j+1,A1,c1,B1,d1,N1,G1,rfl,by omega,rfl,rfl,by go_num,by show _=_;rw [HS1.out];exact HN1.out,by show _=_;rw [HS1.out];exact HG1.out,HF1,HA1,HB2,HU1⟩
       ·have hsk2:op≠12∨j=0:=by
         by_cases q:op=12
         ·exact .inr (by by_cases q2:j=0;exact q2;exact absurd ⟨q,q2⟩ hsk)
         ·exact .inl q
        have HSS:=h_ (selK_succ hjk hsk2)
        obtain ⟨b,o,eK,hFb,hbw,KB,kd,g0,g1,g2,g3,g4,hkid⟩:=PtK.at_ (PtK.upd HU1.out (fun i hi h q=>by
         have h0:=HF0.out i h.1;rcases q with q | q
         ·exact h0.1 q
         ·exact h0.2 q) _ _ _ HPW.out) hjk
        have hmem:=List.getElem_mem hjk;have hbl:bL (selK op p.kids (j+1))≤bL p.kids:=by unfold selK;split <;> exact bL_take_le _ _
        rw [HSS.out,bL_app] at hbl;have hblq:bL [p.kids[j]]=bN p.kids[j]:=by simp [bL]
        rw [hblq] at hbl;have hn0l:N0.length=n+own:=by rw [←HN0.out,List.length_append,Hn.out,←Ho0.out,←Hown.out,←Hop.out,inO_len]
        have hg0l:G0.length=g+own:=by rw [←HG0.out,List.length_append,Hg.out,←Hf0.out,←Hown.out,←Hop.out,frO_len]
        have hNl:N1.length=n+own+bL (selK op p.kids j):=by rw [HN1.out,List.length_append,iL_len,hn0l]
        have hGl:G1.length=g+own+bL (selK op p.kids j):=by rw [HG1.out,List.length_append,frL_len,hg0l]
        have hhn:=HN.out;have hhg:=HG.out;have hwk:=HWF.out.2.2.2 _ hmem
        have hsk3:supF p.kids[j]=true:=by
         have:=HSF.out;rw [supF_op (by have:=HV.out;omega),Bool.and_eq_true] at this;exact List.all_eq_true.1 this.2 _ hmem
        have C1:=h_ (HI.out _ hmem wr _ KB kd A1 c1 B1 d1 N1 G1 hsk3 hwk hkid (fun i h=>by
         have h0:=HF0.out i h.1;have hsz:=HSZ.out;refine ⟨fun q=>?_,fun q=>?_⟩
         ·rcases HA1.out i q with q | q
          ·exact h0.1 q
          ·have:=h.2;omega
         ·rcases HB2.out i q with q | q
          ·exact h0.2 q
          ·have:=h.2;omega) HF1.out (by omega) (by omega))
        have HE1:Hid (N1++iP p.kids[j]=N0++iL (selK op p.kids (j+1))):=by show _=_;rw [HSS.out,iL_app,HN1.out,List.append_assoc];simp [iL]
        have HE2:Hid (G1++frP p.kids[j]=G0++frL (selK op p.kids (j+1))):=by show _=_;rw [HSS.out,frL_app,HG1.out,List.append_assoc];simp [frL]
        have HWS:Hid (W.heap.size≤wr.heap.size):=HU1.out.size;obtain ⟨q,Hq⟩:=nm p.kids[j];rw [Hq.out] at C1 HE1 HE2 g0 g1 g2 g3 g4;have hj0:(0:Int)≤(j:Int):=by omega
        obtain ⟨n1,Hn1⟩:=nm N1.length;obtain ⟨g1l,Hg1⟩:=nm G1.length;rw [Hn1.out,Hg1.out] at C1;rw [Hn1.out,Hg1.out];subst eK;unfold pv at C1;clear hkid hmem hbl hblq hn0l hg0l hNl hGl hhn hhg hwk hsk3 hsk;by_cases h12:op=12
        ·have hj00:j=0:=by rcases hsk2 with q | q;exact absurd h12 q;exact q
         have tj:((j:Int)==0)=true:=by rw [hj00];rfl
         subst h12;clear hj00 hsk2;go_wp2_with fail
         refine C1.out.mono ?_;rintro e w4 hR;obtain ⟨A4,c4,B4,d4,rfl,HF4,HA4,HB4,HU4⟩:=hR;have HF4:=h_ HF4
         have HA4:Hid (∀i,At A4 i→At A i∨W.heap.size≤i):=fun i hi=>by
          rcases HA4 i hi with q | q
          ·exact HA1.out i q
          ·exact .inr (Nat.le_trans HWS.out q)
         have HB4:Hid (∀i,At B4 i→At B i∨W.heap.size≤i):=fun i hi=>by
          rcases HB4 i hi with q | q
          ·exact HB2.out i q
          ·exact .inr (Nat.le_trans HWS.out q)
         have HU4:Hid (Upd (fun i=>At A i∨At B i) W w4):=HU1.out.trans HU4 (fun i hi q=>by
          rcases q with q | q
          ·rcases HA1.out i q with q | q
           ·exact .inl q
           ·omega
          ·rcases HB2.out i q with q | q
           ·exact .inr q
           ·omega)
         obtain ⟨N4,HN4⟩:=nm (N1++iP q);obtain ⟨G4,HG4⟩:=nm (G1++frP q);rw [HN4.out] at HE1 HF4;rw [HG4.out] at HE2 HF4;rw [HN4.out,HG4.out];go_wp2_with fail
         go_roundg (k - (j+1))
         case measure=>rw [Hgg.out];omega
         case rel=>exact ⟨j+1,A4,c4,B4,d4,N4,G4,rfl,by omega,rfl,rfl,by go_num,HE1.out,HE2.out,HF4.out,HA4.out,HB4.out,HU4.out⟩
        ·have t12:(op==12)=false:=beq_eq_false_iff_ne.2 h12;clear hsk2;go_wp2_with fail
         refine C1.out.mono ?_;rintro e w4 hR;obtain ⟨A4,c4,B4,d4,rfl,HF4,HA4,HB4,HU4⟩:=hR;have HF4:=h_ HF4
         have HA4:Hid (∀i,At A4 i→At A i∨W.heap.size≤i):=fun i hi=>by
          rcases HA4 i hi with q | q
          ·exact HA1.out i q
          ·exact .inr (Nat.le_trans HWS.out q)
         have HB4:Hid (∀i,At B4 i→At B i∨W.heap.size≤i):=fun i hi=>by
          rcases HB4 i hi with q | q
          ·exact HB2.out i q
          ·exact .inr (Nat.le_trans HWS.out q)
         have HU4:Hid (Upd (fun i=>At A i∨At B i) W w4):=HU1.out.trans HU4 (fun i hi q=>by
          rcases q with q | q
          ·rcases HA1.out i q with q | q
           ·exact .inl q
           ·omega
          ·rcases HB2.out i q with q | q
           ·exact .inr q
           ·omega)
         obtain ⟨N4,HN4⟩:=nm (N1++iP q);obtain ⟨G4,HG4⟩:=nm (G1++frP q);rw [HN4.out] at HE1 HF4;rw [HG4.out] at HE2 HF4;rw [HN4.out,HG4.out];go_wp2_with fail
         go_roundg (k - (j+1))
         case measure=>rw [Hgg.out];omega
         case rel=>exact ⟨j+1,A4,c4,B4,d4,N4,G4,rfl,by omega,rfl,rfl,by go_num,HE1.out,HE2.out,HF4.out,HA4.out,HB4.out,HU4.out⟩
      ·obtain rfl:k=j:=by omega
       have hsl:=HSEL.out;rw [Hop.out,Hk.out] at hsl;have e1:N1=N++iP p:=by rw [HN1.out,←HN0.out,hsl.1,HIP.out,List.append_assoc]
       have e2:G1=G++frP p:=by rw [HG1.out,←HG0.out,hsl.2,HFP.out,List.append_assoc]
       have HE1:=h_ e1;have HE2:=h_ e2;clear e1 e2 hsl;go_wp2_with fail
       refine bodyPost_ret (results_tmp2 rfl _ _ _) rfl ?_;rw [←HE1.out,←HE2.out];exact ⟨A1,c1,B1,d1,rfl,HF1.out,fun i hi=>(HA1.out i hi).imp id (fun q=>by have:=HSZ.out;omega),fun i hi=>(HB2.out i hi).imp id (fun q=>by have:=HSZ.out;omega),(HUW.out.mono (fun _ _ f=>f.elim)).trans HU1.out (fun _ _ q=>q)⟩
def tIdx:List Bool→Nat→List Nat
 | [],_=>[]
 | g::gs,a=>(if g then [a] else [])++tIdx gs (a+1)
theorem tIdx_app:∀(l m:List Bool) (a:Nat),tIdx (l++m) a=tIdx l a++tIdx m (a+l.length)
 | [],_,_=>rfl
 | g::gs,m,a=>by rw [List.cons_append,tIdx,tIdx,tIdx_app gs m,List.append_assoc,List.length_cons,Nat.add_assoc,Nat.add_comm 1]
theorem tIdx_rep:∀(n a:Nat),tIdx (List.replicate n false) a=[]
 | 0,_=>rfl
 | n+1,a=>by rw [List.replicate_succ,tIdx,tIdx_rep n];rfl
theorem tIdx_frO (op:Int) (n a:Nat):tIdx (frO op n) a=if isG op then [a] else []:=by
 unfold frO
 cases isG op with
 | false=>rw [if_neg (by decide),if_neg (by decide),tIdx_rep]
 | true=>rw [if_pos rfl,if_pos rfl,tIdx,tIdx_rep];rfl
theorem tIdx_frP (p:Pt):∀a,tIdx (frP p) a=(gpos p a).map fun q=>q.2:=by
 induction p using Pt.ind with
 | h p ih =>
  intro a;rw [frP_iff,gpos_iff];by_cases hv:0<p.v
  ·rw [if_pos hv,if_pos hv];rfl
  ·rw [if_neg hv,if_neg hv,tIdx_app,tIdx_frO,frO_len,List.map_append]
   have : ∀l:List Pt,(∀q∈l,q∈p.kids)→∀a,tIdx (frL l) a=(gposL l a).map fun q=>q.2:=by
    intro l
    induction l with
    | nil=>intro _ a;rfl
    | cons q qs h=>intro hq a;rw [frL,tIdx_app,gposL,List.map_append,ih q (hq q (by simp)),frP_len,h (fun x hx=>hq x (by simp [hx]))]
   rw [this _ (fun _ h=>h)]
   congr 1
   cases isG p.op <;> rfl
def frR (r:Rl):List Bool:=frP r.l++frP r.r++List.replicate r.conds.length false++[false]
theorem frR_len (r:Rl):(frR r).length=stN r:=by unfold frR stN;simp only [List.length_append,List.length_replicate,List.length_singleton,frP_len]
theorem tIdx_frR (r:Rl):tIdx (frR r) 0=(gposR r).map fun q=>q.2:=by
 unfold frR gposR;rw [tIdx_app,tIdx_app,tIdx_app,tIdx_rep,tIdx_frP,tIdx_frP,frP_len,Nat.zero_add,List.map_append];simp [tIdx]
def xpS (i:Nat) (out:List (List Bool)):List (List Bool):=out.flatMap fun x=>[x,x.set i true]
def xpF:List Bool→Nat→List (List Bool)→List (List Bool)
 | [],_,out=>out
 | g::gs,i,out=>xpF gs (i+1) (if g then xpS i out else out)
def xpP:List Nat→List (List Bool)→List (List Bool)
 | [],out=>out
 | p::ps,out=>xpP ps (xpS p out)
theorem xpF_xpP:∀(G:List Bool) (i:Nat) (out:List (List Bool)),xpF G i out=xpP (tIdx G i) out
 | [],_,_=>rfl
 | g::gs,i,out=>by
  rw [xpF,tIdx,xpF_xpP gs];cases g <;> rfl
theorem xpF_snoc:∀(G:List Bool) (g:Bool) (i:Nat) (out:List (List Bool)),xpF (G++[g]) i out=if g then xpS (i+G.length) (xpF G i out) else xpF G i out
 | [],g,i,out=>rfl
 | h::gs,g,i,out=>by rw [List.cons_append,xpF,xpF_snoc gs g,xpF,List.length_cons,Nat.add_assoc,Nat.add_comm 1]
theorem xpS_len (i:Nat) (out:List (List Bool)):(xpS i out).length=2 * out.length:=by
 unfold xpS
 induction out with
 | nil=>rfl
 | cons x xs ih=>rw [List.flatMap_cons,List.length_append,ih];simp only [List.length_cons,List.length_nil];omega
theorem xpP_len:∀(ps:List Nat) (out:List (List Bool)),(xpP ps out).length=out.length * 2 ^ ps.length
 | [],out=>by rw [xpP,List.length_nil,Nat.pow_zero,Nat.mul_one]
 | p::ps,out=>by rw [xpP,xpP_len ps,xpS_len,List.length_cons,Nat.pow_succ];rw [Nat.mul_comm 2 out.length,Nat.mul_assoc,Nat.mul_comm 2]
theorem xpP_rows {n:Nat}:∀(ps:List Nat) (out:List (List Bool)),(∀x∈out,x.length=n)→∀x∈xpP ps out,x.length=n
 | [],_,h=>h
 | p::ps,out,h=>xpP_rows ps _ fun x hx=>by
  obtain ⟨y,hy,hx⟩:=List.mem_flatMap.1 hx;simp only [List.mem_cons,List.not_mem_nil,or_false] at hx;rcases hx with rfl | rfl
  ·exact h _ hy
  ·rw [List.length_set];exact h _ hy
theorem initZ_false (r:Rl):initZ r=initF (fun _=>false) r:=by
 unfold initZ initF;rw [inP_const,inP_const]
def rinF (r:Rl):List (List Bool):=xpF (frR r) 0 [initZ r]
theorem rinF_len (r:Rl):(rinF r).length=2 ^ gR r:=by
 unfold rinF;rw [xpF_xpP,xpP_len,tIdx_frR,List.length_map,gposR_len,List.length_singleton,Nat.one_mul]
theorem initZ_len (r:Rl):(initZ r).length=stN r:=by rw [initZ_false,initF_len]
theorem rinF_rows (r:Rl):∀x∈rinF r,x.length=stN r:=by
 unfold rinF;rw [xpF_xpP];exact xpP_rows _ _ fun x hx=>by rw [List.mem_singleton] at hx;subst hx;exact initZ_len r
theorem tIdx_take (G:List Bool) (j a:Nat):(tIdx (G.take j) a).length≤(tIdx G a).length:=by
 conv=>rhs;rw [←List.take_append_drop j G,tIdx_app,List.length_append]
 omega
theorem rin_take {r:Rl} (h:gR r≤6) (j:Nat) (out:List (List Bool)) (ho:out.length=1):(xpF ((frR r).take j) 0 out).length≤64:=by
 rw [xpF_xpP,xpP_len,ho,Nat.one_mul];have h1:=tIdx_take (frR r) j 0;rw [tIdx_frR,List.length_map,gposR_len] at h1;exact Nat.le_trans (Nat.pow_le_pow_right (by decide) (Nat.le_trans h1 h)) (by decide)
theorem xpS_snoc {i k:Nat} {O:List (List Bool)} (h:k<O.length):xpS i (O.take (k+1))=xpS i (O.take k)++[O[k],O[k].set i true]:=by
 unfold xpS;rw [List.take_succ_eq_append_getElem h,List.flatMap_append];simp
theorem ub_sup {r:Rl} (h:applF r=true):gR r≤6∧implF r=true:=by
 unfold applF at h;simp only [Bool.and_eq_true,decide_eq_true_eq] at h;exact ⟨h.1.2,h.1.1.1.1.1⟩
set_option maxRecDepth 100000 in
set_option maxHeartbeats 16000000 in
theorem rInitStates_c (r:Rl) (a:RlA) (F:Nat→Prop) (w:World) (hk:RlK w F r a) (hap:applF r=true) :
  Calls Try.prog 17 #[rlv r a] w fun e w'=>∃OA on oc,e=.returned (.slice OA on oc)∧ElO ElRow 1 44 w' (U8B w') OA on oc ((rinF r).map bbs)∧(∀i,At OA i→w.heap.size≤i)∧Upd Non w w':=by
 obtain ⟨W,HW⟩:=nm (w.alloc (.cells (rlCells r a) 28));have hU:Upd Non w W:=by rw [←HW.out];exact Upd.refl.alloc _
 obtain ⟨rb,hrb⟩:∃b,w.heap.size=b:=⟨_,rfl⟩;have hb:Blk W rb 28 (rlCells r a):=by rw [←HW.out,←hrb];exact Blk.new _ _ _
 have e0:=HW.out;have hK:=(hk.mono (G:=fun k=>k<w.heap.size) (fun _ h _=>h)).upd hU (fun _ _ _ f=>f);obtain ⟨hg6,himp⟩:=ub_sup hap;have hi:=imok_of himp;have hst:=stN_le hi;have hsup:=applF_sup hap;have hbl:bN r.l+bN r.r+r.conds.length+1=stN r:=rfl;have hBF0:BF W none 0 [] none 0 []:=⟨Own.none_,Own.none_⟩;have C1:=h_ (rInit_c r.l W _ a.la a.lc none 0 none 0 [] [] hsup.1 hi.wl hK.l (fun _ _=>⟨At.none_,At.none_⟩) hBF0 (by simp;omega) (by simp;omega))
 have HK:=h_ hK;have HU:=h_ hU;have HI:=h_ hi;have HSP:=h_ hsup;have HB:=h_ (fun (w':World) (u:Upd Non W w')=>rl_cells (hb.upd u (fun f=>f)));obtain ⟨c0,c1,c2,c3,c4,c5,c6,c7,c8,c9,c10,c11,c12,c13⟩:=HB.out W Upd.refl;simp only [List.nil_append,List.length_nil] at C1;unfold pv at C1;have HW0:Hid (w.heap.size≤W.heap.size):=hU.size;clear hk hK hU hi hsup hb hBF0 himp;unfold rlv;unfold rlCells at e0 ⊢;go_enter Try.func17,Try.ntmps17;go_wp2_with fail
 refine C1.out.mono ?_;rintro e w2 hR1;obtain ⟨A1,k1,B1,d1,rfl,hF1,hA1,hB1,hu1⟩:=hR1;have u1:Upd Non W w2:=hu1.mono (fun i _ q=>by rcases q with q | q <;> exact (At.none_ q).elim);clear c0 c1 c2 c3 c4 c5 c6 c7 c8 c9 c10 c11 c12 c13 hu1 C1;obtain ⟨c0,c1,c2,c3,c4,c5,c6,c7,c8,c9,c10,c11,c12,c13⟩:=HB.out w2 u1;have HU1:=h_ u1;have HA1:Hid (∀i,At A1 i→W.heap.size≤i):=fun i q=>(hA1 i q).elim (fun q=>(At.none_ q).elim) id
 have HB1:Hid (∀i,At B1 i→W.heap.size≤i):=fun i q=>(hB1 i q).elim (fun q=>(At.none_ q).elim) id
 have C2:=h_ (rInit_c r.r w2 _ a.ra a.rc A1 k1 B1 d1 (iP r.l) (frP r.l) HSP.out.2 HI.out.wr ((HK.out.upd u1 (fun _ _ _ f=>f)).mono (G:=fun k=>k<w.heap.size) (fun _ _ h=>h)).r (fun i h=>by
  have h0:=HW0.out
  exact ⟨fun q=>by have:=HA1.out i q;omega,fun q=>by have:=HB1.out i q;omega⟩) hF1 (by rw [iP_len];omega) (by rw [frP_len];omega))
 unfold pv at C2;obtain ⟨n1,Hn1⟩:=nm (iP r.l).length;obtain ⟨g1,Hg1⟩:=nm (frP r.l).length;rw [Hn1.out,Hg1.out] at C2;rw [Hn1.out,Hg1.out];clear hF1 hA1 hB1 u1;go_wp2_with fail
 refine C2.out.mono ?_;rintro e w3 hR2;obtain ⟨A2,k2,B2,d2,rfl,hF2,hA2,hB2,hu2⟩:=hR2
 have u2:Upd Non W w3:=HU1.out.trans hu2 (fun i hi q=>by
  rcases q with q | q
  ·have:=HA1.out i q;omega
  ·have:=HB1.out i q;omega)
 have HA2:Hid (∀i,At A2 i→W.heap.size≤i):=fun i q=>by
  have:=HU1.out.size;rcases hA2 i q with q | q
  ·exact HA1.out i q
  ·omega
 have HB2:Hid (∀i,At B2 i→W.heap.size≤i):=fun i q=>by
  have:=HU1.out.size;rcases hB2 i q with q | q
  ·exact HB1.out i q
  ·omega
 have HU2:=h_ u2;have HF2:=h_ hF2;clear c0 c1 c2 c3 c4 c5 c6 c7 c8 c9 c10 c11 c12 c13 hF2 hA2 hB2 hu2 u2 C2;obtain ⟨N0,HN0⟩:=nm (iP r.l++iP r.r);obtain ⟨G0,HG0⟩:=nm (frP r.l++frP r.r);rw [HN0.out,HG0.out] at HF2;rw [HN0.out,HG0.out];have HN0L:Hid (N0.length=bN r.l+bN r.r):=by show _=_;rw [←HN0.out,List.length_append,iP_len,iP_len]
 have HG0L:Hid (G0.length=bN r.l+bN r.r):=by show _=_;rw [←HG0.out,List.length_append,frP_len,frP_len]
 obtain ⟨CA,hCA⟩:∃x,a.ca=x:=⟨_,rfl⟩;have HCV:Hid (CondsV W (fun k=>k<w.heap.size) CA r.conds):=by rw [←hCA];exact HK.out.c
 obtain ⟨nc,Hnc⟩:=nm r.conds.length;have hnc6:nc≤6:=by rw [←Hnc.out];exact HI.out.cn
 have HC11:Hid (∀w',Upd Non W w'→w'.cell? ⟨rb,11,none⟩=some (.slice CA nc a.cc)):=fun w' u=>by
  obtain ⟨_,_,_,_,_,_,_,_,_,_,_,h,_,_⟩:=HB.out w' u;rw [hCA,Hnc.out] at h;exact h
 rw [Hnc.out] at hbl;have HBL:=h_ hbl;clear hCA hbl;go_wp2_with fail
 go_loopg [3,4,5] nc (fun gg s3 s4 i wr=>∃(j:Nat) (A3:Option Addr) (k3:Nat) (B3:Option Addr) (d3:Nat) (N1 G1:List Bool),Hid (gg=nc - j)∧j≤nc∧s3=.slice A3 N1.length k3∧s4=.slice B3 G1.length d3∧i=.int .i64 j ∧
  Hid (N1=N0++(r.conds.take j).map cdIn)∧Hid (G1=G0++List.replicate j false)∧Hid (BF wr A3 k3 N1 B3 d3 G1)∧Hid (∀i,At A3 i→W.heap.size≤i)∧Hid (∀i,At B3 i→W.heap.size≤i)∧Hid (Upd Non W wr))
 case atStart=>exact ⟨0,A2,k2,B2,d2,N0,G0,rfl,by omega,rfl,rfl,rfl,by show _=_;simp,by show _=_;simp,HF2.out,HA2.out,HB2.out,HU2.out⟩
 case round =>
  obtain ⟨j,A3,k3,B3,d3,N1,G1,Hgg,hj,rfl,rfl,rfl,HN1,HG1,HF3,HA3,HB3,HU3⟩:=hrel;have y11:=HC11.out wr HU3.out;have hbl:=HBL.out;have hn1e:N1.length=bN r.l+bN r.r+j:=by rw [HN1.out,List.length_append,HN0L.out,List.length_map,List.length_take,Hnc.out];omega
  have hg1e:G1.length=bN r.l+bN r.r+j:=by rw [HG1.out,List.length_append,HG0L.out,List.length_replicate]
  obtain ⟨n1,Hn1⟩:=nm N1.length;obtain ⟨g1,Hg1⟩:=nm G1.length;have hn1l:n1≤4000:=by rw [←Hn1.out];omega
  have hg1l:g1≤4000:=by rw [←Hg1.out];omega
  have HN1E:=h_ hn1e;have HG1E:=h_ hg1e;clear hbl hn1e hg1e;rw [Hn1.out,Hg1.out];have hA:=HF3.out.1;have hB:=HF3.out.2;rw [Hn1.out] at hA;rw [Hg1.out] at hB;by_cases hlt:j<nc
  ·have hjl:j<r.conds.length:=by rw [Hnc.out];exact hlt
   obtain ⟨b,o,rfl,_,hbw,q0,q1,q2,q3⟩:=(HCV.out.upd HU3.out (fun _ _ _ f=>f)).at_ hjl;have htk:=List.take_succ_eq_append_getElem hjl;obtain ⟨kind,Hkind⟩:=nm r.conds[j].kind;rw [Hkind.out] at q0;have hjn:(j:Int)<(nc:Int):=by omega
   have hj0:(0:Int)≤(j:Int):=by omega
   by_cases h2:kind=2
   ·have hcd:cdIn r.conds[j]=true:=by unfold cdIn;rw [Hkind.out];simp [h2]
    subst h2
    go_wp2_with (at_builtin;refine wpList_app rfl rfl T_u8s rfl (hA.alloc _) rfl (Sl.new _ _ _) rfl (by simp [Value.oneCell']) (by simp only [maxLen];omega) (by omega) ?_)
    intro A4 k4 w4 ho4 hu4 hat4;have hB4:=(hB.alloc _).upd hu4 (fun k hk hA'=>own_two HF3.out.1 HF3.out.2 k hA' hk)
    go_wp2_with (at_builtin;refine wpList_app rfl rfl T_bls rfl (hB4.alloc _) rfl (Sl.new _ _ _) rfl (by simp [Value.oneCell']) (by simp only [maxLen];omega) (by omega) ?_)
    intro B5 d5 w5 ho5 hu5 hat5;obtain ⟨A6,k6,B6,d6,e6,e7,HF6,HA6,HB6,HU6⟩:=BF.step (o:=[cdIn r.conds[j]]) (f:=[false]) HF3.out Hn1.out Hg1.out rfl rfl (Upd.refl.alloc _) (by rw [hcd];exact ho4) hu4 (fun k q=>(hat4 k q).imp id (fun z=>by rw [z];simp)) (Upd.refl.alloc _) ho5 hu5 (fun k q=>(hat5 k q).imp id (fun z=>by rw [z];simp))
    have e6:Value.slice A4 (n1+1) k4=.slice A6 (N1++[cdIn r.conds[j]]).length k6:=e6;have e7:Value.slice B5 (g1+1) d5=.slice B6 (G1++[false]).length d6:=e7;have HF7:=h_ HF6
    have HU7:Hid (Upd Non W w5):=HU3.out.trans HU6 (fun i hi q=>by
     rcases q with q | q
     ·have:=HA3.out i q;omega
     ·have:=HB3.out i q;omega)
    have hsz:=HU3.out.size
    have HA7:Hid (∀i,At A6 i→W.heap.size≤i):=fun i q=>by
     rcases HA6 i q with q | q
     ·exact HA3.out i q
     ·omega
    have HB7:Hid (∀i,At B6 i→W.heap.size≤i):=fun i q=>by
     rcases HB6 i q with q | q
     ·exact HB3.out i q
     ·omega
    have HN7:Hid (N1++[cdIn r.conds[j]]=N0++(r.conds.take (j+1)).map cdIn):=by show _=_;rw [htk,List.map_append,HN1.out,List.append_assoc];rfl
    have HG7:Hid (G1++[false]=G0++List.replicate (j+1) false):=by show _=_;rw [HG1.out,List.append_assoc,List.replicate_succ']
    clear ho4 hu4 hat4 ho5 hu5 hat5 hB4 HF6 HA6 HB6 HU6 hsz;rw [e6,e7];go_wp2_with fail
    go_roundg (nc - (j+1))
    case measure=>rw [Hgg.out];omega
    case rel=>exact ⟨j+1,A6,k6,B6,d6,_,_,rfl,by omega,rfl,rfl,by go_num,HN7.out,HG7.out,HF7.out,HA7.out,HB7.out,HU7.out⟩
   ·by_cases h3:kind=3
    ·have hcd:cdIn r.conds[j]=true:=by unfold cdIn;rw [Hkind.out];simp [h3]
     subst h3
     go_wp2_with (at_builtin;refine wpList_app rfl rfl T_u8s rfl (hA.alloc _) rfl (Sl.new _ _ _) rfl (by simp [Value.oneCell']) (by simp only [maxLen];omega) (by omega) ?_)
     intro A4 k4 w4 ho4 hu4 hat4;have hB4:=(hB.alloc _).upd hu4 (fun k hk hA'=>own_two HF3.out.1 HF3.out.2 k hA' hk)
     go_wp2_with (at_builtin;refine wpList_app rfl rfl T_bls rfl (hB4.alloc _) rfl (Sl.new _ _ _) rfl (by simp [Value.oneCell']) (by simp only [maxLen];omega) (by omega) ?_)
     intro B5 d5 w5 ho5 hu5 hat5;obtain ⟨A6,k6,B6,d6,e6,e7,HF6,HA6,HB6,HU6⟩:=BF.step (o:=[cdIn r.conds[j]]) (f:=[false]) HF3.out Hn1.out Hg1.out rfl rfl (Upd.refl.alloc _) (by rw [hcd];exact ho4) hu4 (fun k q=>(hat4 k q).imp id (fun z=>by rw [z];simp)) (Upd.refl.alloc _) ho5 hu5 (fun k q=>(hat5 k q).imp id (fun z=>by rw [z];simp))
     have e6:Value.slice A4 (n1+1) k4=.slice A6 (N1++[cdIn r.conds[j]]).length k6:=e6;have e7:Value.slice B5 (g1+1) d5=.slice B6 (G1++[false]).length d6:=e7;have HF7:=h_ HF6
     have HU7:Hid (Upd Non W w5):=HU3.out.trans HU6 (fun i hi q=>by
      rcases q with q | q
      ·have:=HA3.out i q;omega
      ·have:=HB3.out i q;omega)
     have hsz:=HU3.out.size
     have HA7:Hid (∀i,At A6 i→W.heap.size≤i):=fun i q=>by
      rcases HA6 i q with q | q
      ·exact HA3.out i q
      ·omega
     have HB7:Hid (∀i,At B6 i→W.heap.size≤i):=fun i q=>by
      rcases HB6 i q with q | q
      ·exact HB3.out i q
      ·omega
     have HN7:Hid (N1++[cdIn r.conds[j]]=N0++(r.conds.take (j+1)).map cdIn):=by show _=_;rw [htk,List.map_append,HN1.out,List.append_assoc];rfl
     have HG7:Hid (G1++[false]=G0++List.replicate (j+1) false):=by show _=_;rw [HG1.out,List.append_assoc,List.replicate_succ']
     clear ho4 hu4 hat4 ho5 hu5 hat5 hB4 HF6 HA6 HB6 HU6 hsz;rw [e6,e7];go_wp2_with fail
     go_roundg (nc - (j+1))
     case measure=>rw [Hgg.out];omega
     case rel=>exact ⟨j+1,A6,k6,B6,d6,_,_,rfl,by omega,rfl,rfl,by go_num,HN7.out,HG7.out,HF7.out,HA7.out,HB7.out,HU7.out⟩
    ·have hcd:cdIn r.conds[j]=false:=by unfold cdIn;rw [Hkind.out];simp [h2,h3]
     have t2:(kind==2)=false:=beq_eq_false_iff_ne.2 h2;have t3:(kind==3)=false:=beq_eq_false_iff_ne.2 h3
     go_wp2_with (at_builtin;refine wpList_app rfl rfl T_u8s rfl (hA.alloc _) rfl (Sl.new _ _ _) rfl (by simp [Value.oneCell']) (by simp only [maxLen];omega) (by omega) ?_)
     intro A4 k4 w4 ho4 hu4 hat4;have hB4:=(hB.alloc _).upd hu4 (fun k hk hA'=>own_two HF3.out.1 HF3.out.2 k hA' hk)
     go_wp2_with (at_builtin;refine wpList_app rfl rfl T_bls rfl (hB4.alloc _) rfl (Sl.new _ _ _) rfl (by simp [Value.oneCell']) (by simp only [maxLen];omega) (by omega) ?_)
     intro B5 d5 w5 ho5 hu5 hat5;obtain ⟨A6,k6,B6,d6,e6,e7,HF6,HA6,HB6,HU6⟩:=BF.step (o:=[cdIn r.conds[j]]) (f:=[false]) HF3.out Hn1.out Hg1.out rfl rfl (Upd.refl.alloc _) (by rw [hcd];exact ho4) hu4 (fun k q=>(hat4 k q).imp id (fun z=>by rw [z];simp)) (Upd.refl.alloc _) ho5 hu5 (fun k q=>(hat5 k q).imp id (fun z=>by rw [z];simp))
     have e6:Value.slice A4 (n1+1) k4=.slice A6 (N1++[cdIn r.conds[j]]).length k6:=e6;have e7:Value.slice B5 (g1+1) d5=.slice B6 (G1++[false]).length d6:=e7;have HF7:=h_ HF6
     have HU7:Hid (Upd Non W w5):=HU3.out.trans HU6 (fun i hi q=>by
      rcases q with q | q
      ·have:=HA3.out i q;omega
      ·have:=HB3.out i q;omega)
     have hsz:=HU3.out.size
     have HA7:Hid (∀i,At A6 i→W.heap.size≤i):=fun i q=>by
      rcases HA6 i q with q | q
      ·exact HA3.out i q
      ·omega
     have HB7:Hid (∀i,At B6 i→W.heap.size≤i):=fun i q=>by
      rcases HB6 i q with q | q
      ·exact HB3.out i q
      ·omega
     have HN7:Hid (N1++[cdIn r.conds[j]]=N0++(r.conds.take (j+1)).map cdIn):=by show _=_;rw [htk,List.map_append,HN1.out,List.append_assoc];rfl
     have HG7:Hid (G1++[false]=G0++List.replicate (j+1) false):=by show _=_;rw [HG1.out,List.append_assoc,List.replicate_succ']
     clear ho4 hu4 hat4 ho5 hu5 hat5 hB4 HF6 HA6 HB6 HU6 hsz;rw [e6,e7];go_wp2_with fail
     go_roundg (nc - (j+1))
     case measure=>rw [Hgg.out];omega
     case rel=>exact ⟨j+1,A6,k6,B6,d6,_,_,rfl,by omega,rfl,rfl,by go_num,HN7.out,HG7.out,HF7.out,HA7.out,HB7.out,HU7.out⟩
  ·obtain rfl:nc=j:=by omega
   go_wp2_with (at_builtin;refine wpList_app rfl rfl T_u8s rfl (hA.alloc _) rfl (Sl.new _ _ _) rfl (by simp [Value.oneCell']) (by simp only [maxLen];omega) (by omega) ?_)
   intro A4 k4 w4 ho4 hu4 hat4;have hB4:=(hB.alloc _).upd hu4 (fun k hk hA'=>own_two HF3.out.1 HF3.out.2 k hA' hk)
   go_wp2_with (at_builtin;refine wpList_app rfl rfl T_bls rfl (hB4.alloc _) rfl (Sl.new _ _ _) rfl (by simp [Value.oneCell']) (by simp only [maxLen];omega) (by omega) ?_)
   intro B5 d5 w5 ho5 hu5 hat5;obtain ⟨A6,k6,B6,d6,e6,e7,HF6,HA6,HB6,HU6⟩:=BF.step (o:=[false]) (f:=[false]) HF3.out Hn1.out Hg1.out rfl rfl (Upd.refl.alloc _) ho4 hu4 (fun k q=>(hat4 k q).imp id (fun z=>by rw [z];simp)) (Upd.refl.alloc _) ho5 hu5 (fun k q=>(hat5 k q).imp id (fun z=>by rw [z];simp))
   have e6:Value.slice A4 (n1+1) k4=.slice A6 (N1++[false]).length k6:=e6;have e7:Value.slice B5 (g1+1) d5=.slice B6 (G1++[false]).length d6:=e7
   have HU7:Hid (Upd Non W w5):=HU3.out.trans HU6 (fun i hi q=>by
    rcases q with q | q
    ·have:=HA3.out i q;omega
    ·have:=HB3.out i q;omega)
   have hsz:=HU3.out.size
   have HA7:Hid (∀i,At A6 i→W.heap.size≤i):=fun i q=>by
    rcases HA6 i q with q | q
    ·exact HA3.out i q
    ·omega
   have HB7:Hid (∀i,At B6 i→W.heap.size≤i):=fun i q=>by
    rcases HB6 i q with q | q
    ·exact HB3.out i q
    ·omega
   have HN7:Hid (N1++[false]=initZ r):=by show _=_;rw [HN1.out,List.take_of_length_le (by rw [Hnc.out];exact Nat.le_refl _),←HN0.out];unfold initZ;rfl
   have HG7:Hid (G1++[false]=frR r):=by show _=_;rw [HG1.out,←HG0.out];unfold frR;rw [Hnc.out]
   rw [HN7.out,HG7.out] at HF6;rw [HN7.out] at e6;rw [HG7.out] at e7;have HF7:=h_ HF6;clear ho4 hu4 hat4 ho5 hu5 hat5 hB4 HF6 HA6 HB6 HU6 hsz;rw [e6,e7];have hzl:=initZ_len r;have hfl:=frR_len r;obtain ⟨sn,Hsn⟩:=nm (stN r);obtain ⟨Z,HZ⟩:=nm (initZ r);obtain ⟨Fr,HFr⟩:=nm (frR r);rw [HZ.out,HFr.out] at HF7;rw [HZ.out,Hsn.out] at hzl;rw [HFr.out,Hsn.out] at hfl;rw [HZ.out,HFr.out];have HZL:=h_ hzl;have HFL:=h_ hfl;obtain ⟨qb,rfl⟩:=HF7.out.1.some_ (by rw [hzl,←Hsn.out,←HBL.out];omega);obtain ⟨fb,rfl⟩:=HF7.out.2.some_ (by rw [hfl,←Hsn.out,←HBL.out];omega);rw [hzl,hfl];rw [Hsn.out] at hst;have hs0:0<sn:=by rw [←Hsn.out,←HBL.out];omega
   obtain ⟨W6,HW6⟩:=nm (w5.alloc (.cells #[.slice (some ⟨qb,0,none⟩) sn k6] 44));have u6:Upd Non w5 W6:=by rw [←HW6.out];exact Upd.refl.alloc _
   have hO0:ElO ElRow 1 44 W6 (U8B W6) (some ⟨w5.heap.size,0,none⟩) 1 1 ((xpF (Fr.take 0) 0 [Z]).map bbs):=by
    have h1:Own W6 44 1 (some ⟨w5.heap.size,0,none⟩) 1 1 [.slice (some ⟨qb,0,none⟩) sn k6]:=by rw [←HW6.out];exact own_one _ _ _
    have h2:=HF7.out.1.upd u6 (fun _ _ f=>f);rw [hzl] at h2;refine ⟨rfl,_,h1,?_⟩;refine (ElCells.nil.snoc elRow (elRow_of h2 hzl ⟨own_u8 h2,fun q=>?_⟩));rw [At.some_] at q;exact h1.ne_blk (own_u8 h2).choose_spec (by decide) (At.some_.2 q)
   have hFO:=HF7.out.2.upd u6 (fun _ _ f=>f);rw [hfl] at hFO;have HFO:=h_ hFO;have HO0:=h_ hO0;have HU6:=h_ (HU7.out.then_non u6);have HS6:Hid (w5.heap.size<W6.heap.size):=hO0.lt (At.some_.2 rfl);have HWS:Hid (W.heap.size≤w5.heap.size):=HU7.out.size;clear hzl hfl u6 hO0 hFO
   go_upto_region 14 with fail
   rw [HW6.out];obtain ⟨ob,hob⟩:∃b,w5.heap.size=b:=⟨_,rfl⟩;rw [hob] at HO0 HS6 HWS;rw [hob];obtain ⟨B6,hB6⟩:∃b,W6.heap.size=b:=⟨_,rfl⟩;have HB6:=h_ hB6
   have HROW:Hid (∀j,∀y∈xpF (Fr.take j) 0 [Z],y.length=sn):=fun j=>by
    rw [xpF_xpP];exact xpP_rows _ _ fun y hy=>by rw [List.mem_singleton] at hy;subst hy;exact HZL.out
   have HGR:Hid (∀j,(xpF (Fr.take j) 0 [Z]).length≤64):=fun j=>by rw [←HFr.out];exact rin_take hg6 j _ rfl
   clear hob hB6;go_wp2_with fail
   go_loopg [7,8] sn (fun gg s7 s8 wr=>∃(j:Nat) (OA:Option Addr) (on oc:Nat),Hid (gg=sn - j)∧j≤sn∧s7=.slice OA on oc∧s8=.int .i64 j∧Hid (ElO ElRow 1 44 wr (U8B wr) OA on oc ((xpF (Fr.take j) 0 [Z]).map bbs))∧Hid (∀i,At OA i→ob≤i)∧Hid (Upd Non W6 wr))
   case atStart=>exact ⟨0,some ⟨ob,0,none⟩,1,1,rfl,by omega,rfl,rfl,HO0.out,fun i q=>by rw [At.some_] at q;omega,Upd.refl⟩
   case round =>
    obtain ⟨j,OA,on,oc,Hg2,hj2,rfl,rfl,HO,HAO,HUr⟩:=hrel;by_cases hjs:j<sn
    ·have hjn2:(j:Int)<(sn:Int):=by omega
     have hjf:j<Fr.length:=by rw [HFL.out];exact hjs
     have hfj:wr.cell? ⟨fb,j,none⟩=some (.bool Fr[j]):=by
      have h1:=(HFO.out.upd HUr.out (fun _ _ f=>f)).cell_ (i:=j) (by rw [bls_len];exact hjf);rw [h1];simp [bls]
     have htk2:=List.take_succ_eq_append_getElem hjf
     have hex:xpF (Fr.take (j+1)) 0 [Z]=if Fr[j] then xpS j (xpF (Fr.take j) 0 [Z]) else xpF (Fr.take j) 0 [Z]:=by
      rw [htk2,xpF_snoc,List.length_take,Nat.zero_add,Nat.min_eq_left (by omega)]
     have hj0:(0:Int)≤(j:Int):=by omega
     have hgr:=HGR.out j;have hgr2:=HGR.out (j+1);obtain ⟨O,HOO⟩:=nm (xpF (Fr.take j) 0 [Z]);rw [HOO.out] at HO hex hgr;obtain ⟨fr,Hfr⟩:=nm Fr[j];rw [Hfr.out] at hfj hex;have HEX:=h_ hex;clear hex htk2 hjf Hfr
     cases fr with
     | false =>
      have HO2:Hid (ElO ElRow 1 44 wr (U8B wr) OA on oc ((xpF (Fr.take (j+1)) 0 [Z]).map bbs)):=by rw [HEX.out];exact HO.out
      clear hgr hgr2;go_wp2_with fail
      go_roundg (sn - (j+1))
      case measure=>rw [Hg2.out];omega
      case rel=>exact ⟨j+1,OA,on,oc,rfl,by omega,rfl,by go_num,HO2.out,HAO.out,HUr.out⟩
     | true =>
      have HE2:Hid (xpF (Fr.take (j+1)) 0 [Z]=xpS j O):=HEX.out;have hon:on=O.length:=by rw [HO.out.1,List.length_map]
      have HON:=h_ hon;have hon64:on≤64:=by omega
      have HSW:Hid (ob≤wr.heap.size):=by have h1:=HUr.out.size;have h2:=HS6.out;show ob≤_;omega
      obtain ⟨wj,rfl⟩:∃x:World,x=wr:=⟨_,rfl⟩;clear hon hgr hgr2 HEX;go_wp2_with fail
      go_loopg [9,10] on (fun gg s9 s10 wr=>∃(k:Nat) (NA:Option Addr) (nn nc2:Nat),Hid (gg=on - k)∧k≤on∧s9=.slice NA nn nc2∧s10=.int .i64 k∧Hid (ElO ElRow 1 44 wr (U8B wr) NA nn nc2 ((xpS j (O.take k)).map bbs))∧Hid (∀i,At NA i→wj.heap.size≤i)∧Hid (Upd Non wj wr))
      case atStart=>exact ⟨0,none,0,0,rfl,by omega,rfl,rfl,by rw [List.take_zero];exact ElO.none_,fun i q=>(At.none_ q).elim,Upd.refl⟩
      case round =>
       obtain ⟨k,NA,nn,nc2,Hg3,hk3,rfl,rfl,HN,HAN,HUk⟩:=hrel;obtain ⟨wk,rfl⟩:∃x:World,x=wr:=⟨_,rfl⟩;by_cases hks:k<on
       ·have hkn:(k:Int)<(on:Int):=by omega
        have hkO:k<O.length:=by rw [←HON.out];exact hks
        have HOk:=h_ (HO.out.u8 elRow HUk.out (fun _ _ f=>f) (fun _ _ _ f=>f));obtain ⟨g,RA,rc,rfl,hcell,hrc,hsl⟩:=rows_at HOk.out (i:=k) (by rw [List.length_map];exact hkO);obtain ⟨x,Hx⟩:=nm O[k]
        have hxl:x.length=sn:=by
         rw [←Hx.out];refine HROW.out j _ ?_;rw [HOO.out];exact List.getElem_mem hkO
        have hrow:(O.map bbs)[k]'(by rw [List.length_map];exact hkO)=bbs x:=by rw [List.getElem_map,Hx.out]
        rw [hrow] at hcell hrc hsl;have hbl2:(bbs x).length=sn:=by unfold bbs;rw [List.length_map,hxl]
        rw [hbl2] at hcell hrc;have HSL:=h_ (hsl.mono (G:=fun i=>U8B wk i) (fun _ _ q=>q.1));have HX2:Hid (xpS j (O.take (k+1))=xpS j (O.take k)++[x,x.set j true]):=by show _=_;rw [xpS_snoc hkO,Hx.out]
        have HXL:=h_ hxl;have HBL2:=h_ hbl2;have hgl:g<wk.heap.size:=HOk.out.lt (At.some_.2 rfl);have hk0:(0:Int)≤(k:Int):=by omega
        obtain ⟨W7,HW7⟩:=nm (wk.alloc (.cells #[] 5));have u7:Upd Non wk W7:=by rw [←HW7.out];exact Upd.refl.alloc _
        have hoE:Own W7 5 1 (some ⟨wk.heap.size,0,none⟩) 0 0 []:=by rw [←HW7.out];exact own_empty _ _ _
        have hs7:=HSL.out.upd u7 (fun _ _ _ f=>f);clear hrow hsl hxl hbl2
        go_wp2_with (at_builtin;rw [HW7.out];refine wpList_app rfl rfl T_u8s rfl hoE rfl hs7 (by unfold u8s;rw [List.length_map,HBL2.out,Nat.mul_one]) (by intro u hu;unfold u8s at hu;obtain ⟨z,_,rfl⟩:=List.mem_map.1 hu;rfl) (by simp only [maxLen];omega) (by omega) ?_)
        intro A8 c8 w8 ho8 hu8 hat8;obtain ⟨cb,rfl⟩:=ho8.some_ hs0;have u8:Upd Non wk w8:=u7.trans hu8 (fun i hi q=>by rw [At.some_] at q;omega)
        have hcbW:wk.heap.size≤cb:=by
         rcases hat8 cb (At.some_.2 rfl) with q | q
         ·rw [At.some_] at q;omega
         ·have:=u7.size;omega
        have ho8b:Own w8 5 1 (some ⟨cb,0,none⟩) sn c8 (b8s x):=by rw [b8s_u8s];exact ho8
        obtain ⟨W9,HW9⟩:=nm (w8.setCell ⟨cb,j,none⟩ (.int .u8 1));have ho9:Own W9 5 1 (some ⟨cb,0,none⟩) sn c8 (b8s (x.set j true)):=by rw [←HW9.out,←b8s_set];exact ho8b.set_ j _
        have u9:Upd Non wk W9:=by rw [←HW9.out];exact u8.trans (updCell w8 cb j _) (fun i hi e=>by omega)
        have hcj:=ho8b.cell_ (i:=j) (by rw [b8s_len,HXL.out];exact hjs);have hfj2:=ho8b.frozen_ j;have hc9:=u_ (S:=Non) hcell u9 (fun f=>f);obtain ⟨hnn,csn,hoN,hCN⟩:=HN.out;have hoN9:=hoN.upd u9 (fun _ _ f=>f);have hg9:g<W9.heap.size:=Nat.lt_of_lt_of_le hgl u9.size
        have hnnb:nn≤128:=by
         rw [hnn,List.length_map,xpS_len,List.length_take,←HON.out];omega
        have HNN:=h_ hnn;have HHN:=h_ (And.intro hoN hCN);have HO9:=h_ ho9;have HU9:=h_ u9;have HCB:=h_ hcbW;clear ho8 hu8 hat8 u8 hoE hs7 u7 hcell hgl ho8b hnn hoN hCN ho9 hcbW
        go_upto_region 24 with fail
        rw [HW9.out];clear hcj hfj2 u9
        go_wp2_with (at_builtin;refine wpList_app rfl rfl T_rows rfl (hoN9.alloc _) rfl (Sl.new _ _ _) rfl (by simp [Value.oneCell']) (by simp only [maxLen];omega) (by omega) ?_)
        intro A10 c10 w10 ho10 hu10 hat10
        have HN10:Hid (ElO ElRow 1 44 w10 (U8B w10) A10 (nn+2) c10 ((xpS j (O.take (k+1))).map bbs)):=by
         obtain ⟨hoN,hCN⟩:=HHN.out;have hal:Upd Non wk (W9.alloc (.cells #[.slice RA sn rc,.slice (some ⟨cb,0,none⟩) sn c8] 44)):=HU9.out.alloc _
         have h1:ElRow (W9.alloc (.cells #[.slice RA sn rc,.slice (some ⟨cb,0,none⟩) sn c8] 44)) (fun i=>U8B (W9.alloc (.cells #[.slice RA sn rc,.slice (some ⟨cb,0,none⟩) sn c8] 44)) i∧¬At NA i) [.slice RA sn rc] (bbs x):=by
          refine ⟨RA,rc,by rw [HBL2.out],by rw [HBL2.out];exact hrc,?_⟩;refine (HSL.out.mono (G:=fun i=>U8B wk i∧¬At NA i) (fun i _ q=>⟨q,by obtain ⟨z,hb⟩:=q;exact hoN.ne_blk hb (by decide)⟩)).upd hal (fun _ _ _ f=>f) |>.mono (fun i _ q=>⟨q.1.upd hal (fun f=>f),q.2⟩)
         have ho9a:=HO9.out.alloc (.cells #[.slice RA sn rc,.slice (some ⟨cb,0,none⟩) sn c8] 44);have h2:=elRow_of (K:=fun i=>U8B (W9.alloc (.cells #[.slice RA sn rc,.slice (some ⟨cb,0,none⟩) sn c8] 44)) i∧¬At NA i) ho9a (by rw [List.length_set,HXL.out]) ⟨own_u8 ho9a,fun q=>by have h3:=hoN.lt q;have h4:=HCB.out;omega⟩
         rw [HX2.out,List.map_append];exact ElO.apps8 (w:=W9.alloc (.cells #[.slice RA sn rc,.slice (some ⟨cb,0,none⟩) sn c8] 44)) elRow HNN.out hCN hal ((ElCells.nil.snoc elRow h1).snoc elRow h2) rfl ho10 hu10 (fun i q=>(hat10 i q).imp id (fun z=>by rw [z];simp))
        have HA10:Hid (∀i,At A10 i→wj.heap.size≤i):=fun i q=>by
         have h1:=HUk.out.size;have h2:=HU9.out.size;rcases hat10 i q with q | q
         ·exact HAN.out i q
         ·omega
        have HU10:Hid (Upd Non wj w10):=(HUk.out.then_non (HU9.out.alloc _)).trans hu10 (fun i hi q=>by have:=HAN.out i q;omega);clear ho10 hu10 hat10 hoN9;go_wp2_with fail
        go_roundg (on - (k+1))
        case measure=>rw [Hg3.out];omega
        case rel=>exact ⟨k+1,A10,nn+2,c10,rfl,by omega,rfl,by go_num,HN10.out,HA10.out,HU10.out⟩
       ·obtain rfl:on=k:=by omega
        have HN2:Hid (ElO ElRow 1 44 wk (U8B wk) NA nn nc2 ((xpF (Fr.take (j+1)) 0 [Z]).map bbs)):=by
         have h:=HN.out;rw [List.take_of_length_le (by rw [←HON.out];exact Nat.le_refl _),←HE2.out] at h;exact h
        have HAN2:Hid (∀i,At NA i→ob≤i):=fun i q=>by have h1:=HAN.out i q;have h2:=HSW.out;omega
        go_wp2_with fail
        go_roundg (sn - (j+1))
        case measure=>rw [Hg2.out];omega
        case rel=>exact ⟨j+1,NA,nn,nc2,rfl,by omega,rfl,by go_num,HN2.out,HAN2.out,HUr.out.then_non HUk.out⟩
    ·obtain rfl:sn=j:=by omega
     have HFIN:Hid (ElO ElRow 1 44 wr (U8B wr) OA on oc ((rinF r).map bbs)):=by
      have h:=HO.out;rw [List.take_of_length_le (by rw [HFL.out];exact Nat.le_refl _)] at h;unfold rinF;rw [HFr.out,HZ.out];exact h
     go_wp2_with fail
     go_ret;exact ⟨OA,on,oc,rfl,HFIN.out,fun i q=>by have h1:=HAO.out i q;have h2:=HWS.out;have h3:=HW0.out;omega,HU.out.then_non (HU6.out.then_non HUr.out)⟩
def ltA (x y:Nat×List Bool):Prop:=x.1<y.1∨x.1=y.1∧ltB x.2 y.2=true
theorem lvls_srt (r:Rl):∀n,(lvls r n).Pairwise ltA
 | 0=>List.Pairwise.nil
 | n+1=>by
  rw [lvls_succ,List.pairwise_append];refine ⟨lvls_srt r n,List.pairwise_map.2 ((lvl_srt r n).imp fun h=>.inr ⟨rfl,h⟩),fun x hx y hy=>?_⟩;obtain ⟨b,_,rfl⟩:=List.mem_map.1 hy;exact .inl (mem_lvls.1 (show (x.1,x.2)∈lvls r n from hx)).1
def cnt0 (L:List (Nat×List Bool)):Nat:=L.countP fun x=>decide (x.1=0)
theorem lvls_cnt (r:Rl):∀n,cnt0 (lvls r (n+1))=(lvl r 0).length
 | 0=>by
  unfold cnt0;rw [lvls_succ,List.countP_append];show 0+_=_;rw [Nat.zero_add,List.countP_eq_length.2,List.length_map];intro x hx;obtain ⟨b,_,rfl⟩:=List.mem_map.1 hx;rfl
 | n+1=>by
  have ih:=lvls_cnt r n;unfold cnt0 at ih ⊢;rw [lvls_succ,List.countP_append,ih,List.countP_eq_zero.2,Nat.add_zero];intro x hx;obtain ⟨b,_,rfl⟩:=List.mem_map.1 hx;simp
theorem lvl0_len (r:Rl):(lvl r 0).length=2 ^ gR r:=by
 rw [←initsF_len r];exact ((List.perm_ext_iff_of_nodup (srt_nodup (lvl_srt r 0)) (initsF_nodup r)).2 fun x=>lvl_init).length_eq
theorem lvls_last (r:Rl) (n:Nat) (h:0<(lvls r (n+1)).length):((lvls r (n+1))[(lvls r (n+1)).length - 1]'(by omega)).1=n:=by
 have hne:=lvl_ne r n;have e:lvls r (n+1)=lvls r n++(lvl r n).map fun b=>(n,b):=lvls_succ r n
 have h1:=List.getLast_eq_getElem (show lvls r (n+1)≠[] from fun q=>by rw [q] at h;exact absurd h (by decide));rw [←h1]
 have h2:∀(x:Nat×List Bool) (l:List (Nat×List Bool)) (hl:l≠[]),l=lvls r n++(lvl r n).map (fun b=>(n,b))→(l.getLast hl).1=n:=by
  intro x l hl q;subst q;rw [List.getLast_append_of_ne_nil _ (by simpa using hne)];have:=List.getLast_mem (l:=(lvl r n).map fun b=>(n,b)) (by simpa using hne);obtain ⟨b,_,hb⟩:=List.mem_map.1 this;rw [←hb]
 exact h2 (0,[]) _ _ e
theorem cnt_succ {L:List (Nat×List Bool)} {j:Nat} (h:j<L.length):cnt0 (L.take (j+1))=cnt0 (L.take j)+(if L[j].1=0 then 1 else 0):=by
 unfold cnt0;rw [List.take_succ_eq_append_getElem h,List.countP_append,List.countP_singleton];simp
theorem elAS_at {w:World} {K:Nat→Prop} {g n c:Nat} {cs:List Value} {L:List (Nat×List Bool)} (hO:Own w 46 2 (some ⟨g,0,none⟩) n c cs) (hC:ElCells ElAS 2 w K cs (L.map asE)) {j:Nat} (hj:j<L.length) :
  ∃RA rc,w.cell? ⟨g,j * 2,none⟩=some (.int .i64 (L[j].1:Int))∧w.cell? ⟨g,j * 2+1,none⟩=some (.slice RA L[j].2.length rc)∧Sl w K RA (u8s (bbs L[j].2)):=by
 have hl:=hO.len;have hc:=hC.1;rw [List.length_map] at hc;obtain ⟨el,hel,RA,rc,he1,he2,he3⟩:=hC.get (i:=j) (by rw [List.length_map];exact hj);have k0:=hO.sl.cell2 (j:=2 * j+0) (by omega);have k1:=hO.sl.cell2 (j:=2 * j+1) (by omega);rw [hel 0 (by decide),he1,Nat.zero_add,Nat.add_zero] at k0;rw [hel 1 (by decide),he1,Nat.zero_add] at k1;simp only [List.getElem_map] at k0 k1 he3;refine ⟨RA,rc,?_,?_,he3⟩
 ·rw [Nat.mul_comm j 2];exact k0
 ·rw [Nat.mul_comm j 2,k1];simp [asE,bbs]
set_option maxRecDepth 100000 in
set_option maxHeartbeats 16000000 in
theorem auSorted_c (w:World) (F:Nat→Prop) (A:Option Addr) (c:Nat) (xs:List Int) (hx:Ints w F A xs) (hc:xs.length≤c) (hI:∀x∈xs,I64 x) (hn:xs.length≤100000000000000) :
  Calls Try.prog 6 #[.slice A xs.length c] w fun e w'=>e=.returned (.bool true)∧Upd Non w w':=by
 have CR:=h_ (aRule_c w F A c xs hx hc hI hn);have hz:=aRuleF_sz (xs.take 16);obtain ⟨R,HR⟩:=nm (aRuleF (xs.take 16));rw [HR.out] at hz CR;have HZ:=h_ hz;obtain ⟨l,Hl⟩:=nm xs.length;rw [Hl.out] at CR ⊢;clear hx hc hI hn hz;go_enter Try.func6,Try.ntmps6;go_wp2_with fail
 refine CR.out.mono ?_;rintro e w1 ⟨a,rfl,hk,u1⟩;obtain ⟨W1,HW1⟩:=nm (w1.alloc (.cells (rlCells R a) 28));have uW:Upd Non w1 W1:=by rw [←HW1.out];exact Upd.refl.alloc _
 obtain ⟨rb,hrb⟩:∃b,w1.heap.size=b:=⟨_,rfl⟩;have hb:Blk W1 rb 28 (rlCells R a):=by rw [←HW1.out,←hrb];exact Blk.new _ _ _
 have hk1:=(hk.mono (G:=fun k=>k<w1.heap.size) (fun _ h _=>h)).upd uW (fun _ _ _ f=>f);have HU:=h_ (u1.then_non uW);have HK:=h_ hk1;have HB:=h_ hb;have CP:=h_ (aProve_c R a _ W1 hk1 HZ.out);have e1:=HW1.out;unfold rlCells at e1;unfold rlv rlCells at CP ⊢;obtain ⟨c0,c1,c2,c3,c4,c5,c6,c7,c8,c9,c10,c11,c12,c13⟩:=rl_cells hb;clear hk hk1 u1 uW hb CR
 go_upto_region 2 with fail
 clear e1 hrb;go_wp2_with fail
 refine CP.out.mono ?_;rintro e w2 hP;obtain ⟨u2,hP⟩:=hP;clear CP c0 c1 c2 c3 c4 c5 c6 c7 c8 c9 c10 c11 c12 c13;have HU2:=h_ (HU.out.then_non u2);have HK2:=h_ (HK.out.upd u2 (fun _ _ _ f=>f));have HB2:=h_ (HB.out.upd u2 (fun f=>f));rcases hP with ⟨L,OA,on,oc,hL,rfl,hO,_⟩ | ⟨_,rfl⟩
 rotate_left
 ·clear u2;go_wp2_with fail
  refine (auExamples_c _).mono ?_;rintro e w9 ⟨rfl,u9⟩;go_wp2_with fail
  go_ret;exact ⟨rfl,HU2.out.then_non u9⟩
 ·obtain ⟨happ,_,_,hLL⟩:=autF_some.1 hL;have hlong:=lvls_long R 65;have hsrt:=lvls_srt R 65;have hcnt:=lvls_cnt R 64;rw [lvl0_len] at hcnt
  have hlast:∀M,M=lvls R 65→∀m,m=M.length - 1→∀h:m<M.length,(M[m]'h).1=64:=fun M q m qm h=>by
   subst q qm;exact lvls_last R 64 (Nat.lt_of_lt_of_le (by decide) (lvls_long R 65))
  have hrows:∀x∈L,x.1≤64∧x.2.length=stN R:=fun x hx=>by
   rw [hLL] at hx;have h:=mem_lvls.1 (show (x.1,x.2)∈lvls R 65 from hx);exact ⟨by omega,lvl_len (applF_sup happ).1 (applF_sup happ).2 _ _ h.2⟩
  rw [←hLL] at hlong hsrt hcnt;have hlast:=hlast L hLL;obtain ⟨hon,cs,hown,hC⟩:=hO;rw [List.length_map] at hon;have hon65:65≤on:=by rw [hon];exact hlong
  have hstn:=stN_le (imok_of (ub_sup happ).2);have hst0:0<stN R:=by unfold stN;omega
  have hg6:=(ub_sup happ).1;have HON:=h_ hon;obtain ⟨g,rfl⟩:=hown.some_ (by omega);have HOW:=h_ hown;have HCL:Hid (ElCells ElAS 2 w2 (fun _=>True) cs (L.map asE)):=hC.mono elAS (Upd.refl (S:=Non)) (fun _ _ _ f=>f) (fun _ _ _=>trivial);have HSRT:=h_ hsrt;have HCNT:=h_ hcnt;have HROWS:=h_ hrows;have HLAST:Hid (∀h:on - 1<L.length,(L[on - 1]'h).1=64):=hlast _ (by rw [hon]);have hL4:on≤4096:=by rw [hon,hLL];have:=(autF_some.1 hL).2.1;exact this
  have CI:=h_ (rInitStates_c R a _ w2 HK2.out happ);unfold rlv rlCells at CI;obtain ⟨c0,c1,c2,c3,c4,c5,c6,c7,c8,c9,c10,c11,c12,c13⟩:=rl_cells HB2.out;clear u2 hL happ hLL hlong hsrt hcnt hlast hrows hown hC hon;go_wp2_with fail
  refine CI.out.mono ?_;rintro e w3 ⟨FA,fn,fc,rfl,hF,_,u3⟩;have HU3:=h_ (HU2.out.then_non u3);have hfn:fn=2 ^ gR R:=by rw [hF.1,List.length_map,rinF_len]
  have hfn0:0<fn:=by rw [hfn];exact Nat.two_pow_pos _
  have hfn6:fn≤64:=by rw [hfn];exact Nat.le_trans (Nat.pow_le_pow_right (by decide) hg6) (by decide)
  have hrl:0<(rinF R).length:=by rw [rinF_len];exact Nat.two_pow_pos _
  obtain ⟨fg,FR,frc,rfl,hfc,hq1,hq2⟩:=rows_at hF (i:=0) (by rw [List.length_map];exact hrl);have hf0:((rinF R).map bbs)[0]'(by rw [List.length_map];exact hrl)=bbs (rinF R)[0]:=List.getElem_map ..;have hf0l:(((rinF R).map bbs)[0]'(by rw [List.length_map];exact hrl)).length=stN R:=by rw [hf0];unfold bbs;rw [List.length_map,rinF_rows R _ (List.getElem_mem hrl)]
  rw [hf0l] at hfc;have HFC:=h_ hfc;have HFN:=h_ hfn;have HOW3:=h_ (HOW.out.upd u3 (fun _ _ f=>f));have HCL3:Hid (ElCells ElAS 2 w3 (fun _=>True) cs (L.map asE)):=HCL.out.mono elAS u3 (fun _ _ _ f=>f) (fun _ _ h=>h);obtain ⟨sn,Hsn⟩:=nm (stN R);rw [Hsn.out] at HFC HROWS hstn hst0;clear c0 c1 c2 c3 c4 c5 c6 c7 c8 c9 c10 c11 c12 c13 u3 CI hF hfn hf0 hf0l hfc hq1 hq2 hrl hg6;go_wp2_with fail
  go_loopg [7,29] on (fun gg s7 s29 wr=>∃j:Nat,Hid (gg=on - j)∧j≤on∧s29=.int .i64 j∧s7=.int .i64 (cnt0 (L.take j):Nat)∧Hid (Upd Non w3 wr))
  case atStart=>exact ⟨0,rfl,by omega,rfl,by rw [List.take_zero];rfl,Upd.refl⟩
  case round =>
   obtain ⟨j,Hgg,hj,rfl,rfl,HUr⟩:=hrel;have hcl:cnt0 (L.take j)≤5000:=Nat.le_trans List.countP_le_length (by rw [List.length_take,←HON.out];omega);by_cases hlt:j<on
   ·have hjl:j<L.length:=by rw [←HON.out];exact hlt
    have hjn:(j:Int)<(on:Int):=by omega
    have hj0:(0:Int)≤(j:Int):=by omega
    have HOr:=h_ (HOW3.out.upd HUr.out (fun _ _ f=>f));have HCr:Hid (ElCells ElAS 2 wr (fun _=>True) cs (L.map asE)):=HCL3.out.mono elAS HUr.out (fun _ _ _ f=>f) (fun _ _ h=>h);obtain ⟨RA,rc,k0,k1,hsl⟩:=elAS_at HOr.out HCr.out hjl;obtain ⟨h64,hlen⟩:=HROWS.out _ (List.getElem_mem hjl);have hcs:=cnt_succ hjl;rw [hlen] at k1;have HLN:=h_ hlen;have hgl:g<wr.heap.size:=HOr.out.lt (At.some_.2 rfl);obtain ⟨kj,Hkj⟩:=nm L[j].1;rw [Hkj.out] at k0 h64 hcs;have HSL:=h_ hsl;have HCS:=h_ hcs;obtain ⟨cn,Hcn⟩:=nm (cnt0 (L.take j));rw [Hcn.out] at HCS hcl ⊢;obtain ⟨cb,hcb⟩:∃b,wr.heap.size=b:=⟨_,rfl⟩;obtain ⟨W5,HW5⟩:=nm (wr.alloc (.cells #[.int .i64 (kj:Int),.slice RA sn rc] 46));have u5:Upd Non wr W5:=by rw [←HW5.out];exact Upd.refl.alloc _
    have hb5:Blk W5 cb 46 #[.int .i64 (kj:Int),.slice RA sn rc]:=by rw [←HW5.out,←hcb];exact Blk.new _ _ _
    have HB5:=h_ hb5;have HU5:=h_ u5;have t1:decide ((kj:Int)<0)=false:=dF_ (by omega);have t2:decide ((kj:Int) > 64)=false:=dF_ (by omega);have z0:=hb5.cell 0;have z1:=hb5.cell 1;have zf:=u_ (S:=Non) HFC.out (HUr.out.then_non u5) (fun f=>f);have e5:=HW5.out;clear hsl hcs hb5 u5 hlen
    go_upto_region 10 with fail
    clear e5 k0 k1 hgl;refine wp_region_held_drew (S:=fun w'=>w'.cell? ⟨cb,0,none⟩=some (.int .i64 (kj:Int))∧w'.cell? ⟨cb,1,none⟩=some (.slice RA sn rc)∧w'.cell? ⟨fg,0,none⟩=some (.slice FR sn frc)) (by kernel_rfl) ⟨z0,z1,zf⟩ (fun hHeld=>?_)
    refine wpT 0 ?_;(try simp only [y_,z_]);refine wpT 1 ?_;(try simp only [y_,z_]);refine wpT 2 ?_;(try simp only [y_,z_]);refine wpT 3 ?_;(try simp only [y_,z_]);refine wpT 4 ?_;(try simp only [y_,z_]);refine wpT 5 ?_;(try simp only [y_,z_]);refine wpT 6 ?_;(try simp only [y_,z_]);refine wpT 7 ?_;(try simp only [y_,z_]);refine wpT 8 ?_;(try simp only [y_,z_]);refine wpT 9 ?_;(try simp only [y_,z_]);refine wpT 10 ?_;(try simp only [y_,z_]);refine wpT 11 ?_;(try simp only [y_,z_]);refine wpT 12 ?_;(try simp only [y_,z_]);refine wpT 13 ?_;(try simp only [y_,z_]);refine wpT 14 ?_;(try simp only [y_,z_]);refine wpT 15 ?_;(try simp only [y_,z_]);refine wpT 16 ?_;(try simp only [y_,z_]);refine wpT 17 ?_;(try simp only [y_,z_]);refine aD_ (by kernel_rfl) ?_ _;clear hHeld z0 z1 zf;obtain ⟨W6,HW6⟩:=nm W5.drew;have u6:Upd Non W5 W6:=by rw [←HW6.out];exact Upd.refl.drew
    have HU6:=h_ (HU5.out.then_non u6);have hb6:=HB5.out.upd u6 (fun f=>f);have z0:=hb6.cell 0;have z1:=hb6.cell 1;have HB6:=h_ hb6;rw [HW6.out];obtain ⟨cn2,Hcn2⟩:=nm (cnt0 (L.take (j+1)));rw [Hcn2.out] at HCS;have HU36:=h_ (HUr.out.then_non HU6.out);clear u6 hb6;by_cases hk0:kj=0
    ·have tk:((kj:Int)==0)=true:=by rw [hk0];rfl
     have hc2:cn2=cn+1:=by rw [HCS.out,if_pos hk0]
     have hc3:(cn:Int)+1=(cn2:Int):=by omega
     have HC3:=h_ hc3;have hcb2:cn+1≤5001:=by omega
     clear hc2 hc3 hk0
     go_upto_region 14 with fail
     try rw [HC3.out]
     by_cases hj00:j=0
     ·have tj:decide ((j:Int) > 0)=false:=dF_ (by omega);refine wp_region_held_drew (S:=fun w'=>w'.cell? ⟨cb,0,none⟩=some (.int .i64 (kj:Int))∧w'.cell? ⟨cb,1,none⟩=some (.slice RA sn rc)) (by kernel_rfl) ⟨z0,z1⟩ (fun hHeld=>?_)
      refine wpT 0 ?_;(try simp only [y_,z_]);refine wpT 1 ?_;(try simp only [y_,z_]);refine wpT 2 ?_;(try simp only [y_,z_]);refine wpU 3 ?_;(try simp only [y_,z_]);refine wpU 4 ?_;(try simp only [y_,z_]);refine wpU 5 ?_;(try simp only [y_,z_]);refine wpU 6 ?_;(try simp only [y_,z_]);refine wpU 7 ?_;(try simp only [y_,z_]);refine wpU 8 ?_;(try simp only [y_,z_]);refine wpU 9 ?_;(try simp only [y_,z_]);refine wpU 10 ?_;(try simp only [y_,z_]);refine wpU 11 ?_;(try simp only [y_,z_]);refine wpU 12 ?_;(try simp only [y_,z_]);refine wpU 13 ?_;(try simp only [y_,z_]);refine wpU 14 ?_;(try simp only [y_,z_]);refine wpU 15 ?_;(try simp only [y_,z_]);refine wpU 16 ?_;(try simp only [y_,z_]);refine wpU 17 ?_;(try simp only [y_,z_]);refine wpU 18 ?_;(try simp only [y_,z_]);refine wpU 19 ?_;(try simp only [y_,z_]);refine wpU 20 ?_;(try simp only [y_,z_]);refine wpU 21 ?_;(try simp only [y_,z_]);refine wpU 22 ?_;(try simp only [y_,z_]);refine wpU 23 ?_;(try simp only [y_,z_]);refine wpU 24 ?_
      (try simp only [y_,z_]);refine wpU 25 ?_;(try simp only [y_,z_]);refine wpU 26 ?_;(try simp only [y_,z_]);refine wpU 27 ?_;(try simp only [y_,z_]);refine wpU 28 ?_;(try simp only [y_,z_]);refine wpU 29 ?_;(try simp only [y_,z_]);refine wpU 30 ?_;(try simp only [y_,z_]);refine wpU 31 ?_;(try simp only [y_,z_]);refine wpU 32 ?_;(try simp only [y_,z_]);refine wpU 33 ?_;(try simp only [y_,z_]);refine wpU 34 ?_;(try simp only [y_,z_]);refine wpU 35 ?_;(try simp only [y_,z_]);refine wpT 36 ?_;(try simp only [y_,z_]);refine aD_ (by kernel_rfl) ?_ _;clear hHeld z0 z1;go_wp2_with fail
      go_roundg (on - (j+1))
      case measure=>rw [Hgg.out];omega
      case rel=>exact ⟨j+1,rfl,by omega,by go_num,by rw [Hcn2.out],HU36.out.drewN 1⟩
     ·obtain ⟨p,Hp⟩:∃p:Nat,Hid (j=p+1):=⟨j - 1,by show j=_;omega⟩;have tj:decide ((j:Int) > 0)=true:=dT_ (by omega);have tjn:decide (0<j)=true:=dT_ (by omega);have hpj:p<j:=by rw [Hp.out];exact Nat.lt_succ_self p
      have hpl:p<L.length:=Nat.lt_trans hpj hjl;have hlt2:=List.pairwise_iff_getElem.1 HSRT.out p j hpl hjl hpj;obtain ⟨RP,rp,m0,m1,hslp⟩:=elAS_at (HOr.out.upd HU6.out (fun _ _ f=>f)) (HCr.out.mono elAS HU6.out (fun _ _ _ f=>f) (fun _ _ h=>h)) hpl;have hlenp:=(HROWS.out _ (List.getElem_mem hpl)).2;have hlenj:=HLN.out;have hslj:=HSL.out.upd HU6.out (fun _ _ _ f=>f);rw [hlenp] at m1;have lp:sn=(bbs L[p].2).length:=by unfold bbs;rw [List.length_map,hlenp]
      have lj:sn=(bbs L[j].2).length:=by unfold bbs;rw [List.length_map,hlenj]
      obtain ⟨W7,HW7⟩:=nm W6.drew;have u7:Upd Non W6 W7:=by rw [←HW7.out];exact Upd.refl.drew
      have r1:=run_rowstr (c:=rc) (hslj.upd u7 (fun _ _ _ f=>f)) lj;have r2:=run_rowstr (c:=rp) (hslp.upd u7 (fun _ _ _ f=>f)) lp
      have HLE:Hid (L[p].1=L[j].1→Op.bytesLess (kstr (bbs L[j].2)).toList (kstr (bbs L[p].2)).toList=false∧((kstr (bbs L[j].2)).toList==(kstr (bbs L[p].2)).toList)=false):=fun e=>by
       rw [kstr_toList,kstr_toList,bytesLess_bbs];rcases hlt2 with q | q
       ·omega
       ·refine ⟨?_,?_⟩
        ·rw [Bool.eq_false_iff];intro h;have:=ltB_trans q.2 h;rw [ltB_irrefl] at this;cases this
        ·rw [beq_eq_false_iff_ne];intro h;have h2:=q.2;rw [bbs_inj h,ltB_irrefl] at h2;cases h2
      have hkk:L[p].1≤L[j].1:=by
       rcases hlt2 with q | q
       ·exact Nat.le_of_lt q
       ·exact Nat.le_of_eq q.1
      rw [Hkj.out] at hkk HLE;obtain ⟨kp,Hkp⟩:=nm L[p].1;rw [Hkp.out] at hkk HLE m0;generalize kstr (bbs L[j].2)=sj at r1 HLE;generalize kstr (bbs L[p].2)=sp at r2 HLE;have v0:=u_ (S:=Non) z0 u7 (fun f=>f);have v1:=u_ (S:=Non) z1 u7 (fun f=>f);have v2:=u_ (S:=Non) m0 u7 (fun f=>f);have v3:=u_ (S:=Non) m1 u7 (fun f=>f);have HU37:=h_ (HU36.out.then_non u7);have q1:IntKind.i64.wrap ((j:Int) - 1)=(p:Int):=by rw [i64w_of (by unfold I64;omega)];have:=Hp.out;omega
      have q2:(0:Int)≤(p:Int):=by omega
      have q3:(p:Int)<(on:Int):=by omega
      have w1:decide ((kj:Int)<(kp:Int))=false:=dF_ (by omega);have w1n:decide (kj<kp)=false:=dF_ (by omega);clear z0 z1 m0 m1 hslp hlenp hlenj hslj lp lj u7 hlt2 hj00;by_cases hkp:kp=kj
      ·have HLE2:=HLE.out hkp;have w2:((kj:Int)==(kp:Int))=true:=by rw [hkp];simp
       have w2n:(kj==kp)=true:=by rw [hkp];simp
       have w2d:decide (kj=kp)=true:=by rw [hkp];simp
       clear hkk HLE hkp;refine wp_region_held_drew (S:=fun w'=>w'.cell? ⟨cb,0,none⟩=some (.int .i64 (kj:Int))∧w'.cell? ⟨cb,1,none⟩=some (.slice RA sn rc)∧w'.cell? ⟨g,p * 2,none⟩=some (.int .i64 (kp:Int))∧w'.cell? ⟨g,p * 2+1,none⟩=some (.slice RP sn rp)∧(convert 44 9 (.slice RA sn rc)).run Try.prog w'=.ok (.string sj) w'∧(convert 44 9 (.slice RP sn rp)).run Try.prog w'=.ok (.string sp) w') (by kernel_rfl) (by rw [HW7.out];exact ⟨v0,v1,v2,v3,r1,r2⟩) (fun hHeld=>?_)
       rw [HW7.out] at hHeld ⊢;refine wpT 0 ?_;(try simp only [y_,z_]);refine wpT 1 ?_;(try simp only [y_,z_]);refine wpT 2 ?_;(try simp only [y_,z_]);refine wpT 3 ?_;(try simp only [y_,z_]);refine wpT 4 ?_;(try simp only [y_,z_]);refine wpT 5 ?_;(try simp only [y_,z_]);refine wpT 6 ?_;(try simp only [y_,z_]);refine wpT 7 ?_;(try simp only [y_,z_]);refine wpT 8 ?_;(try simp only [y_,z_]);refine wpT 9 ?_;(try simp only [y_,z_]);refine wpT 10 ?_;(try simp only [y_,z_]);refine wpT 11 ?_;(try simp only [y_,z_]);refine wpT 12 ?_;(try simp only [y_,z_]);refine wpT 13 ?_;(try simp only [y_,z_]);refine wpT 14 ?_;(try simp only [y_,z_]);refine wpT 15 ?_;(try simp only [y_,z_]);refine wpT 16 ?_;(try simp only [y_,z_]);refine wpT 17 ?_;(try simp only [y_,z_]);refine wpT 18 ?_;(try simp only [y_,z_]);refine wpT 19 ?_;(try simp only [y_,z_]);refine wpT 20 ?_;(try simp only [y_,z_]);refine wpT 21 ?_;(try simp only [y_,z_]);refine wpT 22 ?_;(try simp only [y_,z_]);refine wpT 23 ?_;(try simp only [y_,z_]);refine wpT 24 ?_
       (try simp only [y_,z_]);refine wpT 25 ?_;(try simp only [y_,z_]);refine wpT 26 ?_;(try simp only [y_,z_]);refine wpT 27 ?_;(try simp only [y_,z_]);refine wpT 28 ?_;(try simp only [y_,z_]);refine wpT 29 ?_;(try simp only [y_,z_]);refine wpT 30 ?_;(try simp only [y_,z_]);refine wpT 31 ?_;(try simp only [y_,z_]);refine wpT 32 ?_;(try simp only [y_,z_]);refine wpT 33 ?_;(try simp only [y_,z_]);refine wpT 34 ?_;(try simp only [y_,z_]);refine wpT 35 ?_;(try simp only [y_,z_]);refine wpT 36 ?_;(try simp only [y_,z_]);refine aD_ (by kernel_rfl) ?_ _;clear hHeld v0 v1 v2 v3 r1 r2;go_wp2_with fail
       go_roundg (on - (j+1))
       case measure=>rw [Hgg.out];omega
       case rel=>exact ⟨j+1,rfl,by omega,by go_num,by rw [Hcn2.out],HU37.out⟩
      ·have w2:((kj:Int)==(kp:Int))=false:=by simp;omega
       have w2n:(kj==kp)=false:=by simp;omega
       have w2d:decide (kj=kp)=false:=dF_ (by omega);clear hkk HLE hkp;refine wp_region_held_drew (S:=fun w'=>w'.cell? ⟨cb,0,none⟩=some (.int .i64 (kj:Int))∧w'.cell? ⟨cb,1,none⟩=some (.slice RA sn rc)∧w'.cell? ⟨g,p * 2,none⟩=some (.int .i64 (kp:Int))∧w'.cell? ⟨g,p * 2+1,none⟩=some (.slice RP sn rp)∧(convert 44 9 (.slice RA sn rc)).run Try.prog w'=.ok (.string sj) w'∧(convert 44 9 (.slice RP sn rp)).run Try.prog w'=.ok (.string sp) w') (by kernel_rfl) (by rw [HW7.out];exact ⟨v0,v1,v2,v3,r1,r2⟩) (fun hHeld=>?_)
       rw [HW7.out] at hHeld ⊢;refine wpT 0 ?_;(try simp only [y_,z_]);refine wpT 1 ?_;(try simp only [y_,z_]);refine wpT 2 ?_;(try simp only [y_,z_]);refine wpT 3 ?_;(try simp only [y_,z_]);refine wpT 4 ?_;(try simp only [y_,z_]);refine wpT 5 ?_;(try simp only [y_,z_]);refine wpT 6 ?_;(try simp only [y_,z_]);refine wpT 7 ?_;(try simp only [y_,z_]);refine wpT 8 ?_;(try simp only [y_,z_]);refine wpT 9 ?_;(try simp only [y_,z_]);refine wpT 10 ?_;(try simp only [y_,z_]);refine wpT 11 ?_;(try simp only [y_,z_]);refine wpT 12 ?_;(try simp only [y_,z_]);refine wpT 13 ?_;(try simp only [y_,z_]);refine wpT 14 ?_;(try simp only [y_,z_]);refine wpT 15 ?_;(try simp only [y_,z_]);refine wpT 16 ?_;(try simp only [y_,z_]);refine wpT 17 ?_;(try simp only [y_,z_]);refine wpT 18 ?_;(try simp only [y_,z_]);refine wpT 19 ?_;(try simp only [y_,z_]);refine wpT 20 ?_;(try simp only [y_,z_]);refine wpT 21 ?_;(try simp only [y_,z_]);refine wpT 22 ?_;(try simp only [y_,z_]);refine wpU 23 ?_;(try simp only [y_,z_]);refine wpU 24 ?_
       (try simp only [y_,z_]);refine wpU 25 ?_;(try simp only [y_,z_]);refine wpU 26 ?_;(try simp only [y_,z_]);refine wpU 27 ?_;(try simp only [y_,z_]);refine wpU 28 ?_;(try simp only [y_,z_]);refine wpU 29 ?_;(try simp only [y_,z_]);refine wpU 30 ?_;(try simp only [y_,z_]);refine wpU 31 ?_;(try simp only [y_,z_]);refine wpU 32 ?_;(try simp only [y_,z_]);refine wpU 33 ?_;(try simp only [y_,z_]);refine wpT 34 ?_;(try simp only [y_,z_]);refine wpT 35 ?_;(try simp only [y_,z_]);refine wpT 36 ?_;(try simp only [y_,z_]);refine aD_ (by kernel_rfl) ?_ _;clear hHeld v0 v1 v2 v3 r1 r2;go_wp2_with fail
       go_roundg (on - (j+1))
       case measure=>rw [Hgg.out];omega
       case rel=>exact ⟨j+1,rfl,by omega,by go_num,by rw [Hcn2.out],HU37.out⟩
    ·have tk:((kj:Int)==0)=false:=by simp;omega
     have hc2:cn=cn2:=by rw [HCS.out,if_neg hk0,Nat.add_zero]
     have HC3:Hid ((0:Nat)=0):=rfl;clear hk0;subst hc2
     go_upto_region 14 with fail
     try rw [HC3.out]
     by_cases hj00:j=0
     ·have tj:decide ((j:Int) > 0)=false:=dF_ (by omega);refine wp_region_held_drew (S:=fun w'=>w'.cell? ⟨cb,0,none⟩=some (.int .i64 (kj:Int))∧w'.cell? ⟨cb,1,none⟩=some (.slice RA sn rc)) (by kernel_rfl) ⟨z0,z1⟩ (fun hHeld=>?_)
      refine wpT 0 ?_;(try simp only [y_,z_]);refine wpT 1 ?_;(try simp only [y_,z_]);refine wpT 2 ?_;(try simp only [y_,z_]);refine wpU 3 ?_;(try simp only [y_,z_]);refine wpU 4 ?_;(try simp only [y_,z_]);refine wpU 5 ?_;(try simp only [y_,z_]);refine wpU 6 ?_;(try simp only [y_,z_]);refine wpU 7 ?_;(try simp only [y_,z_]);refine wpU 8 ?_;(try simp only [y_,z_]);refine wpU 9 ?_;(try simp only [y_,z_]);refine wpU 10 ?_;(try simp only [y_,z_]);refine wpU 11 ?_;(try simp only [y_,z_]);refine wpU 12 ?_;(try simp only [y_,z_]);refine wpU 13 ?_;(try simp only [y_,z_]);refine wpU 14 ?_;(try simp only [y_,z_]);refine wpU 15 ?_;(try simp only [y_,z_]);refine wpU 16 ?_;(try simp only [y_,z_]);refine wpU 17 ?_;(try simp only [y_,z_]);refine wpU 18 ?_;(try simp only [y_,z_]);refine wpU 19 ?_;(try simp only [y_,z_]);refine wpU 20 ?_;(try simp only [y_,z_]);refine wpU 21 ?_;(try simp only [y_,z_]);refine wpU 22 ?_;(try simp only [y_,z_]);refine wpU 23 ?_;(try simp only [y_,z_]);refine wpU 24 ?_
      (try simp only [y_,z_]);refine wpU 25 ?_;(try simp only [y_,z_]);refine wpU 26 ?_;(try simp only [y_,z_]);refine wpU 27 ?_;(try simp only [y_,z_]);refine wpU 28 ?_;(try simp only [y_,z_]);refine wpU 29 ?_;(try simp only [y_,z_]);refine wpU 30 ?_;(try simp only [y_,z_]);refine wpU 31 ?_;(try simp only [y_,z_]);refine wpU 32 ?_;(try simp only [y_,z_]);refine wpU 33 ?_;(try simp only [y_,z_]);refine wpU 34 ?_;(try simp only [y_,z_]);refine wpU 35 ?_;(try simp only [y_,z_]);refine wpT 36 ?_;(try simp only [y_,z_]);refine aD_ (by kernel_rfl) ?_ _;clear hHeld z0 z1;go_wp2_with fail
      go_roundg (on - (j+1))
      case measure=>rw [Hgg.out];omega
      case rel=>exact ⟨j+1,rfl,by omega,by go_num,by rw [Hcn2.out],HU36.out.drewN 1⟩
     ·obtain ⟨p,Hp⟩:∃p:Nat,Hid (j=p+1):=⟨j - 1,by show j=_;omega⟩;have tj:decide ((j:Int) > 0)=true:=dT_ (by omega);have tjn:decide (0<j)=true:=dT_ (by omega);have hpj:p<j:=by rw [Hp.out];exact Nat.lt_succ_self p
      have hpl:p<L.length:=Nat.lt_trans hpj hjl;have hlt2:=List.pairwise_iff_getElem.1 HSRT.out p j hpl hjl hpj;obtain ⟨RP,rp,m0,m1,hslp⟩:=elAS_at (HOr.out.upd HU6.out (fun _ _ f=>f)) (HCr.out.mono elAS HU6.out (fun _ _ _ f=>f) (fun _ _ h=>h)) hpl;have hlenp:=(HROWS.out _ (List.getElem_mem hpl)).2;have hlenj:=HLN.out;have hslj:=HSL.out.upd HU6.out (fun _ _ _ f=>f);rw [hlenp] at m1;have lp:sn=(bbs L[p].2).length:=by unfold bbs;rw [List.length_map,hlenp]
      have lj:sn=(bbs L[j].2).length:=by unfold bbs;rw [List.length_map,hlenj]
      obtain ⟨W7,HW7⟩:=nm W6.drew;have u7:Upd Non W6 W7:=by rw [←HW7.out];exact Upd.refl.drew
      have r1:=run_rowstr (c:=rc) (hslj.upd u7 (fun _ _ _ f=>f)) lj;have r2:=run_rowstr (c:=rp) (hslp.upd u7 (fun _ _ _ f=>f)) lp
      have HLE:Hid (L[p].1=L[j].1→Op.bytesLess (kstr (bbs L[j].2)).toList (kstr (bbs L[p].2)).toList=false∧((kstr (bbs L[j].2)).toList==(kstr (bbs L[p].2)).toList)=false):=fun e=>by
       rw [kstr_toList,kstr_toList,bytesLess_bbs];rcases hlt2 with q | q
       ·omega
       ·refine ⟨?_,?_⟩
        ·rw [Bool.eq_false_iff];intro h;have:=ltB_trans q.2 h;rw [ltB_irrefl] at this;cases this
        ·rw [beq_eq_false_iff_ne];intro h;have h2:=q.2;rw [bbs_inj h,ltB_irrefl] at h2;cases h2
      have hkk:L[p].1≤L[j].1:=by
       rcases hlt2 with q | q
       ·exact Nat.le_of_lt q
       ·exact Nat.le_of_eq q.1
      rw [Hkj.out] at hkk HLE;obtain ⟨kp,Hkp⟩:=nm L[p].1;rw [Hkp.out] at hkk HLE m0;generalize kstr (bbs L[j].2)=sj at r1 HLE;generalize kstr (bbs L[p].2)=sp at r2 HLE;have v0:=u_ (S:=Non) z0 u7 (fun f=>f);have v1:=u_ (S:=Non) z1 u7 (fun f=>f);have v2:=u_ (S:=Non) m0 u7 (fun f=>f);have v3:=u_ (S:=Non) m1 u7 (fun f=>f);have HU37:=h_ (HU36.out.then_non u7);have q1:IntKind.i64.wrap ((j:Int) - 1)=(p:Int):=by rw [i64w_of (by unfold I64;omega)];have:=Hp.out;omega
      have q2:(0:Int)≤(p:Int):=by omega
      have q3:(p:Int)<(on:Int):=by omega
      have w1:decide ((kj:Int)<(kp:Int))=false:=dF_ (by omega);have w1n:decide (kj<kp)=false:=dF_ (by omega);clear z0 z1 m0 m1 hslp hlenp hlenj hslj lp lj u7 hlt2 hj00;by_cases hkp:kp=kj
      ·have HLE2:=HLE.out hkp;have w2:((kj:Int)==(kp:Int))=true:=by rw [hkp];simp
       have w2n:(kj==kp)=true:=by rw [hkp];simp
       have w2d:decide (kj=kp)=true:=by rw [hkp];simp
       clear hkk HLE hkp;refine wp_region_held_drew (S:=fun w'=>w'.cell? ⟨cb,0,none⟩=some (.int .i64 (kj:Int))∧w'.cell? ⟨cb,1,none⟩=some (.slice RA sn rc)∧w'.cell? ⟨g,p * 2,none⟩=some (.int .i64 (kp:Int))∧w'.cell? ⟨g,p * 2+1,none⟩=some (.slice RP sn rp)∧(convert 44 9 (.slice RA sn rc)).run Try.prog w'=.ok (.string sj) w'∧(convert 44 9 (.slice RP sn rp)).run Try.prog w'=.ok (.string sp) w') (by kernel_rfl) (by rw [HW7.out];exact ⟨v0,v1,v2,v3,r1,r2⟩) (fun hHeld=>?_)
       rw [HW7.out] at hHeld ⊢;refine wpT 0 ?_;(try simp only [y_,z_]);refine wpT 1 ?_;(try simp only [y_,z_]);refine wpT 2 ?_;(try simp only [y_,z_]);refine wpT 3 ?_;(try simp only [y_,z_]);refine wpT 4 ?_;(try simp only [y_,z_]);refine wpT 5 ?_;(try simp only [y_,z_]);refine wpT 6 ?_;(try simp only [y_,z_]);refine wpT 7 ?_;(try simp only [y_,z_]);refine wpT 8 ?_;(try simp only [y_,z_]);refine wpT 9 ?_;(try simp only [y_,z_]);refine wpT 10 ?_;(try simp only [y_,z_]);refine wpT 11 ?_;(try simp only [y_,z_]);refine wpT 12 ?_;(try simp only [y_,z_]);refine wpT 13 ?_;(try simp only [y_,z_]);refine wpT 14 ?_;(try simp only [y_,z_]);refine wpT 15 ?_;(try simp only [y_,z_]);refine wpT 16 ?_;(try simp only [y_,z_]);refine wpT 17 ?_;(try simp only [y_,z_]);refine wpT 18 ?_;(try simp only [y_,z_]);refine wpT 19 ?_;(try simp only [y_,z_]);refine wpT 20 ?_;(try simp only [y_,z_]);refine wpT 21 ?_;(try simp only [y_,z_]);refine wpT 22 ?_;(try simp only [y_,z_]);refine wpT 23 ?_;(try simp only [y_,z_]);refine wpT 24 ?_
       (try simp only [y_,z_]);refine wpT 25 ?_;(try simp only [y_,z_]);refine wpT 26 ?_;(try simp only [y_,z_]);refine wpT 27 ?_;(try simp only [y_,z_]);refine wpT 28 ?_;(try simp only [y_,z_]);refine wpT 29 ?_;(try simp only [y_,z_]);refine wpT 30 ?_;(try simp only [y_,z_]);refine wpT 31 ?_;(try simp only [y_,z_]);refine wpT 32 ?_;(try simp only [y_,z_]);refine wpT 33 ?_;(try simp only [y_,z_]);refine wpT 34 ?_;(try simp only [y_,z_]);refine wpT 35 ?_;(try simp only [y_,z_]);refine wpT 36 ?_;(try simp only [y_,z_]);refine aD_ (by kernel_rfl) ?_ _;clear hHeld v0 v1 v2 v3 r1 r2;go_wp2_with fail
       go_roundg (on - (j+1))
       case measure=>rw [Hgg.out];omega
       case rel=>exact ⟨j+1,rfl,by omega,by go_num,by rw [Hcn2.out],HU37.out⟩
      ·have w2:((kj:Int)==(kp:Int))=false:=by simp;omega
       have w2n:(kj==kp)=false:=by simp;omega
       have w2d:decide (kj=kp)=false:=dF_ (by omega);clear hkk HLE hkp;refine wp_region_held_drew (S:=fun w'=>w'.cell? ⟨cb,0,none⟩=some (.int .i64 (kj:Int))∧w'.cell? ⟨cb,1,none⟩=some (.slice RA sn rc)∧w'.cell? ⟨g,p * 2,none⟩=some (.int .i64 (kp:Int))∧w'.cell? ⟨g,p * 2+1,none⟩=some (.slice RP sn rp)∧(convert 44 9 (.slice RA sn rc)).run Try.prog w'=.ok (.string sj) w'∧(convert 44 9 (.slice RP sn rp)).run Try.prog w'=.ok (.string sp) w') (by kernel_rfl) (by rw [HW7.out];exact ⟨v0,v1,v2,v3,r1,r2⟩) (fun hHeld=>?_)
       rw [HW7.out] at hHeld ⊢;refine wpT 0 ?_;(try simp only [y_,z_]);refine wpT 1 ?_;(try simp only [y_,z_]);refine wpT 2 ?_;(try simp only [y_,z_]);refine wpT 3 ?_;(try simp only [y_,z_]);refine wpT 4 ?_;(try simp only [y_,z_]);refine wpT 5 ?_;(try simp only [y_,z_]);refine wpT 6 ?_;(try simp only [y_,z_]);refine wpT 7 ?_;(try simp only [y_,z_]);refine wpT 8 ?_;(try simp only [y_,z_]);refine wpT 9 ?_;(try simp only [y_,z_]);refine wpT 10 ?_;(try simp only [y_,z_]);refine wpT 11 ?_;(try simp only [y_,z_]);refine wpT 12 ?_;(try simp only [y_,z_]);refine wpT 13 ?_;(try simp only [y_,z_]);refine wpT 14 ?_;(try simp only [y_,z_]);refine wpT 15 ?_;(try simp only [y_,z_]);refine wpT 16 ?_;(try simp only [y_,z_]);refine wpT 17 ?_;(try simp only [y_,z_]);refine wpT 18 ?_;(try simp only [y_,z_]);refine wpT 19 ?_;(try simp only [y_,z_]);refine wpT 20 ?_;(try simp only [y_,z_]);refine wpT 21 ?_;(try simp only [y_,z_]);refine wpT 22 ?_;(try simp only [y_,z_]);refine wpU 23 ?_;(try simp only [y_,z_]);refine wpU 24 ?_
       (try simp only [y_,z_]);refine wpU 25 ?_;(try simp only [y_,z_]);refine wpU 26 ?_;(try simp only [y_,z_]);refine wpU 27 ?_;(try simp only [y_,z_]);refine wpU 28 ?_;(try simp only [y_,z_]);refine wpU 29 ?_;(try simp only [y_,z_]);refine wpU 30 ?_;(try simp only [y_,z_]);refine wpU 31 ?_;(try simp only [y_,z_]);refine wpU 32 ?_;(try simp only [y_,z_]);refine wpU 33 ?_;(try simp only [y_,z_]);refine wpT 34 ?_;(try simp only [y_,z_]);refine wpT 35 ?_;(try simp only [y_,z_]);refine wpT 36 ?_;(try simp only [y_,z_]);refine aD_ (by kernel_rfl) ?_ _;clear hHeld v0 v1 v2 v3 r1 r2;go_wp2_with fail
       go_roundg (on - (j+1))
       case measure=>rw [Hgg.out];omega
       case rel=>exact ⟨j+1,rfl,by omega,by go_num,by rw [Hcn2.out],HU37.out⟩
   ·obtain rfl:on=j:=by omega
    have hcf:cnt0 (L.take on)=fn:=by rw [List.take_of_length_le (by rw [←HON.out];exact Nat.le_refl _),HFN.out];exact HCNT.out
    rw [hcf];obtain ⟨m,Hm⟩:∃m:Nat,Hid (on=m+1):=⟨on - 1,by show on=_;omega⟩;have hml:m<L.length:=by rw [←HON.out,Hm.out];exact Nat.lt_succ_self m
    have hla:L[m].1=64:=by
     have h:=HLAST.out;have e:on - 1=m:=by rw [Hm.out];rfl
     simp only [e] at h;exact h hml
    obtain ⟨RA,rc,k0,k1,hsl⟩:=elAS_at (HOW3.out.upd HUr.out (fun _ _ f=>f)) (HCL3.out.mono elAS HUr.out (fun _ _ _ f=>f) (fun _ _ h=>h)) hml;rw [hla] at k0;have k0:wr.cell? ⟨g,(on - 1) * 2,none⟩=some (.int .i64 64):=by rw [show on - 1=m by rw [Hm.out];rfl];exact k0
    have q1:wrap64 ((on:Int) - 1)=(m:Int):=by rw [wrap64_of (by unfold I64;omega)];have:=Hm.out;omega
    have q2:(0:Int)≤(m:Int):=by omega
    have q3:(m:Int)<(on:Int):=by have:=Hm.out;omega
    have tf:((fn:Int)==(fn:Int))=true:=beq_self_eq_true _;clear hcf hla k1 hsl hml hcl;go_wp2_with fail
    refine (auExamples_c _).mono ?_;rintro e w9 ⟨rfl,u9⟩;go_wp2_with fail
    go_ret;exact ⟨rfl,HU3.out.then_non (HUr.out.then_non u9)⟩
end Go.Proofs.Ytdbjgihnngigeaa
namespace Go.Proofs.Ytdbjgihnngigeaa
open Go.RowKit Go.WideShapes Go.ChangeShapes
section
variable {H:Type} {enc:TypeId×Value→H} {P:Program}
theorem post_of_below {f:Func} {s:ChangeSpec} {apart fresh handsOn again:Bool} {W W':World} {args:Array Value} {v:Value} {ds gs:List (DataW H)} {before pa pv:List MemPlace}
  (hW:DataW.Whole enc P f.params.toList s.vars apart W args.toList ds gs before)
  (hres:∀(b:Nat) (sp:Nat→Bool) (hd:Bool),DataW.TrodAll enc P W' b sp hd f.resultTypes.toList (v.resultList f.resultTypes.size) (s.fn H (ds++gs)).results [])
  (hargs:∀sp:Nat→Bool,(∀p∈before,sp p.block=true)→DataW.TrodAll enc P W' 0 sp true f.params.toList args.toList (s.fn H (ds++gs)).args pa)
  (hvars:∀sp:Nat→Bool,(∀p∈before,sp p.block=true)→DataW.TrodVars enc P W' sp s.vars (s.fn H (ds++gs)).vars pv)
  (hps:before=pa++pv) (hb:Below W.heap.size W W')
  (hok:∀(j:Nat) (t:TypeId) (r:Value),f.resultTypes[j]?=some t→(v.resultList f.resultTypes.size)[j]?=some r→Value.okWide P W' .any 0 t r) :
  s.post enc P f apart fresh handsOn again W args v W':=by
 have hlt:∀p∈before,p.block<W.heap.size:=fun p hp=>hW.lt p hp
 have hold:∀p∈before,(fun b=>decide (b<W.heap.size)) p.block=true:=fun p hp=>by simpa using hlt p hp
 refine ⟨ds,gs,before,[],pa,pv,hW,hres _ _ _,hargs _ hold,hvars _ hold,World.keptBut_mono (fun p hp=>⟨hp,?_⟩) (hb.frame (·∈before)),fun _=>?_⟩
 ·rw [hps,List.mem_append] at hp;exact Or.inr hp
 ·obtain ⟨_,_,_,_,_,hz,hn⟩:=hW;refine ⟨hok,_,_,([]++pa)++pv,⟨[]++pa,pv,trodAll_append (hargs _ (fun _ _=>rfl)) (hres _ _ _),hvars _ (fun _ _=>rfl),rfl,?_,?_⟩,?_⟩
  ·intro b off hp;have hin:MemPlace.cell b off∈before:=by rw [hps];simpa using hp
   rw [hb.frozen (hlt _ hin)];exact hz b off hin
  ·intro ha;have:=hn ha;rw [hps] at this;simpa using this
  ·intro p hp _;rw [hps];simpa using hp
theorem trodAll_stays (hl:laidOutB P=true) {W W':World} {sp:Nat→Bool}:∀{ts:List TypeId} {vs:List Value} {ds:List (DataW H)} {ps:List MemPlace},
  (ts.all fun t=>P.readableRec t&&decide (t<P.types.size))=true→DataW.TrodAll enc P W 0 (fun _=>true) true ts vs ds ps→(∀p∈ps,W.sameAt W' p)→(∀p∈ps,sp p.block=true)→DataW.TrodAll enc P W' 0 sp true ts vs ds ps
 | [],vs,ds,ps,_,h,_,_=>by
  obtain ⟨rfl,rfl,rfl⟩:=trodAll_nil h;exact trodAll_mk0
 | t::ts,vs,ds,ps,ht,h,h1,h2=>by
  obtain ⟨v,vs',d,ds',p,q,rfl,rfl,rfl,hp,hq⟩:=trodAll_cons h;simp only [List.all_cons,Bool.and_eq_true,decide_eq_true_eq] at ht
  exact trodAll_cons_mk (WideElems.Trod_stays hl ht.1.1 ht.1.2 hp (fun x hx=>h1 x (by simp [hx])) (fun x hx=>h2 x (by simp [hx])))
   (trodAll_stays hl ht.2 hq (fun x hx=>h1 x (by simp [hx])) (fun x hx=>h2 x (by simp [hx])))
theorem law_post {f:Func} {s:ChangeSpec} {apart fresh handsOn again:Bool} {W W':World} {args:Array Value} {ds gs:List (DataW H)} {before:List MemPlace} {tb:TypeId}
  (hW:DataW.Whole enc P f.params.toList s.vars apart W args.toList ds gs before) (hl:laidOutB P=true) (hts:(f.params.toList.all fun t=>P.readableRec t&&decide (t<P.types.size))=true) (hv:s.vars=[])
  (hrt:f.resultTypes=#[tb]) (hbool:P.underlying tb=some .bool) (hs:s.fn H (ds++gs)={ results:=[.lit (.bool true)],args:=ds }) (hb:Below W.heap.size W W') :
  s.post enc P f apart fresh handsOn again W args (.bool true) W':=by
 have hW2:=hW;obtain ⟨p,q,hA,hV,rfl,hz,hn⟩:=hW;rw [hv] at hV;obtain ⟨rfl,rfl⟩:=trodVars_none hV;have hlt:∀x∈p,x.block<W.heap.size:=fun x hx=>hW2.lt x (by simpa using hx)
 refine post_of_below (pa:=p) (pv:=[]) hW2 (fun b sp hd=>?_) (fun sp hsp=>?_) (fun sp hsp=>?_) rfl hb ?_
 ·rw [hs,hrt];exact trodAll_mk1 (shut_bool hbool true)
 ·rw [hs];exact trodAll_stays hl hts hA (fun x hx=>hb.same (hlt x hx)) (fun x hx=>hsp x (by simpa using hx))
 ·rw [hs,hv];rfl
 ·intro j t r h1 h2;rw [hrt] at h1 h2
  match j,h1 with
  | 0,h1 =>
   simp at h1;subst h1;simp [Value.resultList] at h2;subst h2;exact okWide_bool_mk hbool true
end
theorem own_:ownKnob Try.prog.godebug=none:=by kernel_rfl
theorem laidOut_:laidOutB Try.prog=true:=by kernel_rfl
end Go.Proofs.Ytdbjgihnngigeaa
namespace Go.Proofs.Ytdbjgihnngigeaa
open Go.RowKit Go.WideShapes Go.ChangeShapes Go.ChangeAt
section
variable {H:Type} {enc:TypeId×Value→H} {P:Program} {w:World}
theorem i64_of_wf {n:Int} (h:(Lit.int .i64 n).wf=true):I64 n:=by
 have h1:IntKind.i64.min = -9223372036854775808:=rfl;have h2:IntKind.i64.max=9223372036854775807:=rfl;simp only [Lit.wf,Bool.and_eq_true,decide_eq_true_eq] at h;unfold I64;omega
theorem open_intsV {r:Reach} {b0 base:Nat} {sp:Nat→Bool} {held:Bool} {t e:TypeId} {v:Value} {d:DataW H} {ps:List MemPlace} (ht:P.underlying t=some (.slice e)) (he:P.underlying e=some (.int .i64)) (hc:P.cellsOf e=1) (hby:P.bytesOf e=8)
  (hval:Value.okWide P w r b0 t v) (hd:DataW.Trod enc P w base sp held t v d ps)
  {ts:List TypeId} {ds:List (DataW H)} (hsz:(DataW.weightsEach P ts ds).all (·≤reachBytes)=true) {j:Nat} (htj:ts[j]?=some t) (hdj:ds[j]?=some d) :
  ∃A c xs,v=.slice A xs.length c∧xs.length≤c∧Ints w (fun _=>True) A xs∧(∀x∈xs,I64 x)∧xs.length≤20000000000000:=by
 obtain ⟨a0,len,cap,rfl⟩:=okWide_slice ht hval;obtain ⟨fuel,hf⟩:=hd;rcases open_ints ht he hc hf with ⟨hcs,hx⟩ | ⟨a,len',cap',zs,hcs,_,hl,hm,hz,hx,hcell,hwz⟩
 ·simp [Value.cells] at hcs;obtain ⟨rfl,rfl,rfl⟩:=hcs;exact ⟨none,0,[],rfl,by simp,.inl rfl,by simp,by simp⟩
 ·simp [Value.cells] at hcs;obtain ⟨rfl,rfl,rfl⟩:=hcs;simp only [Prod.mk.injEq] at hx;obtain ⟨rfl,rfl⟩:=hx;have hzl:len≤zs.length:=by rw [hz];split <;> omega
  have hlen:(zs.take len).length=len:=by simp;omega
  refine ⟨some a,cap,zs.take len,by rw [hlen],by omega,?_,fun x hx=>i64_of_wf (hwz x (List.mem_of_mem_take hx)),?_⟩
  ·by_cases h0:len=0
   ·subst h0;exact .inl (by simp)
   ·obtain ⟨b,off,spot⟩:=a;have hspot:spot=none:=by simpa [Addr.add] using World.cell?_spot (hcell 0 (by omega))
    subst hspot;refine .inr ⟨b,off,rfl,trivial,fun k hk=>?_⟩;have hk':k<zs.length:=by simp at hk;omega
    have:=hcell k hk';rw [Addr.add_lit] at this;rw [this];simp [List.getD,hk']
  ·have:=sized_slice hsz htj hdj ht;rw [hby] at this;simp only [lits,List.length_map,List.length_take,List.length_drop,reachBytes] at this;rw [hlen];omega
end
theorem cells_int:Try.prog.cellsOf 3=1:=by kernel_rfl
theorem bytes_int:Try.prog.bytesOf 3=8:=by kernel_rfl
end Go.Proofs.Ytdbjgihnngigeaa
