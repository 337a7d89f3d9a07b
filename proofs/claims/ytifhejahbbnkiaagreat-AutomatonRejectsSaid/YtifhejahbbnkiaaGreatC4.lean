/-
  Lemmas and walks that the claim rests on, part 4 (packed by a program).
-/
import Derived.Test.YtifhejahbbnkiaaGreatC3
import Derived.Test.YtifhejahbbnkiaaGreatC1
import Derived.Test.YtifhejahbbnkiaaGreatC2
namespace Go.Proofs.YtifhejahbbnkiaaGreat
open Go.RowKit
theorem T_pops:SlT Tryz.prog 127 126 1 8:=by
 obtain ⟨i,h1,h2,h3,h4⟩:=info_parts (show (Tryz.prog.info? 126).map (fun i=>(i.zero,i.size,i.bytes))=some (some (.pointer none),1,8) from by kernel_rfl)
 exact ⟨Tryz.underlying127,⟨i,_,h1,h2,h3,h4,rfl⟩,by omega⟩
def LyC (w wx:World) (m:Nat) (cs:Array Value) (p:Pt) (a:Nat) (KA:Option Addr) (kc:Nat) (GA:Option Addr) (gs:List Nat) (x:Nat):Prop :=
 ∃GA1 gc1 ns,Blk wx x 183 #[.int .i64 p.v,.int .i64 p.op,.int .i64 p.imm,.int .i64 p.iv,.slice KA p.kids.length kc,.slice none 0 0,.int .i64 (a:Int),.int .i64 (laO p:Int)] ∧
  LyM wx m cs a GA1 gc1 (gs++ns)∧GsX wx ns (gp1 p a)∧(∀i,At GA1 i→At GA i∨w.heap.size≤i)∧Upd (fun i=>i=m∨At GA i) w wx
set_option maxRecDepth 100000 in
set_option maxHeartbeats 16000000 in
theorem aLayout_c (p:Pt):∀(w:World) (F:Nat→Prop) (KA:Option Addr) (kc:Nat),PtK w F p KA kc→NkP p→supF p=true→WfP 64 p→p.size≤1000 →
  ∀(m a:Nat) (cs:Array Value) (GA:Option Addr) (gc:Nat) (gs:List Nat),LyM w m cs a GA gc gs→(∀i,F i→i<w.heap.size∧i≠m∧¬At GA i)→a+bN p≤1000000→gs.length+gN p≤1000000 →
  Calls Tryz.prog 122 #[pp m,pv p KA kc] w fun e w'=>∃x GA' gc' ns,e=.returned (pp x)∧LyR w w' m cs p a GA gs x GA' gc' ns:=by
 induction p using Pt.ind with
 | h p ih =>
  intro w F KA kc hp hnk hs hw hz m a cs GA gc gs hM hF hab hgb;obtain ⟨hn,ho,hbn,hgp⟩:=lay_facts hnk hs hw;have hnk':=(NkP.iff p).1 hnk;have hw':=(WfP.iff 64 p).1 hw;have hkc:=(PtK.iff.1 hp).1;have HI:=h_ ih;have HNK:=h_ hnk'.2;have HNK1:=h_ hnk'.1;have HWF:=h_ hw'.2.2.2;have HSZ:Hid (∀q∈p.kids,q.size≤1000):=fun q hq=>by have:=Pt.kids_lt hq;omega
  have HGN:Hid (gN p=(gp1 p a++gposL (p.kids.take (laN p)) (a+laO p)).length):=by show _=_;rw [←hgp,gpos_len]
  have hle:=Pt.len_le p.kids;have hse:=Pt.size_eq p;have hkl:p.kids.length≤1000:=by omega
  obtain ⟨W,HW⟩:=nm (w.alloc (.cells #[.int .i64 p.v,.int .i64 p.op,.int .i64 p.imm,.int .i64 p.iv,.slice KA p.kids.length kc] 38));obtain ⟨pb,hpb⟩:∃b,w.heap.size=b:=⟨_,rfl⟩;have hU:Upd Non w W:=by rw [←HW.out];exact Upd.refl.alloc _
  have hb:Blk W pb 38 #[.int .i64 p.v,.int .i64 p.op,.int .i64 p.imm,.int .i64 p.iv,.slice KA p.kids.length kc]:=by rw [←HW.out,←hpb];exact Blk.new _ _ _
  have e0:=HW.out;have hWs:W.heap.size=pb+1:=by rw [←HW.out,←hpb];simp
  have hMW:=hM.upd hU (fun f=>f) (fun _ _ f=>f);obtain ⟨wD,HwD⟩:=nm W.drew;have uD:Upd Non W wD:=by rw [←HwD.out];exact Upd.refl.drew
  have hDs:wD.heap.size=pb+1:=by rw [←HwD.out];exact hWs
  obtain ⟨W2,HW2⟩:=nm (wD.alloc (.cells #[.int .i64 p.v,.int .i64 p.op,.int .i64 p.imm,.int .i64 p.iv,.slice KA p.kids.length kc,.slice none 0 0,.int .i64 (a:Int),.int .i64 0] 183))
  have e2:=HW2.out;have u2:Upd Non W W2:=by rw [←HW2.out];exact uD.alloc _
  have hx2:Blk W2 (pb+1) 183 #[.int .i64 p.v,.int .i64 p.op,.int .i64 p.imm,.int .i64 p.iv,.slice KA p.kids.length kc,.slice none 0 0,.int .i64 (a:Int),.int .i64 0]:=by rw [←HW2.out,←hDs];exact Blk.new _ _ _
  have p0:=hb.cell 0;have p1:=hb.cell 1;have p2:=hb.cell 2;have p3:=hb.cell 3;have p4:=hb.cell 4;have m18:=(hMW.blk.cell 18).trans (mC_18 hM.cs _ _);have hM2:=hMW.upd u2 (fun f=>f) (fun _ _ f=>f);have hb2:=hb.upd u2 (fun f=>f);have u02:Upd Non w W2:=hU.then_non u2;have hp2:=PtK.upd u02 (fun _ _ _ f=>f) p KA kc hp;have HLD:=h_ (fun (w':World) x j GA1 gc1 ns CA cc ks (h:LyL w w' m cs p a KA kc GA gs x j GA1 gc1 ns CA cc ks) hj=>h.done ⟨hbn,hgp⟩ hj);have HGP:=h_ hgp;have HBN:=h_ hbn;have HHW:=h_ hw';have HHS:=h_ hs;have HPK:=h_ hp2;have HP0:=h_ hp
  have HSK:Hid (∀q∈p.kids,supF q=true):=fun q hq=>by
   by_cases hv:0<p.v
   ·rw [hnk'.1 (by omega)] at hq;cases hq
   ·have:=hs;rw [supF_op hv,Bool.and_eq_true] at this;exact List.all_eq_true.1 this.2 q hq
  have hgaw:∀i,At GA i→i<pb:=fun i hi=>by have:=hM.own.lt hi;omega
  have hmw:m<pb:=by have:=hM.blk.lt;omega
  have HM2:=h_ hM2;have HB2:=h_ hb2;have HX2:=h_ hx2;have HFF:=h_ hF;have HGAW:=h_ hgaw;have HAB:=h_ hab;have HGB:=h_ hgb;clear hp hnk hs hw hz ih hnk' hw' hle hse hab hgb hgp hbn hM hMW hM2 hb2 hx2 hp2 hF hb hgaw;unfold pv pp;go_enter Tryz.func122,Tryz.ntmps122;go_wp2_with fail
  refine wp_region_held_drew (S:=fun w'=>w'.cell? ⟨pb,0,none⟩=some (.int .i64 p.v)∧w'.cell? ⟨pb,1,none⟩=some (.int .i64 p.op)∧w'.cell? ⟨pb,2,none⟩=some (.int .i64 p.imm)∧w'.cell? ⟨pb,3,none⟩=some (.int .i64 p.iv)∧w'.cell? ⟨pb,4,none⟩=some (.slice KA p.kids.length kc)∧w'.cell? ⟨m,18,none⟩=some (.int .i64 (a:Int))) (by kernel_rfl) ⟨p0,p1,p2,p3,p4,m18⟩ (fun hHeld=>?_)
  rw [HwD.out] at hHeld ⊢;refine wpT 0 ?_;(try simp only [y_,z_]);refine wpT 1 ?_;(try simp only [y_,z_]);refine wpT 2 ?_;(try simp only [y_,z_]);refine wpT 3 ?_;(try simp only [y_,z_]);refine wpT 4 ?_;(try simp only [y_,z_]);refine wpT 5 ?_;(try simp only [y_,z_]);refine aR_ (rs:=[6]) (by kernel_rfl) (by simp) ?_;refine aC_ rfl (fun K hK=>?_) aN_;go_simp;refine hK.out _ _ ?_ (fun hHeld=>?_)
  ·exact ⟨u_ p0 u2 (fun f=>f),u_ p1 u2 (fun f=>f),u_ p2 u2 (fun f=>f),u_ p3 u2 (fun f=>f),u_ p4 u2 (fun f=>f),u_ m18 u2 (fun f=>f)⟩
  clear hK K;(try simp only [y_,z_]);refine wpT 7 ?_;(try simp only [y_,z_]);refine aD_ (by kernel_rfl) ?_ _
  go_upto_block 0 with fail
  clear hHeld;have hv0:=HHW.out.1;have q0:=HB2.out.cell 0;have q1:=HB2.out.cell 1;have q4:=HB2.out.cell 4;have z7:=HX2.out.cell 7;have zf:=HX2.out.frozen 7;have hm1:m≠pb+1:=by omega
  have HC0:Hid (∀(wx:World) (GA1:Option Addr) (gc1:Nat) (ns:List Nat),Blk wx (pb+1) 183 #[.int .i64 p.v,.int .i64 p.op,.int .i64 p.imm,.int .i64 p.iv,.slice KA p.kids.length kc,.slice none 0 0,.int .i64 (a:Int),.int .i64 (laO p:Int)] →
    LyM wx m cs a GA1 gc1 (gs++ns)→GsX wx ns (gp1 p a)→(∀i,At GA1 i→At GA i∨w.heap.size≤i)→Upd (fun i=>i=m∨At GA i) w wx→LyC w wx m cs p a KA kc GA gs (pb+1)):=fun _ GA1 gc1 ns h1 h2 h3 h4 h5=>⟨GA1,gc1,ns,h1,h2,h3,h4,h5⟩
  have HU2:=h_ u02
  go_cut [6] (fun s wx=>s=.slice KA (laN p) kc∧LyC w wx m cs p a KA kc GA gs (pb+1))
  case first =>
   have hgl:∀i,At GA i→¬i=pb+1:=fun i hi e=>by have:=HGAW.out i hi;omega
   have HS:Hid (∀n:Nat,laO p=n→gp1 p a=[]→LyC w (W2.setCell ⟨pb+1,7,none⟩ (.int .i64 (n:Int))) m cs p a KA kc GA gs (pb+1)):=fun n hn hg=>by
    have uS:=updCell W2 (pb+1) 7 (.int .i64 (n:Int));refine HC0.out _ GA gc [] ?_ ?_ (by rw [hg];exact GsX.nil) (fun _ q=>.inl q) ((HU2.out.mono (fun _ _ f=>f.elim)).trans uS (fun i hi e=>by omega))
    ·rw [hn];simpa using HX2.out.set_ 7 (.int .i64 (n:Int))
    ·rw [List.append_nil];exact HM2.out.upd uS hm1 hgl
   have HZ:Hid (laO p=0→gp1 p a=[]→LyC w W2 m cs p a KA kc GA gs (pb+1)):=fun hn hg=>by
    refine HC0.out _ GA gc [] ?_ ?_ (by rw [hg];exact GsX.nil) (fun _ q=>.inl q) (HU2.out.mono (fun _ _ f=>f.elim))
    ·rw [hn];exact HX2.out
    ·rw [List.append_nil];exact HM2.out
   by_cases hv:0<p.v
   ·have t18:decide (p.v > 0)=true:=dT_ hv;have HN:Hid (laN p=0):=by show _=_;unfold laN osN;rw [if_pos hv]
    have HK:Hid (p.kids.length=0):=by show _=_;rw [HNK1.out (by omega)];rfl
    have HR:Hid (LyC w W2 m cs p a KA kc GA gs (pb+1)):=HZ.out (by unfold laO osOwn;rw [if_pos hv]) (by unfold gp1;rw [if_pos hv]);clear hv;go_wp2_with fail
    go_meet
    case rel=>exact ⟨by rw [HN.out,HK.out],HR.out⟩
   ·have t18:decide (p.v > 0)=false:=dF_ hv;have hs':supO p.op p.kids=true:=by have:=HHS.out;rw [supF_op hv,Bool.and_eq_true] at this;exact this.1
    have HO:Hid (laO p=ownN p.op p.kids):=by show _=_;unfold laO osOwn;rw [if_neg hv]
    have HNN:Hid (p.op≠12→laN p=p.kids.length):=fun h=>by unfold laN osN;rw [if_neg hv,if_neg h]
    have HG1:Hid (gp1 p a=if isG p.op then [(p.op,a)] else []):=by show _=_;unfold gp1;rw [if_neg hv]
    have hcases:(p.op=4∨p.op=5∨p.op=20)∨p.op=12∨((p.op==4)=false∧(p.op==5)=false∧(p.op==20)=false∧(p.op==12)=false∧(isG p.op=true∨(isG p.op=false∧ownN p.op p.kids=0))):=by
     rcases supO_ops hs' with e | e | e | e | e | e | e | e | e | e | e | e | e | e | e <;> rw [e]
     all_goals first
      | exact .inl (by decide)
      | exact .inr (.inl rfl)
      | exact .inr (.inr ⟨by decide,by decide,by decide,by decide,.inl (by decide)⟩)
      | exact .inr (.inr ⟨by decide,by decide,by decide,by decide,.inr ⟨by decide,rfl⟩⟩)
    rcases hcases with hB | hC | ⟨t4,t5,t20,t12,hD⟩
    ·have HR:Hid (LyC w (W2.setCell ⟨pb+1,7,none⟩ (.int .i64 1)) m cs p a KA kc GA gs (pb+1)):=HS.out 1 (by rw [HO.out];rcases hB with e | e | e <;> rw [e] <;> rfl) (by rw [HG1.out];rcases hB with e | e | e <;> rw [e] <;> rfl)
     have HN:=h_ (HNN.out (by omega));clear hv hs';rcases hB with e | e | e
     all_goals
      rw [e] at q1;clear e;go_wp2_with fail
      go_meet
      case rel=>exact ⟨by rw [HN.out],HR.out⟩
    ·have h2:p.kids.length=2:=by rw [HHW.out.2.2.1 (by have:=HHW.out.1;omega),hC];rfl
     obtain ⟨k0,k1,ek⟩:∃k0 k1,p.kids=[k0,k1]:=by
      match p.kids,h2 with
      | [x,y],_=>exact ⟨x,y,rfl⟩
     obtain ⟨b,o,rfl,hFb,hbw,KB,kd,_,_,g2,_,_,_⟩:=HPK.out.at_ (i:=1) (by rw [h2];decide);have ek1:p.kids[1]'(by rw [h2];decide)=k1:=by simp [ek]
     rw [ek1] at g2;have ha:=and63 k1.imm;have HR:Hid (LyC w (W2.setCell ⟨pb+1,7,none⟩ (.int .i64 ((k1.imm % 64).toNat:Int))) m cs p a (some ⟨b,o,none⟩) kc GA gs (pb+1)):=HS.out _ (by rw [HO.out,hC,ek];rfl) (by rw [HG1.out,hC];rfl)
     obtain ⟨sh,Hsh⟩:=nm (k1.imm % 64).toNat;rw [Hsh.out] at ha HR;have HN:Hid (laN p=1):=by show _=_;unfold laN osN;rw [if_neg hv,if_pos hC,h2];rfl
     rw [hC] at q1;have hk0:(1:Int)≤(kc:Int):=by omega
     have hk1:(1:Int)<(p.kids.length:Int):=by omega
     have h2:=h_ h2;have hbx:b≠pb+1:=by have:=(HFF.out b hFb).1;omega
     clear hv hs' hC ek1 ek HNN HG1 HO Hsh;go_wp2_with fail
     go_meet
     case rel=>exact ⟨by rw [HN.out],HR.out⟩
    ·rcases hD with hD | ⟨hD,hE⟩
     ·have CG:∀W,Calls Tryz.prog 172 #[.int .i64 p.op] W fun e w'=>e=.returned (.bool true)∧w'=W:=fun W=>by have:=aIsGuess_c p.op W;rw [hD] at this;exact this
      have CG:=h_ CG;have HN:=h_ (HNN.out (by intro e;rw [e] at t12;cases t12));have HG2:Hid (gp1 p a=[(p.op,a)]):=by show _=_;rw [HG1.out,hD];rfl
      have HO2:Hid (laO p=2):=by show _=_;rw [HO.out,isG_own _ hD]
      obtain ⟨W3,HW3⟩:=nm (W2.setCell ⟨pb+1,7,none⟩ (.int .i64 2));have uS:Upd (·=pb+1) W2 W3:=by rw [←HW3.out];exact updCell W2 (pb+1) 7 _
      have hx3:Blk W3 (pb+1) 183 #[.int .i64 p.v,.int .i64 p.op,.int .i64 p.imm,.int .i64 p.iv,.slice KA p.kids.length kc,.slice none 0 0,.int .i64 (a:Int),.int .i64 2]:=by rw [←HW3.out];simpa using HX2.out.set_ 7 (.int .i64 2)
      have hM3:=HM2.out.upd uS hm1 hgl;have HX3:=h_ hx3;have HM3:=h_ hM3;have r16:=(hM3.blk.cell 16).trans (mC_16 hM3.cs _ _);have ho3:=hM3.own;have HU3:Hid (Upd (·=pb+1) w W3):=(HU2.out.mono (fun _ _ f=>f.elim)).trans uS (fun _ _ q=>q)
      have hgn:gs.length+1≤1000000:=by
       have:=HGB.out;have h1:=HGN.out;rw [HG2.out] at h1;simp at h1;omega
      have HW3s:Hid (W3.heap.size=pb+2):=by show _=_;rw [←HW3.out];simp [World.setCell,←HW2.out,hDs]
      have e6:=HX3.out;clear hv hs' hD hx3 hM3 HNN HG1 HO
      go_upto_region 11 with (go_at_call 172;refine (CG.out _).mono ?_;rintro e w' ⟨rfl,rfl⟩)
      rw [HW3.out];unfold pp at ho3
      go_wp2_with (at_builtin;go_loud (refine wpList_app rfl rfl T_pops rfl (ho3.alloc _) rfl (Sl.new _ _ _) rfl (by simp [Value.oneCell']) (by simp only [maxLen];omega) (by omega) ?_;intro A8 c8 w8 ho8 hu8 hat8;have m8:=(HM3.out.blk.alloc _).upd hu8 HM3.out.ne;have r8:=(m8.cell 16).trans (mC_16 HM3.out.cs _ _);have f8:=m8.frozen 16))
      go_meet
      case rel =>
       have uM:=updCell w8 m 16 (.slice A8 (gs.length+1) c8);have hxg:¬At GA (pb+1):=fun q=>hgl _ q rfl
       have hxb:=(((HX3.out.alloc (.cells #[.pointer (some ⟨pb+1,0,none⟩)] 126)).upd hu8 hxg).upd uM (fun e=>hm1 e.symm));have hmA:¬At A8 m:=ho8.ne_blk m8 (by decide);refine ⟨by rw [HN.out],HC0.out _ A8 c8 [pb+1] ?_ ⟨?_,?_,HM3.out.cs⟩ ?_ ?_ ?_⟩
       ·rw [HO2.out];exact hxb
       ·have:=m8.set_ 16 (.slice A8 (gs.length+1) c8);rw [mC_s16] at this;rw [List.length_append];exact this
       ·rw [List.length_append,List.map_append];exact ho8.upd uM (fun i hi e=>hmA (e ▸ hi))
       ·rw [HG2.out];refine ⟨rfl,fun i h1 _=>?_⟩;have : i=0:=by simp at h1;exact h1
        subst this;exact ⟨p.v,p.imm,p.iv,_,_,hxb⟩
       ·intro i hi;rcases hat8 i hi with q | q
        ·exact .inl q
        ·refine .inr ?_;have:=HW3s.out;simp at q;omega
       ·refine ((HU3.out.alloc (.cells #[.pointer (some ⟨pb+1,0,none⟩)] 126)).mono (T:=fun i=>i=pb+1∨i=m∨At GA i) (fun _ _ q=>.inl q)).trans hu8 (fun _ _ q=>.inr (.inr q)) |>.trans uM (fun _ _ q=>.inr (.inl q)) |>.mono (fun i hi q=>q.elim (fun e=>by omega) (fun q=>q))
     ·have CG:∀W,Calls Tryz.prog 172 #[.int .i64 p.op] W fun e w'=>e=.returned (.bool false)∧w'=W:=fun W=>by have:=aIsGuess_c p.op W;rw [hD] at this;exact this
      have CG:=h_ CG;have HR:Hid (LyC w W2 m cs p a KA kc GA gs (pb+1)):=HZ.out (by rw [HO.out,hE]) (by rw [HG1.out,hD];rfl);have HN:=h_ (HNN.out (by intro e;rw [e] at t12;cases t12));clear hv hs' hD hE;go_wp2_with fail
      refine (CG.out _).mono ?_;rintro e w' ⟨rfl,rfl⟩;go_wp2_with fail
      go_meet
      case rel=>exact ⟨by rw [HN.out],HR.out⟩
  case rest =>
  obtain ⟨hs6,hC⟩:=hcut;subst hs6;obtain ⟨GA1,gc1,ns,hx,hM1,hg1,hga1,hu1⟩:=hC;have x7:=hx.cell 7;have m18:=(hM1.blk.cell 18).trans (mC_18 hM1.cs _ _);have f18:=hM1.blk.frozen 18;have hxm:pb+1≠m:=by omega
  have uS:=updCell wc m 18 (.int .i64 ((a:Int)+(laO p:Int)));have hmG:¬At GA1 m:=hM1.ne
  have hL0:LyL w (wc.setCell ⟨m,18,none⟩ (.int .i64 ((a:Int)+(laO p:Int)))) m cs p a KA kc GA gs (pb+1) 0 GA1 gc1 ns none 0 []:=by
   refine ⟨⟨?_,hM1.own.upd uS (fun i hi e=>hmG (e ▸ hi)),hM1.cs⟩,?_,hx.upd uS hxm,rfl,Own.none_,fun _ _ h=>absurd h (Nat.not_lt_zero _),fun i hi=>(At.none_ hi).elim,hga1,hu1.trans uS (fun _ _ q=>.inl q),by omega,by omega,fun i hi=>by have:=HGAW.out i hi;omega⟩
   ·have:=hM1.blk.set_ 18 (.int .i64 ((a:Int)+(laO p:Int)));rw [mC_s18] at this;rw [List.take_zero];exact this
   ·rw [List.take_zero];show GsX _ ns (gp1 p a++[]);rw [List.append_nil];exact hg1.upd uS (fun g c hb e=>by subst e;exact hb.ne_ hM1.blk (by decide) rfl)
  have HL0:=h_ (hL0.non (wD:=(wc.setCell ⟨m,18,none⟩ (.int .i64 ((a:Int)+(laO p:Int)))).drewN 1) (Upd.refl.drewN 1));have ha1:a+laO p≤1000000:=by have:=HAB.out;have:=HBN.out;omega
  have q1:IntKind.i64.wrap ((a:Int)+(laO p:Int))=(a:Int)+(laO p:Int):=i64w_of (by unfold I64;omega);clear hL0 uS hg1 hga1 hu1 hx;go_wp2_with fail
  refine wp_region_held_drew (S:=fun w'=>w'.cell? ⟨pb+1,7,none⟩=some (.int .i64 (laO p:Int))) (by kernel_rfl) x7 (fun hHeld=>?_);refine wpT 0 ?_;(try simp only [y_,z_]);refine wpT 1 ?_;(try simp only [y_,z_]);refine wpT 2 ?_;(try simp only [y_,z_]);refine wpT 4 ?_;(try simp only [y_,z_]);refine wpT 5 ?_;(try simp only [y_,z_]);refine wpT 6 ?_;(try simp only [y_,z_]);refine wpT 7 ?_;(try simp only [y_,z_]);refine wpAnyH_takeM (fun w'=>w'.cell? ⟨m,18,none⟩=some (.int .i64 (a:Int))) (calm_cell _ _) [8,9,10,11] (i:=3) (v:=?_) rfl (by kernel_rfl) (by kernel_rfl) (by kernel_rfl) (by kernel_rfl) (fun _ _ _ h=>h) (Or.inl ⟨by rfl,?_⟩) (m18) (by assumption) ?_
  rotate_left
  ·intro w hSw;(try dsimp only at hSw);go_simp;try with_reducible rfl
  (try simp only [y_,z_]);refine wpT 8 ?_;(try simp only [y_,z_]);refine wpT 9 ?_;(try simp only [y_,z_]);refine wpT 10 ?_;(try simp only [y_,z_]);refine aR_ (rs:=[11]) (by kernel_rfl) (by simp) ?_;refine aC_ rfl (fun K hK=>?_) aN_;go_simp;refine hK.out _ _ ?_ (fun hHeld=>?_)
  ·exact u_ (S:=(·=m)) x7 ((updCell wc m 18 (.int .i64 ((a:Int)+(laO p:Int)))).drewN 1) hxm
  clear hK K;(try simp only [y_,z_]);refine aD_ (by kernel_rfl) ?_ _;clear hHeld x7 m18 f18 q1;obtain ⟨n,Hnn⟩:=nm (laN p);rw [Hnn.out] at hn;rw [Hnn.out];go_wp2_with fail
  go_loopg [8,84] n (fun gg _ i wr=>∃(j:Nat) (GA1:Option Addr) (gc1:Nat) (ns:List Nat) (CA:Option Addr) (cc:Nat) (ks:List Nat),Hid (gg=n - j)∧j≤n∧i=.int .i64 j∧Hid (LyL w wr m cs p a KA kc GA gs (pb+1) j GA1 gc1 ns CA cc ks))
  case atStart=>exact ⟨0,GA1,gc1,ns,none,0,[],rfl,by omega,rfl,HL0.out⟩
  case round =>
   clear HL0 hM1;obtain ⟨j,GA1,gc1,ns,CA,cc,ks,Hg,hj,rfl,HL⟩:=hrel;by_cases hlt:j<n
   ·have hjk:j<p.kids.length:=by omega
    have hmem:=List.getElem_mem hjk;have hd:∀i,i<w.heap.size→F i→¬(i=m∨At GA i):=fun i _ hi q=>q.elim (HFF.out i hi).2.1 (HFF.out i hi).2.2
    obtain ⟨b,o,rfl,hFb,hbw,KB,kd,h0,h1,h2,h3,h4,h5⟩:=(PtK.upd HL.out.upd hd p KA kc HP0.out).at_ hjk;have hkd:=(PtK.iff.1 h5).1;have hbd:=lay_bounds (a:=a+laO p) (show j<laN p by rw [Hnn.out];exact hlt) hjk;obtain ⟨q,Hq⟩:=nm (p.kids[j]);rw [Hq.out] at h0 h1 h2 h3 h4 h5 hmem hkd hbd;obtain ⟨W7,HW7⟩:=nm (wr.alloc (.cells #[.int .i64 q.v,.int .i64 q.op,.int .i64 q.imm,.int .i64 q.iv,.slice KB q.kids.length kd] 38));obtain ⟨cb,hcb⟩:∃c,wr.heap.size=c:=⟨_,rfl⟩;have e7:=HW7.out;have u7:Upd Non wr W7:=by rw [←HW7.out];exact Upd.refl.alloc _
    have hb7:Blk W7 cb 38 #[.int .i64 q.v,.int .i64 q.op,.int .i64 q.imm,.int .i64 q.iv,.slice KB q.kids.length kd]:=by rw [←HW7.out,←hcb];exact Blk.new _ _ _
    obtain ⟨wD,HwD'⟩:=nm W7.drew;have uD7:Upd Non W7 wD:=by rw [←HwD'.out];exact Upd.refl.drew
    have hbD:=hb7.upd uD7 (fun f=>f);have uD':=u7.then_non uD7;have hLD:=HL.out.non uD';have hns:ns.length=(gp1 p a++gposL (p.kids.take j) (a+laO p)).length:=HL.out.gx.1;have hgN:=HGN.out
    have hlen:(gs++ns).length+gN q≤1000000:=by
     have:=HGB.out;rw [List.length_append] at hgN hns ⊢;omega
    have hsum:a+laO p+bL (p.kids.take j)+bN q≤1000000:=by have:=HAB.out;have:=HBN.out;omega
    have hFD:∀i,F i→i<wD.heap.size∧i≠m∧¬At GA1 i:=fun i hi=>by
     have h1:=(HFF.out i hi);have h2:=HL.out.upd.size;have h3:=uD'.size;refine ⟨by omega,h1.2.1,fun z=>?_⟩;rcases HL.out.ga i z with z | z
     ·exact h1.2.2 z
     ·omega
    have C1:=h_ (HI.out q hmem wD F KB kd (PtK.upd uD' (fun _ _ _ f=>f) _ _ _ h5) (HNK.out q hmem) (HSK.out q hmem) (HWF.out q hmem) (HSZ.out q hmem) m _ cs GA1 gc1 (gs++ns) hLD.st hFD hsum hlen)
    have HLD2:=h_ hLD;have HBD:=h_ hbD;have t0:=hb7.cell 0;have t1:=hb7.cell 1;have t2:=hb7.cell 2;have t3:=hb7.cell 3;have t4:=hb7.cell 4;have hcx:cb≠pb+1:=by have:=HL.out.xb.lt;omega
    have HCD:Hid (cb<wD.heap.size):=hbD.lt;have HS5:Hid (∀w':World,Blk w' cb 38 #[.int .i64 q.v,.int .i64 q.op,.int .i64 q.imm,.int .i64 q.iv,.slice KB q.kids.length kd]→w'.cell? ⟨cb,0,none⟩=some (.int .i64 q.v)∧w'.cell? ⟨cb,1,none⟩=some (.int .i64 q.op)∧w'.cell? ⟨cb,2,none⟩=some (.int .i64 q.imm)∧w'.cell? ⟨cb,3,none⟩=some (.int .i64 q.iv)∧w'.cell? ⟨cb,4,none⟩=some (.slice KB q.kids.length kd)):=fun w' h=>⟨h.cell 0,h.cell 1,h.cell 2,h.cell 3,h.cell 4⟩
    have HCM:Hid (¬(cb=m∨At GA1 cb)):=fun z=>by
     rcases z with z | z
     ·have h1:=HL.out.mw;have h2:=HL.out.upd.size;omega
     ·have:=HL.out.st.own.lt z;omega
    have HCC:Hid (∀i,At CA i→i<cb):=fun i hi=>by have:=HL.out.ko.lt hi;omega
    have hksl:ks.length≤1000:=by have:=HL.out.kl;omega
    have hj0:(0:Int)≤(j:Int):=by omega
    have hjn:(j:Int)<(n:Int):=by omega
    clear hd h5 hkd hbd hns hgN hlen hsum hFD hLD hbD hb7;unfold pv pp at C1;go_wp2_with fail
    refine wp_region_held_drew (S:=fun w'=>w'.cell? ⟨cb,0,none⟩=some (.int .i64 q.v)∧w'.cell? ⟨cb,1,none⟩=some (.int .i64 q.op)∧w'.cell? ⟨cb,2,none⟩=some (.int .i64 q.imm)∧w'.cell? ⟨cb,3,none⟩=some (.int .i64 q.iv)∧w'.cell? ⟨cb,4,none⟩=some (.slice KB q.kids.length kd)) (by kernel_rfl) ⟨t0,t1,t2,t3,t4⟩ (fun hHeld=>?_)
    rw [HwD'.out] at hHeld ⊢;clear t0 t1 t2 t3 t4;refine wpT 0 ?_;(try simp only [y_,z_]);refine wpT 1 ?_;(try simp only [y_,z_]);refine wpT 2 ?_;(try simp only [y_,z_]);refine wpT 3 ?_;(try simp only [y_,z_]);refine wpT 5 ?_;(try simp only [y_,z_]);refine wpT 6 ?_;(try simp only [y_,z_]);refine aR_ (rs:=[4,7]) (by kernel_rfl) (by simp) ?_;refine aC_ rfl (fun K hK=>?_) (aC_ rfl (fun K hK=>?_) aN_)
    ·have d5:=HLD2.out.xb.cell 5;go_simp;refine hK.out _ _ ?_ (fun hHeld=>?_)
     ·exact hHeld
     clear hK K;(try simp only [y_,z_]);refine aR_ (rs:=[7]) (by kernel_rfl) (by simp) ?_;refine aC_ rfl (fun K hK=>?_) aN_;go_simp;refine C1.out.mono ?_;rintro e w4 ⟨y,GA2,gc2,ns2,rfl,hR⟩;go_wp2_with fail
     refine hK.out _ _ ?_ (fun hHeld=>?_)
     ·exact HS5.out _ (HBD.out.upd hR.upd HCM.out)
     clear hK K;(try simp only [y_,z_]);have b4:=HBD.out.upd hR.upd HCM.out;have x4:=HLD2.out.xb.upd hR.upd (fun e=>e.elim HLD2.out.xm HLD2.out.xg);have ho4:=HLD2.out.ko.upd hR.upd (fun i hi e=>e.elim (fun e=>HLD2.out.mc (e ▸ hi)) (fun e=>(HLD2.out.kf i hi).2 e));have X4:=h_ x4;have B4:=h_ b4;have HR4:=h_ hR;have hxc:=HLD2.out.xc;clear x4 b4 hR;refine aR_ (rs:=[8]) (by kernel_rfl) (by simp) ?_;refine aC_ rfl (fun K hK=>?_) aN_;go_simp;refine hK.out _ _ ?_ (fun hHeld=>?_)
     ·exact HS5.out _ (B4.out.alloc _)
     clear hK K;(try simp only [y_,z_]);refine aR_ (rs:=[9]) (by kernel_rfl) (by simp) ?_;refine aC_ rfl (fun K hK=>?_) aN_;refine step_app rfl rfl T_pops rfl (ho4.alloc _) rfl (Sl.new _ _ _) rfl (by simp [Value.oneCell']) (by simp only [maxLen];omega) (by omega) ?_;intro A8 c8 w8 ho8 hu8 hat8;have b8:=(B4.out.alloc (.cells #[.pointer (some ⟨y,0,none⟩)] 126)).upd hu8 (fun h=>by have:=HCC.out _ h;omega);have x8:=(X4.out.alloc (.cells #[.pointer (some ⟨y,0,none⟩)] 126)).upd hu8 hxc;have d8:=x8.cell 5;have f8:=x8.frozen 5;refine hK.out _ _ ?_ (fun hHeld=>?_)
     ·exact HS5.out _ b8
     clear hK K;(try simp only [y_,z_]);refine wpT 10 ?_;(try simp only [y_,z_]);refine wpT 11 ?_;(try simp only [y_,z_]);refine aR_ (rs:=[12]) (by kernel_rfl) (by simp) ?_;refine aC_ rfl (fun K hK=>?_) aN_;go_simp;refine hK.out _ _ ?_ (fun hHeld=>?_)
     ·exact HS5.out _ (b8.upd (updCell w8 (pb+1) 5 (.slice A8 (ks.length+1) c8)) hcx)
     clear hK K;(try simp only [y_,z_]);refine aD_ (by kernel_rfl) ?_ _;go_wp2_with fail
     go_roundg (n - (j+1))
     case measure=>rw [Hg.out];omega
     case rel=>exact ⟨j+1,GA2,gc2,ns++ns2,A8,c8,ks++[y],rfl,by omega,by go_num,HLD2.out.step hjk (by rw [Hq.out];exact HR4.out) (Upd.refl.alloc (.cells #[.pointer (some ⟨y,0,none⟩)] 126)) ho8 hu8 hat8⟩
    ·go_simp;refine C1.out.mono ?_;rintro e w4 ⟨y,GA2,gc2,ns2,rfl,hR⟩;go_wp2_with fail
     refine hK.out _ _ ?_ (fun hHeld=>?_)
     ·exact HS5.out _ (HBD.out.upd hR.upd HCM.out)
     clear hK K;(try simp only [y_,z_]);have d5:=(HLD2.out.xb.upd hR.upd (fun e=>e.elim HLD2.out.xm HLD2.out.xg)).cell 5;refine wpAnyH_takeM (fun w'=>w'.cell? ⟨pb+1,5,none⟩=some (.slice CA ks.length cc)) (calm_cell _ _) [9,10,11,12] (i:=4) (v:=?_) rfl (by kernel_rfl) (by kernel_rfl) (by kernel_rfl) (by kernel_rfl) (fun _ _ _ h=>h) (Or.inl ⟨by rfl,?_⟩) (d5) (by assumption) ?_
     rotate_left
     ·intro w hSw;(try dsimp only at hSw);go_simp;try with_reducible rfl
     (try simp only [y_,z_]);clear d5;have b4:=HBD.out.upd hR.upd HCM.out;have x4:=HLD2.out.xb.upd hR.upd (fun e=>e.elim HLD2.out.xm HLD2.out.xg);have ho4:=HLD2.out.ko.upd hR.upd (fun i hi e=>e.elim (fun e=>HLD2.out.mc (e ▸ hi)) (fun e=>(HLD2.out.kf i hi).2 e));have X4:=h_ x4;have B4:=h_ b4;have HR4:=h_ hR;have hxc:=HLD2.out.xc;clear x4 b4 hR;refine aR_ (rs:=[8]) (by kernel_rfl) (by simp) ?_;refine aC_ rfl (fun K hK=>?_) aN_;go_simp;refine hK.out _ _ ?_ (fun hHeld=>?_)
     ·exact HS5.out _ (B4.out.alloc _)
     clear hK K;(try simp only [y_,z_]);refine aR_ (rs:=[9]) (by kernel_rfl) (by simp) ?_;refine aC_ rfl (fun K hK=>?_) aN_;refine step_app rfl rfl T_pops rfl (ho4.alloc _) rfl (Sl.new _ _ _) rfl (by simp [Value.oneCell']) (by simp only [maxLen];omega) (by omega) ?_;intro A8 c8 w8 ho8 hu8 hat8;have b8:=(B4.out.alloc (.cells #[.pointer (some ⟨y,0,none⟩)] 126)).upd hu8 (fun h=>by have:=HCC.out _ h;omega);have x8:=(X4.out.alloc (.cells #[.pointer (some ⟨y,0,none⟩)] 126)).upd hu8 hxc;have d8:=x8.cell 5;have f8:=x8.frozen 5;refine hK.out _ _ ?_ (fun hHeld=>?_)
     ·exact HS5.out _ b8
     clear hK K;(try simp only [y_,z_]);refine wpT 10 ?_;(try simp only [y_,z_]);refine wpT 11 ?_;(try simp only [y_,z_]);refine aR_ (rs:=[12]) (by kernel_rfl) (by simp) ?_;refine aC_ rfl (fun K hK=>?_) aN_;go_simp;refine hK.out _ _ ?_ (fun hHeld=>?_)
     ·exact HS5.out _ (b8.upd (updCell w8 (pb+1) 5 (.slice A8 (ks.length+1) c8)) hcx)
     clear hK K;(try simp only [y_,z_]);refine aD_ (by kernel_rfl) ?_ _;go_wp2_with fail
     go_roundg (n - (j+1))
     case measure=>rw [Hg.out];omega
     case rel=>exact ⟨j+1,GA2,gc2,ns++ns2,A8,c8,ks++[y],rfl,by omega,by go_num,HLD2.out.step hjk (by rw [Hq.out];exact HR4.out) (Upd.refl.alloc (.cells #[.pointer (some ⟨y,0,none⟩)] 126)) ho8 hu8 hat8⟩
   ·obtain rfl:n=j:=by omega
    go_wp2_with fail
    go_ret;exact ⟨pb+1,GA1,gc1,ns,rfl,HLD.out _ _ _ _ _ _ _ _ _ HL.out Hnn.out.symm⟩
theorem WfP.mono {m n:Nat} (h:m≤n) (p:Pt):WfP m p→WfP n p:=by
 induction p using Pt.ind with
 | h p ih =>
  intro hw;rw [WfP.iff] at hw ⊢;exact ⟨hw.1,by omega,hw.2.2.1,fun k hk=>ih k hk (hw.2.2.2 k hk)⟩
structure ImOk (r:Rl):Prop where
 wl:WfP 64 r.l
 wr:WfP 64 r.r
 nl:NkP r.l
 nr:NkP r.r
 sl:r.l.size≤24
 sr:r.r.size≤24
 cn:r.conds.length≤6
 v0:0≤r.vars
 v6:r.vars≤6
 ck:∀c∈r.conds,1≤c.kind
theorem imok_of {r:Rl} (h:implF r=true):ImOk r:=by
 have hn:=applF_nk h;unfold implF at h;simp only [Bool.and_eq_true,decide_eq_true_eq] at h;obtain ⟨⟨⟨⟨⟨_,hl⟩,hr⟩,_⟩,hc⟩,hg⟩:=h;unfold validF at hl hr;rw [Bool.and_eq_true,decide_eq_true_iff] at hl hr;have wl:=wf_of_vPt _ _ _ _ hl.2;have wr:=wf_of_vPt _ _ _ _ hr.2;rw [List.length_replicate] at wl wr;refine ⟨WfP.mono (by omega) _ wl,WfP.mono (by omega) _ wr,hn.1,hn.2,by omega,by omega,hc,by omega,by omega,fun c hc=>?_⟩;unfold implG at hg;rw [Bool.and_eq_true] at hg;have hcond:=List.all_eq_true.1 hg.2 c hc;unfold condF at hcond;by_cases h1:c.kind=1
 ·omega
 ·by_cases h2:c.kind=2∨c.kind=3
  ·omega
  ·by_cases h4:c.kind=4
   ·omega
   ·by_cases h5:c.kind=5
    ·omega
    ·by_cases h6:c.kind=6
     ·omega
     ·rw [if_neg h1,if_neg h2,if_neg h4,if_neg h5,if_neg h6] at hcond;cases hcond
theorem nxok_of {r:Rl} (h:applF r=true):NxOk r:=by
 have h0:=h;unfold applF at h0;simp only [Bool.and_eq_true,decide_eq_true_eq] at h0;obtain ⟨⟨⟨⟨⟨h1,h2⟩,h3⟩,h4⟩,_⟩,h6⟩:=h0;have hi:=imok_of h1;refine ⟨⟨h3,hi.wl,by have:=hi.sl;omega⟩,⟨h4,hi.wr,by have:=hi.sr;omega⟩,fun c hc=>?_⟩;have hk:=of_decide_eq_true (List.all_eq_true.1 h6 c hc);unfold implF at h1;simp only [Bool.and_eq_true,decide_eq_true_eq] at h1;obtain ⟨⟨⟨⟨⟨_,hl⟩,_⟩,_⟩,_⟩,hg⟩:=h1;unfold validF at hl;rw [Bool.and_eq_true,decide_eq_true_iff] at hl;unfold implG at hg;rw [Bool.and_eq_true] at hg;have hcond:=List.all_eq_true.1 hg.2 c hc;have hss:(colV (occ r.r (rsF r.l.op).2) (colV (occ r.l (rsF r.l.op).2) (List.replicate (r.vars.toNat+1) 0))).length=r.vars.toNat+1:=by rw [colV_len,colV_len,List.length_replicate]
 generalize colV (occ r.r (rsF r.l.op).2) (colV (occ r.l (rsF r.l.op).2) (List.replicate (r.vars.toNat+1) 0))=ss at *
 have hv:∀x,isValF ss x=true→1≤x∧x≤64:=fun x hx=>by
  have:=of_decide_eq_true hx;omega
 have hkk:c.kind=1∨c.kind=2∨c.kind=3∨c.kind=4:=by omega
 unfold condF at hcond;refine ⟨hk,?_⟩;rcases hkk with e | e | e | e <;> simp only [e] at hcond <;> simp at hcond
 ·have:=hv _ hcond.1.1;exact ⟨this.1,this.2,fun q=>by omega⟩
 ·have:=hv _ hcond.1;exact ⟨this.1,this.2,fun q=>by omega⟩
 ·have:=hv _ hcond.1;exact ⟨this.1,this.2,fun q=>by omega⟩
 ·have q1:=hv _ hcond.1.1.1;have q2:=hv _ hcond.1.1.2;exact ⟨q1.1,q1.2,fun _=>q2⟩
theorem stN_le {r:Rl} (h:ImOk r):stN r≤4000:=by
 have h1:=bN_le r.l;have h2:=bN_le r.r;have:=h.sl;have:=h.sr;have:=h.cn;unfold stN;omega
theorem gR_le {r:Rl} (h:ImOk r):gN r.l≤24∧gN r.r≤24:=by
 have h1:=gN_le r.l;have h2:=gN_le r.r;have:=h.sl;have:=h.sr;omega
def BldP (F:Nat→Prop) (r:Rl) (a:RlA) (w:World) (e:Ending) (w':World):Prop :=
 ∃v,e=.returned (.tuple #[v,.bool (applF r)])∧Upd Non w w'∧(applF r=true→∃m L R GA gc gs,v=pp m∧w.heap.size≤m∧AU w' (fun i=>F i∧i<w.heap.size∨w.heap.size≤i) m r a L R GA gc gs∧GsX w' gs (gposR r))
theorem mC_far {cs:Array Value} {i:Nat} (h6:i≠16) (h8:i≠18) (a b v:Value):(mC cs a b).setIfInBounds i v=mC (cs.setIfInBounds i v) a b:=by
 unfold mC;rw [Array.setIfInBounds_comm _ _ (Ne.symm h8),Array.setIfInBounds_comm _ _ (Ne.symm h6)]
theorem mC_get {cs:Array Value} {i:Nat} (h6:i≠16) (h8:i≠18) (a b:Value):(mC cs a b)[i]?=cs[i]?:=by
 unfold mC;rw [Array.getElem?_setIfInBounds_ne (Ne.symm h8),Array.getElem?_setIfInBounds_ne (Ne.symm h6)]
theorem LyM.put {w:World} {m:Nat} {cs:Array Value} {sz:Nat} {GA:Option Addr} {gc:Nat} {gs:List Nat} (h:LyM w m cs sz GA gc gs) {i:Nat} (h6:i≠16) (h8:i≠18) (v:Value):LyM (w.setCell ⟨m,i,none⟩ v) m (cs.setIfInBounds i v) sz GA gc gs:=by
 refine ⟨?_,h.own.upd (updCell w m i v) (fun k hk e=>h.ne (e ▸ hk)),by rw [Array.size_setIfInBounds];exact h.cs⟩;have:=h.blk.set_ i v
 rwa [mC_far h6 h8] at this
def auC (r:Rl) (a:RlA) (L R c:Value):Array Value:=#[.string r.name,.int .i64 r.l.v,.int .i64 r.l.op,.int .i64 r.l.imm,.int .i64 r.l.iv,.slice a.la r.l.kids.length a.lc,.int .i64 r.r.v,.int .i64 r.r.op,.int .i64 r.r.imm,.int .i64 r.r.iv,.slice a.ra r.r.kids.length a.rc,.slice a.ca r.conds.length a.cc,.int .i64 r.vars,.int .i64 r.imms,L,R,.slice none 0 0,c,.int .i64 0]
theorem auC_14 (r:Rl) (a:RlA) (L R c v:Value):(auC r a L R c).setIfInBounds 14 v=auC r a v R c:=rfl
theorem auC_15 (r:Rl) (a:RlA) (L R c v:Value):(auC r a L R c).setIfInBounds 15 v=auC r a L v c:=rfl
theorem auC_17 (r:Rl) (a:RlA) (L R c v:Value):(auC r a L R c).setIfInBounds 17 v=auC r a L R v:=rfl
theorem auC_mC (r:Rl) (a:RlA) (L R c g s:Value):mC (auC r a L R c) g s=#[.string r.name,.int .i64 r.l.v,.int .i64 r.l.op,.int .i64 r.l.imm,.int .i64 r.l.iv,.slice a.la r.l.kids.length a.lc,.int .i64 r.r.v,.int .i64 r.r.op,.int .i64 r.r.imm,.int .i64 r.r.iv,.slice a.ra r.r.kids.length a.rc,.slice a.ca r.conds.length a.cc,.int .i64 r.vars,.int .i64 r.imms,L,R,g,c,s]:=rfl
theorem rs_len (op:Int):(rsF op).1.length=3:=by
 unfold rsF
 (repeat' split) <;> rfl
theorem arr3_cells (l:List Int) (h:l.length=3):#[Value.int .i64 (l.getD 0 0),.int .i64 (l.getD 1 0),.int .i64 (l.getD 2 0)]=(icells l).toArray:=by
 match l,h with
 | [a,b,c],_=>rfl
theorem arr3_get {w:World} {g:Nat} {l:List Int} (h:Blk w g 162 (icells l).toArray) {i:Nat} (hi:i<l.length):w.cell? ⟨g,i,none⟩=some (.int .i64 (l.getD i 0)):=by
 rw [h.cell];simp [icells,List.getD,hi]
def ss_ok (ks:List Pt) (ss:List Int) (m:Int) (n:Nat):Prop:=shpL ks ss m n=true
set_option maxRecDepth 100000 in
set_option maxHeartbeats 4000000 in
theorem rlCollect_c (p:Pt):∀(w:World) (F:Nat→Prop) (KA:Option Addr) (kc gv c gi d:Nat) (s s0:Int) (m n:Nat) (vs ms:List Int),PtK w F p KA kc→¬F gv→¬F gi→gv≠gi→VBlk w gv vs→VBlk w gi ms→shp p s0 m n=true→vs.length=n+1→ms.length=m+1→n≤1000→m≤1000 →
  Calls Tryz.prog 108 #[pv p KA kc,.int .i64 s,.slice (some ⟨gv,0,none⟩) vs.length c,.slice (some ⟨gi,0,none⟩) ms.length d] w fun e w'=>e=.returned (.tuple #[])∧VBlk w' gv (colV (occ p s) vs)∧VBlk w' gi (colI (occI p) ms)∧Upd (fun k=>k=gv∨k=gi) w w':=by
 induction p using Pt.ind with
 | h p ih =>
  intro w F KA kc gv c gi d s s0 m n vs ms hp hFv hFi hne hgv hgi hsh hvl hml hn hm;have HI:=h_ ih;obtain ⟨W,HW⟩:=nm (w.alloc (.cells #[.int .i64 p.v,.int .i64 p.op,.int .i64 p.imm,.int .i64 p.iv,.slice KA p.kids.length kc] 38));have hU:Upd Non w W:=by rw [←HW.out];exact Upd.refl.alloc _
  have hb:Blk W w.heap.size 38 #[.int .i64 p.v,.int .i64 p.op,.int .i64 p.imm,.int .i64 p.iv,.slice KA p.kids.length kc]:=by rw [←HW.out];exact Blk.new _ _ _
  have hsz:W.heap.size=w.heap.size+1:=by rw [←HW.out];simp
  have e0:=HW.out;have hvlt:gv<w.heap.size:=Blk.lt hgv;have hilt:gi<w.heap.size:=Blk.lt hgi;have hgv:VBlk W gv vs:=Blk.upd hgv hU (fun f=>f);have hgi:VBlk W gi ms:=Blk.upd hgi hU (fun f=>f);have hp:=PtK.upd hU (fun _ _ _ f=>f) p KA kc hp;have HSV:=h_ (@shp_var p);have HSO:=h_ (@shp_op p);have HIV:=h_ (@occI_var p s0 m n hsh);have HIO:=h_ (@occI_op p);have HOV:=h_ (fun h=>@occ_var p h s);have HOO:=h_ (fun h=>@occ_op p h s);have HND:=h_ ((shp_nodes _ _ _ _ hsh).2 p (by rw [nodes_eq];simp));have HSH:=h_ hsh;obtain ⟨RV,HRV⟩:=nm (occ p s);obtain ⟨RI,HRI⟩:=nm (occI p);rw [HRV.out,HRI.out];have c0:=hb.cell 0;have c1:=hb.cell 1;have c3:=hb.cell 3;have c4:=hb.cell 4;have h2U:Upd (fun k=>k=gv∨k=gi) w W:=hU.mono (fun _ _ f=>f.elim);unfold pv;obtain ⟨v,Hv⟩:=nm p.v;obtain ⟨op,Hop⟩:=nm p.op;obtain ⟨imm,Him⟩:=nm p.imm;obtain ⟨iv,Hiv⟩:=nm p.iv;obtain ⟨k,Hk⟩:=nm p.kids.length;rw [Hv.out] at c0 e0 hb;rw [Hop.out] at c1 e0 hb;rw [Him.out] at e0 hb;rw [Hiv.out] at c3 e0 hb HND;rw [Hk.out] at c4 e0 hb HND;rw [Hv.out,Hop.out,Him.out,Hiv.out,Hk.out]
  obtain ⟨vn,Hvn⟩:=nm vs.length;obtain ⟨mn,Hmn⟩:=nm ms.length;rw [Hvn.out] at hvl ⊢;rw [Hmn.out] at hml ⊢;subst hvl;subst hml;clear ih hsh;by_cases hv:v=0
  ·subst hv
   have hso:(oSortsF op).2.2=true∧k=(oSortsF op).1.length∧shpL p.kids (oSortsF op).1 m n=true:=by
    have h:=HSH.out;rw [HSO.out Hv.out,Bool.and_eq_true,decide_eq_true_eq,Hop.out,Hk.out] at h;exact ⟨h.1.1,h.1.2.1,h.2⟩
   obtain ⟨ho,hk,hsl⟩:=hso;obtain ⟨_,hk3,hrs⟩:=rs_parts ho;obtain ⟨_,hivr,_⟩:=HND.out;have hivr:=hivr (by omega);obtain ⟨j,rfl⟩:∃j:Nat,iv=(j:Int):=Int.eq_ofNat_of_zero_le hivr.1;have hjm:j<ms.length:=by rw [Hmn.out];omega
   have hRI:Hid (RI=(j:Int)::occIL p.kids):=by show _=_;rw [←HRI.out,HIO.out Hv.out,Hiv.out]
   have hRV:Hid (RV=occL p.kids (oSortsF op).1):=by show _=_;rw [←HRV.out,HOO.out Hv.out,Hop.out]
   have hkk:k≤3:=by omega
   have HSL:=h_ hsl;have HRS:Hid (∀i,i<k→(rsF op).1.getD i 0=(oSortsF op).1.getD i 0):=fun i hi=>by rw [hrs i (by omega),getD_of (by omega:i<(oSortsF op).1.length)]
   have hz:=VBlk.cell hgi hjm;have hfr:=Blk.frozen hgi;obtain ⟨W2,HW2⟩:=nm (W.setCell ⟨gi,j,none⟩ (.int .i64 1));have hgi2:VBlk W2 gi (ms.set j 1):=by rw [←HW2.out];exact VBlk.set_ hgi j 1
   have u2:Upd (·=gi) W W2:=by rw [←HW2.out];exact updCell _ _ _ _
   have e2:=HW2.out;have hgv2:VBlk W2 gv vs:=Blk.upd hgv u2 hne;have hb2:=hb.upd u2 (by omega);have hp2:=PtK.upd u2 (fun q _ hq e=>hFi (by rw [←e];exact hq)) p KA kc hp;have hs2:=u2.size;have HU2:Upd (fun q=>q=gv∨q=gi) w W2:=h2U.trans u2 (fun q _ h=>.inr h);have d1:=hb2.cell 1;have d4:=hb2.cell 4;have CS:=h_ (rlSorts_c op W2);clear HSV HSO HIV HIO HOV HOO HND HSH HRV HRI hrs ho hk3 hsl hb hp hgv hgi hk;go_enter Tryz.func108,Tryz.ntmps108;go_wp2_with fail
   refine CS.out.mono ?_;rintro e w3 ⟨rfl,u3⟩;obtain ⟨l3,Hl3⟩:=nm (rsF op).1;have hl3:=rs_len op;have ha3:=arr3_cells (rsF op).1 hl3;rw [Hl3.out] at hl3 ha3 HRS;rw [Hl3.out];obtain ⟨x0,Hx0⟩:=nm (l3.getD 0 0);obtain ⟨x1,Hx1⟩:=nm (l3.getD 1 0);obtain ⟨x2,Hx2⟩:=nm (l3.getD 2 0);rw [Hx0.out,Hx1.out,Hx2.out] at ha3;rw [Hx0.out,Hx1.out,Hx2.out];have HA3:=h_ ha3;obtain ⟨W4,HW4⟩:=nm (w3.alloc (.cells #[.int .i64 x0,.int .i64 x1,.int .i64 x2] 162));have e4:=HW4.out;have u4:Upd Non w3 W4:=by rw [←e4];exact Upd.refl.alloc _
   have hb4:Blk W4 w3.heap.size 162 (icells l3).toArray:=by rw [←ha3,←e4];exact Blk.new _ _ _
   have u24:=u3.then_non u4;have hb2:=hb2.upd u24 (fun f=>f);have hs3:=u3.size;have d4:=hb2.cell 4;have hgi4:VBlk W4 gi (ms.set j 1):=Blk.upd hgi2 u24 (fun f=>f);have hgv4:VBlk W4 gv vs:=Blk.upd hgv2 u24 (fun f=>f);have hp4:=PtK.upd u24 (fun _ _ _ f=>f) p KA kc hp2;have HU4:=HU2.then_non u24;have HSS:Hid (ss_ok p.kids (oSortsF op).1 m n):=HSL.out;have HM0:Hid ((ms.set j 1).length=m+1∧vs.length=n+1):=⟨by rw [List.length_set,Hmn.out],Hvn.out⟩;obtain ⟨ss,Hss⟩:=nm (oSortsF op).1;rw [Hss.out] at HSS HRS hRV;have hgi4:=h_ hgi4;have hgv4:=h_ hgv4;obtain ⟨ms1,Hms1⟩:=nm (ms.set j 1);rw [Hms1.out] at HM0 hgi4;have hl3k:k≤l3.length:=by omega
   have hsz4:W4.heap.size=w3.heap.size+1:=by rw [←HW4.out];simp
   clear CS ha3 hgi2 hgv2 hp2 hz hfr HSL hl3 hb2 d1;go_wp2_with fail
   go_loopg [10,11,36] k (fun g _ _ i wr=>∃q:Nat,Hid (g=k - q)∧q≤k∧i=.int .i64 q∧Hid (VBlk wr gv (colV (occL (p.kids.take q) ss) vs))∧Hid (VBlk wr gi (colI (occIL (p.kids.take q)) ms1))∧Upd (fun q=>q=gv∨q=gi) W4 wr)
   case atStart=>exact ⟨0,rfl,by omega,rfl,hgv4.out,hgi4.out,Upd.refl⟩
   case round =>
    obtain ⟨q,Hg,hq,rfl,HV,HM,hu⟩:=hrel;by_cases hlt:q<k
    ·have hql:q<p.kids.length:=by rw [Hk.out];exact hlt
     obtain ⟨b,o,rfl,hF,hbw,KB,kd,h0,h1,h2,h3,h4,h5⟩:=(PtK.upd hu (fun q _ hq e=>by rcases e with rfl | rfl;exact hFv hq;exact hFi hq) p KA kc hp4).at_ hql
     have HTK:Hid (p.kids.take (q+1)=p.kids.take q++[p.kids[q]]∧(p.kids.take q).length=q):=⟨take_snoc' hql,by rw [List.length_take];omega⟩;have hmem:=List.getElem_mem hql;have hsk:=shpL_at hql HSS.out;generalize p.kids[q]=t at *;have hb4r:=hb4.upd hu (by omega);have a0:=arr3_get hb4r (i:=q) (by omega);have HRQ:=h_ (HRS.out q hlt);obtain ⟨sq,Hsq⟩:=nm (l3.getD q 0);rw [Hsq.out] at a0 HRQ;obtain ⟨W5,HW5⟩:=nm (wr.alloc (.cells #[.int .i64 t.v,.int .i64 t.op,.int .i64 t.imm,.int .i64 t.iv,.slice KB t.kids.length kd] 38));have e5:=HW5.out;have u5:Upd Non wr W5:=by rw [←e5];exact Upd.refl.alloc _
     have bt:Blk W5 wr.heap.size 38 #[.int .i64 t.v,.int .i64 t.op,.int .i64 t.imm,.int .i64 t.iv,.slice KB t.kids.length kd]:=by rw [←e5];exact Blk.new _ _ _
     obtain ⟨wD,HwD⟩:=nm W5.drew;have uD:Upd Non W5 wD:=by rw [←HwD.out];exact Upd.refl.drew
     have u6:=u5.then_non uD;have hsu:=hu.size;have hs5:=u5.size;have C1:=h_ (HI.out t hmem wD F KB kd gv c gi d sq (ss.getD q 0) m n (colV (occL (p.kids.take q) ss) vs) (colI (occIL (p.kids.take q)) ms1) (PtK.upd u6 (fun _ _ _ f=>f) _ _ _ h5) hFv hFi hne (Blk.upd HV.out u6 (fun f=>f)) (Blk.upd HM.out u6 (fun f=>f)) hsk (by rw [colV_len,HM0.out.2]) (by rw [colI_len,HM0.out.1]) hn hm)
     rw [colV_len,colI_len,HM0.out.1,HM0.out.2] at C1;unfold pv at C1;have HV2:Hid (colV (occ t sq) (colV (occL (p.kids.take q) ss) vs)=colV (occL (p.kids.take (q+1)) ss) vs):=by show _=_;rw [HTK.out.1,occL_snoc,HTK.out.2,colV_snoc,HRQ.out]
     have HM2:Hid (colI (occI t) (colI (occIL (p.kids.take q)) ms1)=colI (occIL (p.kids.take (q+1))) ms1):=by show _=_;rw [HTK.out.1,occIL_snoc,colI_snoc]
     rw [HV2.out,HM2.out] at C1
     have SS:∀w',Upd (fun q=>q=gv∨q=gi) W5 w'→w'.cell? ⟨wr.heap.size,0,none⟩=some (.int .i64 t.v)∧w'.cell? ⟨wr.heap.size,1,none⟩=some (.int .i64 t.op)∧w'.cell? ⟨wr.heap.size,2,none⟩=some (.int .i64 t.imm)∧w'.cell? ⟨wr.heap.size,3,none⟩=some (.int .i64 t.iv)∧w'.cell? ⟨wr.heap.size,4,none⟩=some (.slice KB t.kids.length kd)∧w'.cell? ⟨w3.heap.size,q,none⟩=some (.int .i64 sq):=fun w' u =>
      ⟨u_ (bt.cell 0) u (by omega),u_ (bt.cell 1) u (by omega),u_ (bt.cell 2) u (by omega),u_ (bt.cell 3) u (by omega),u_ (bt.cell 4) u (by omega),u_ (u_ a0 u5 (fun f=>f)) u (by omega)⟩
     have HS:=h_ SS;have q0:=bt.cell 0;have q1:=bt.cell 1;have q2:=bt.cell 2;have q3:=bt.cell 3;have q4:=bt.cell 4;have hq3:(q:Int)<3:=by omega
     have hq0:(0:Int)≤(q:Int):=by omega
     clear SS h5 HV HM bt HTK hmem hsk;go_wp2_with fail
     refine wp_region_held_drew (S:=fun w'=>w'.cell? ⟨wr.heap.size,0,none⟩=some (.int .i64 t.v)∧w'.cell? ⟨wr.heap.size,1,none⟩=some (.int .i64 t.op)∧w'.cell? ⟨wr.heap.size,2,none⟩=some (.int .i64 t.imm)∧w'.cell? ⟨wr.heap.size,3,none⟩=some (.int .i64 t.iv)∧w'.cell? ⟨wr.heap.size,4,none⟩=some (.slice KB t.kids.length kd)∧w'.cell? ⟨w3.heap.size,q,none⟩=some (.int .i64 sq)) (by kernel_rfl) (by rw [HwD.out];exact HS.out _ (uD.mono (fun _ _ f=>f.elim))) (fun hHeld=>?_)
     rw [HwD.out] at hHeld ⊢;refine wpT 0 ?_;(try simp only [y_,z_]);refine wpT 1 ?_;(try simp only [y_,z_]);refine wpT 2 ?_;(try simp only [y_,z_]);refine wpT 3 ?_;(try simp only [y_,z_]);refine wpT 4 ?_;(try simp only [y_,z_]);refine wpT 5 ?_;(try simp only [y_,z_]);refine aR_ (rs:=[6]) (by kernel_rfl) (by simp) ?_;refine aC_ rfl (fun K hK=>?_) aN_;go_simp;refine C1.out.mono ?_;rintro e w7 ⟨rfl,hv7,hm7,hu7⟩;have u7:Upd (fun q=>q=gv∨q=gi) W5 w7:=(uD.mono (T:=fun q=>q=gv∨q=gi) (fun _ _ f=>f.elim)).trans hu7 (fun _ _ h=>h);have HV7:=h_ hv7;have HM7:=h_ hm7;go_wp2_with fail
     refine hK.out _ _ ?_ (fun hHeld=>?_)
     ·exact HS.out _ u7
     clear hK K;(try simp only [y_,z_]);refine aD_ (by kernel_rfl) ?_ _;have HU7:Upd (fun q=>q=gv∨q=gi) W4 w7:=(hu.then_non u5).trans u7 (fun _ _ h=>h);clear hv7 hm7 C1 HS;go_wp2_with fail
     go_roundg (k - (q+1))
     case measure=>rw [Hg.out];omega
     case rel=>exact ⟨q+1,rfl,by omega,by go_num,HV7.out,HM7.out,HU7⟩
    ·obtain rfl:k=q:=by omega
     have HT:Hid (p.kids.take k=p.kids):=List.take_of_length_le (by rw [Hk.out];exact Nat.le_refl _);rw [HT.out] at HV HM;have HU:=HU4.trans hu (fun _ _ h=>h);go_wp2_with fail
     go_end0
     rw [hRV.out,hRI.out];refine ⟨rfl,HV.out,?_,HU⟩;show VBlk _ gi (colI (occIL p.kids) (ms.set (j:Int).toNat 1));rw [Int.toNat_natCast,Hms1.out];exact HM.out
  ·have hsv:1≤v∧v≤n:=by
    have h:=HSH.out;rw [HSV.out (by rw [Hv.out];exact hv),decide_eq_true_eq,Hv.out] at h;omega
   obtain ⟨j,rfl⟩:∃j:Nat,v=(j:Int):=Int.eq_ofNat_of_zero_le (by omega);have hjn:j<vs.length:=by rw [Hvn.out];omega
   have hRI:Hid (RI=[]):=by show _=_;rw [←HRI.out];exact HIV.out (by rw [Hv.out];exact hv)
   have hRV:Hid (RV=[((j:Int),s)]):=by show _=_;rw [←HRV.out,HOV.out (by rw [Hv.out];exact hv),Hv.out]
   have hz:=VBlk.cell hgv hjn;have hfr:=Blk.frozen hgv;have hset:=VBlk.set_ hgv j (orB (vs.getD j 0) s);obtain ⟨z,Hz⟩:=nm (vs.getD j 0);rw [Hz.out] at hz hset;unfold orB at hset;have hj0:(0:Int)<(j:Int):=by omega
   clear HSV HSO HIV HIO HOV HOO HND HSH HRV HRI hb;go_enter Tryz.func108,Tryz.ntmps108;go_wp2_with fail
   refine bodyPost_ret (results_none rfl _ _ _) rfl ?_;rw [hRV.out,hRI.out];refine ⟨rfl,?_,Blk.upd hgi (updCell _ _ _ _) (fun e=>hne e.symm),h2U.trans (updCell _ _ _ _) (fun q _ e=>.inl e)⟩;show VBlk _ gv (vs.set (j:Int).toNat (orB (vs.getD (j:Int).toNat 0) s));rw [Int.toNat_natCast,Hz.out];exact hset
theorem nm_cases (x:Int):(97≤x∧x≤122)∨(48≤x∧x≤57)∨x=45∨(x<48∧x≠45)∨(57<x∧x<97)∨122<x:=by omega
theorem all_take {s:ByteArray} {k:Nat} (hk:k<s.size) (h:((kx s).take k).all nmCh=true) (c:nmCh ((kx s).getD k 0)=true):((kx s).take (k+1)).all nmCh=true:=by
 have hl:k<(kx s).length:=by rw [kx_len];exact hk
 rw [List.take_add_one,List.getElem?_eq_getElem hl,List.all_append,h];rw [getD_of hl] at c;simp [c]
theorem all_bad {s:ByteArray} {k:Nat} (hk:k<s.size) (c:nmCh ((kx s).getD k 0)=false):nameF s=false:=by
 have hl:k<(kx s).length:=by rw [kx_len];exact hk
 rw [getD_of hl] at c;unfold nameF
 have : s.data.toList.all nmCh=false:=by
  rw [Bool.eq_false_iff];intro h;rw [List.all_eq_true] at h;have:=h _ (List.getElem_mem hl);rw [c] at this;cases this
 rw [this];rfl
theorem all_ok {s:ByteArray} (h:((kx s).take s.size).all nmCh=true):nameF s=decide (1≤s.size∧s.size≤16):=by
 have hl:(kx s).length≤s.size:=by rw [kx_len];exact Nat.le_refl _
 rw [List.take_of_length_le hl] at h;unfold nameF;rw [show s.data.toList.all nmCh=true from h];rfl
set_option maxRecDepth 100000 in
set_option maxHeartbeats 4000000 in
theorem rlValidName_c (s:ByteArray) (w:World) (hs:s.size≤1000000000000000):Calls Tryz.prog 106 #[.string s] w fun e w'=>e=.returned (.bool (nameF s))∧∃n,w'=w.drewN n:=by
 obtain ⟨n,Hn⟩:=nm s.size;rw [Hn.out] at hs;have hsn:=Hn.out;obtain ⟨R,HR⟩:=nm (nameF s);rw [HR.out];go_enter Tryz.func106,Tryz.ntmps106;go_wp2_with fail
 go_loopg [3,4] n (fun g i _ wr=>∃k:Nat,Hid (g=n - k)∧k≤n∧i=.int .i64 k∧Hid (((kx s).take k).all nmCh=true)∧∃q,wr=w.drewN q)
 case atStart=>exact ⟨0,rfl,by omega,rfl,by show _=_;simp,0,rfl⟩
 case round =>
  obtain ⟨k,Hg,hk,rfl,HA,n1,rfl⟩:=hrel;by_cases hlt:k<n
  ·have hks:k<s.size:=by rw [Hn.out];exact hlt
   have HOK:=h_ (fun c=>all_take hks HA.out c);have HBAD:=h_ (fun c=>@all_bad s k hks c);rw [HR.out] at HBAD;have hkl:k<(kx s).length:=by rw [kx_len];exact hks
   rw [getD_of hkl,show (kx s)[k]=s[k]'hks from rfl] at HOK HBAD;have HNC:Hid (nmCh (s[k]'hks)=decide (97≤(s[k]'hks).toNat∧(s[k]'hks).toNat≤122∨48≤(s[k]'hks).toNat∧(s[k]'hks).toNat≤57∨(s[k]'hks).toNat=45)):=rfl
   obtain ⟨x,Hx⟩:=nm (((s[k]'hks).toNat:Nat):Int);have HX:=Hx.out;rcases nm_cases x with hc | hc | hc | hc | hc | hc
   ·have f1:decide ((((s[k]'hks).toNat:Nat):Int)<97)=false:=by rw [Hx.out];exact dF_ (by omega)
    have f2:decide (122<(((s[k]'hks).toNat:Nat):Int))=false:=by rw [Hx.out];exact dF_ (by omega)
    have hok:nmCh (s[k]'hks)=true:=by rw [HNC.out,decide_eq_true_eq];omega
    have HOK2:=h_ (HOK.out hok);clear hok;clear hc HX;go_wp2_with fail
    go_roundg (n - (k+1))
    case measure=>rw [Hg.out];omega
    case rel=>exact ⟨k+1,rfl,by omega,by go_num,HOK2.out,_,rfl⟩
   ·have f1:decide ((((s[k]'hks).toNat:Nat):Int)<97)=true:=by rw [Hx.out];exact dT_ (by omega)
    have f3:decide ((((s[k]'hks).toNat:Nat):Int)<48)=false:=by rw [Hx.out];exact dF_ (by omega)
    have f4:decide (57<(((s[k]'hks).toNat:Nat):Int))=false:=by rw [Hx.out];exact dF_ (by omega)
    have hok:nmCh (s[k]'hks)=true:=by rw [HNC.out,decide_eq_true_eq];omega
    have HOK2:=h_ (HOK.out hok);clear hok;clear hc HX;go_wp2_with fail
    go_roundg (n - (k+1))
    case measure=>rw [Hg.out];omega
    case rel=>exact ⟨k+1,rfl,by omega,by go_num,HOK2.out,_,rfl⟩
   ·have f1:decide ((((s[k]'hks).toNat:Nat):Int)<97)=true:=by rw [Hx.out];exact dT_ (by omega)
    have f3:decide ((((s[k]'hks).toNat:Nat):Int)<48)=true:=by rw [Hx.out];exact dT_ (by omega)
    have f5:((((s[k]'hks).toNat:Nat):Int) != 45)=false:=by rw [Hx.out];simp [hc]
    have hok:nmCh (s[k]'hks)=true:=by rw [HNC.out,decide_eq_true_eq];omega
    have HOK2:=h_ (HOK.out hok);clear hok;clear hc HX;go_wp2_with fail
    go_roundg (n - (k+1))
    case measure=>rw [Hg.out];omega
    case rel=>exact ⟨k+1,rfl,by omega,by go_num,HOK2.out,_,rfl⟩
   ·have f1:decide ((((s[k]'hks).toNat:Nat):Int)<97)=true:=by rw [Hx.out];exact dT_ (by omega)
    have f3:decide ((((s[k]'hks).toNat:Nat):Int)<48)=true:=by rw [Hx.out];exact dT_ (by omega)
    have f5:((((s[k]'hks).toNat:Nat):Int) != 45)=true:=by rw [Hx.out];simp;omega
    have hbad:nmCh (s[k]'hks)=false:=by rw [HNC.out,decide_eq_false_iff_not];omega
    have HB:=h_ (HBAD.out hbad);clear hbad;clear hc HX;go_wp2_with fail
    go_ret;exact ⟨by rw [HB.out];rfl,_,rfl⟩
   ·have f1:decide ((((s[k]'hks).toNat:Nat):Int)<97)=true:=by rw [Hx.out];exact dT_ (by omega)
    have f3:decide ((((s[k]'hks).toNat:Nat):Int)<48)=false:=by rw [Hx.out];exact dF_ (by omega)
    have f4:decide (57<(((s[k]'hks).toNat:Nat):Int))=true:=by rw [Hx.out];exact dT_ (by omega)
    have f5:((((s[k]'hks).toNat:Nat):Int) != 45)=true:=by rw [Hx.out];simp;omega
    have hbad:nmCh (s[k]'hks)=false:=by rw [HNC.out,decide_eq_false_iff_not];omega
    have HB:=h_ (HBAD.out hbad);clear hbad;clear hc HX;go_wp2_with fail
    go_ret;exact ⟨by rw [HB.out];rfl,_,rfl⟩
   ·have f1:decide ((((s[k]'hks).toNat:Nat):Int)<97)=false:=by rw [Hx.out];exact dF_ (by omega)
    have f2:decide (122<(((s[k]'hks).toNat:Nat):Int))=true:=by rw [Hx.out];exact dT_ (by omega)
    have f3:decide ((((s[k]'hks).toNat:Nat):Int)<48)=false:=by rw [Hx.out];exact dF_ (by omega)
    have f4:decide (57<(((s[k]'hks).toNat:Nat):Int))=true:=by rw [Hx.out];exact dT_ (by omega)
    have f5:((((s[k]'hks).toNat:Nat):Int) != 45)=true:=by rw [Hx.out];simp;omega
    have hbad:nmCh (s[k]'hks)=false:=by rw [HNC.out,decide_eq_false_iff_not];omega
    have HB:=h_ (HBAD.out hbad);clear hbad;clear hc HX;go_wp2_with fail
    go_ret;exact ⟨by rw [HB.out];rfl,_,rfl⟩
  ·obtain rfl:n=k:=by omega
   have HRE:Hid (R=decide (1≤n∧n≤16)):=by
    have:=HA.out;rw [←Hn.out] at this;show _=_;rw [←HR.out,all_ok this,Hn.out]
   by_cases h1:1≤n
   ·have f1:decide ((1:Int)≤(n:Int))=true:=dT_ (by omega);by_cases h2:n≤16
    ·have f2:decide ((n:Int)≤16)=true:=dT_ (by omega);have HR2:Hid (R=true):=by show _=_;rw [HRE.out];exact dT_ ⟨h1,h2⟩
     clear h1 h2;go_wp2_with fail
     go_ret;exact ⟨by rw [HR2.out];rfl,_,rfl⟩
    ·have f2:decide ((n:Int)≤16)=false:=dF_ (by omega);have HR2:Hid (R=false):=by show _=_;rw [HRE.out];exact dF_ (by omega)
     clear h1 h2;go_wp2_with fail
     go_ret;exact ⟨by rw [HR2.out];rfl,_,rfl⟩
   ·have f1:decide ((1:Int)≤(n:Int))=false:=dF_ (by omega);have HR2:Hid (R=false):=by show _=_;rw [HRE.out];exact dF_ (by omega)
    clear h1;go_wp2_with fail
    go_ret;exact ⟨by rw [HR2.out];rfl,_,rfl⟩
set_option maxRecDepth 100000 in
set_option maxHeartbeats 4000000 in
theorem r15validName_c (s:ByteArray) (w:World) (hs:s.size≤1000000000000000):Calls Tryz.prog 85 #[.string s] w fun e w'=>e=.returned (.bool (nameF s))∧∃n,w'=w.drewN n:=by
 obtain ⟨n,Hn⟩:=nm s.size;rw [Hn.out] at hs;have hsn:=Hn.out;obtain ⟨R,HR⟩:=nm (nameF s);rw [HR.out];go_enter Tryz.func85,Tryz.ntmps85;go_wp2_with fail
 go_loopg [3] n (fun g i wr=>∃k:Nat,Hid (g=n - k)∧k≤n∧i=.int .i64 k∧Hid (((kx s).take k).all nmCh=true)∧∃q,wr=w.drewN q)
 case atStart=>exact ⟨0,rfl,by omega,rfl,by show _=_;simp,0,rfl⟩
 case round =>
  obtain ⟨k,Hg,hk,rfl,HA,n1,rfl⟩:=hrel;by_cases hlt:k<n
  ·have hks:k<s.size:=by rw [Hn.out];exact hlt
   have HOK:=h_ (fun c=>all_take hks HA.out c);have HBAD:=h_ (fun c=>@all_bad s k hks c);rw [HR.out] at HBAD;have hkl:k<(kx s).length:=by rw [kx_len];exact hks
   rw [getD_of hkl,show (kx s)[k]=s[k]'hks from rfl] at HOK HBAD;have HNC:Hid (nmCh (s[k]'hks)=decide (97≤(s[k]'hks).toNat∧(s[k]'hks).toNat≤122∨48≤(s[k]'hks).toNat∧(s[k]'hks).toNat≤57∨(s[k]'hks).toNat=45)):=rfl
   obtain ⟨x,Hx⟩:=nm (((s[k]'hks).toNat:Nat):Int);have HX:=Hx.out;rcases nm_cases x with hc | hc | hc | hc | hc | hc
   ·have f1:decide ((((s[k]'hks).toNat:Nat):Int)<97)=false:=by rw [Hx.out];exact dF_ (by omega)
    have f2:decide (122<(((s[k]'hks).toNat:Nat):Int))=false:=by rw [Hx.out];exact dF_ (by omega)
    have hok:nmCh (s[k]'hks)=true:=by rw [HNC.out,decide_eq_true_eq];omega
    have HOK2:=h_ (HOK.out hok);clear hok;clear hc HX;go_wp2_with fail
    go_roundg (n - (k+1))
    case measure=>rw [Hg.out];omega
    case rel=>exact ⟨k+1,rfl,by omega,by go_num,HOK2.out,_,rfl⟩
   ·have f1:decide ((((s[k]'hks).toNat:Nat):Int)<97)=true:=by rw [Hx.out];exact dT_ (by omega)
    have f3:decide ((((s[k]'hks).toNat:Nat):Int)<48)=false:=by rw [Hx.out];exact dF_ (by omega)
    have f4:decide (57<(((s[k]'hks).toNat:Nat):Int))=false:=by rw [Hx.out];exact dF_ (by omega)
    have hok:nmCh (s[k]'hks)=true:=by rw [HNC.out,decide_eq_true_eq];omega
    have HOK2:=h_ (HOK.out hok);clear hok;clear hc HX;go_wp2_with fail
    go_roundg (n - (k+1))
    case measure=>rw [Hg.out];omega
    case rel=>exact ⟨k+1,rfl,by omega,by go_num,HOK2.out,_,rfl⟩
   ·have f1:decide ((((s[k]'hks).toNat:Nat):Int)<97)=true:=by rw [Hx.out];exact dT_ (by omega)
    have f3:decide ((((s[k]'hks).toNat:Nat):Int)<48)=true:=by rw [Hx.out];exact dT_ (by omega)
    have f5:((((s[k]'hks).toNat:Nat):Int) != 45)=false:=by rw [Hx.out];simp [hc]
    have hok:nmCh (s[k]'hks)=true:=by rw [HNC.out,decide_eq_true_eq];omega
    have HOK2:=h_ (HOK.out hok);clear hok;clear hc HX;go_wp2_with fail
    go_roundg (n - (k+1))
    case measure=>rw [Hg.out];omega
    case rel=>exact ⟨k+1,rfl,by omega,by go_num,HOK2.out,_,rfl⟩
   ·have f1:decide ((((s[k]'hks).toNat:Nat):Int)<97)=true:=by rw [Hx.out];exact dT_ (by omega)
    have f3:decide ((((s[k]'hks).toNat:Nat):Int)<48)=true:=by rw [Hx.out];exact dT_ (by omega)
    have f5:((((s[k]'hks).toNat:Nat):Int) != 45)=true:=by rw [Hx.out];simp;omega
    have hbad:nmCh (s[k]'hks)=false:=by rw [HNC.out,decide_eq_false_iff_not];omega
    have HB:=h_ (HBAD.out hbad);clear hbad;clear hc HX;go_wp2_with fail
    go_ret;exact ⟨by rw [HB.out];rfl,_,rfl⟩
   ·have f1:decide ((((s[k]'hks).toNat:Nat):Int)<97)=true:=by rw [Hx.out];exact dT_ (by omega)
    have f3:decide ((((s[k]'hks).toNat:Nat):Int)<48)=false:=by rw [Hx.out];exact dF_ (by omega)
    have f4:decide (57<(((s[k]'hks).toNat:Nat):Int))=true:=by rw [Hx.out];exact dT_ (by omega)
    have f5:((((s[k]'hks).toNat:Nat):Int) != 45)=true:=by rw [Hx.out];simp;omega
    have hbad:nmCh (s[k]'hks)=false:=by rw [HNC.out,decide_eq_false_iff_not];omega
    have HB:=h_ (HBAD.out hbad);clear hbad;clear hc HX;go_wp2_with fail
    go_ret;exact ⟨by rw [HB.out];rfl,_,rfl⟩
   ·have f1:decide ((((s[k]'hks).toNat:Nat):Int)<97)=false:=by rw [Hx.out];exact dF_ (by omega)
    have f2:decide (122<(((s[k]'hks).toNat:Nat):Int))=true:=by rw [Hx.out];exact dT_ (by omega)
    have f3:decide ((((s[k]'hks).toNat:Nat):Int)<48)=false:=by rw [Hx.out];exact dF_ (by omega)
    have f4:decide (57<(((s[k]'hks).toNat:Nat):Int))=true:=by rw [Hx.out];exact dT_ (by omega)
    have f5:((((s[k]'hks).toNat:Nat):Int) != 45)=true:=by rw [Hx.out];simp;omega
    have hbad:nmCh (s[k]'hks)=false:=by rw [HNC.out,decide_eq_false_iff_not];omega
    have HB:=h_ (HBAD.out hbad);clear hbad;clear hc HX;go_wp2_with fail
    go_ret;exact ⟨by rw [HB.out];rfl,_,rfl⟩
  ·obtain rfl:n=k:=by omega
   have HRE:Hid (R=decide (1≤n∧n≤16)):=by
    have:=HA.out;rw [←Hn.out] at this;show _=_;rw [←HR.out,all_ok this,Hn.out]
   by_cases h1:1≤n
   ·have f1:decide ((1:Int)≤(n:Int))=true:=dT_ (by omega);by_cases h2:n≤16
    ·have f2:decide ((n:Int)≤16)=true:=dT_ (by omega);have HR2:Hid (R=true):=by show _=_;rw [HRE.out];exact dT_ ⟨h1,h2⟩
     clear h1 h2;go_wp2_with fail
     go_ret;exact ⟨by rw [HR2.out];rfl,_,rfl⟩
    ·have f2:decide ((n:Int)≤16)=false:=dF_ (by omega);have HR2:Hid (R=false):=by show _=_;rw [HRE.out];exact dF_ (by omega)
     clear h1 h2;go_wp2_with fail
     go_ret;exact ⟨by rw [HR2.out];rfl,_,rfl⟩
   ·have f1:decide ((1:Int)≤(n:Int))=false:=dF_ (by omega);have HR2:Hid (R=false):=by show _=_;rw [HRE.out];exact dF_ (by omega)
    clear h1;go_wp2_with fail
    go_ret;exact ⟨by rw [HR2.out];rfl,_,rfl⟩
set_option maxRecDepth 100000 in
set_option maxHeartbeats 4000000 in
theorem rlVC1_c (n:Int) (b:Nat) (ss:List Int) (A:Option Addr) (c:Nat) (F:Nat→Prop) (w:World) (hb:w.cell? ⟨b,0,none⟩=some (.slice A ss.length c)) (hs:Ints w F A ss) :
  Calls Tryz.prog 170 #[.int .i64 n,.pointer (some ⟨b,0,none⟩)] w fun e w'=>e=.returned (.bool (isValF ss n))∧w=w':=by
 obtain ⟨l,Hl⟩:=nm ss.length;obtain ⟨R,HR⟩:=nm (isValF ss n);have HD:Hid (R=decide (1≤n∧n<(l:Int)∧ss.getD n.toNat 0=1)):=by show _=_;rw [←HR.out,←Hl.out];rfl
 rw [Hl.out] at hb;rw [HR.out];by_cases h1:1≤n
 ·have f1:decide ((1:Int)≤n)=true:=dT_ h1;by_cases h2:n<(l:Int)
  ·have f2:decide (n<(l:Int))=true:=dT_ h2;obtain ⟨j,rfl⟩:∃j:Nat,n=(j:Int):=Int.eq_ofNat_of_zero_le (by omega);have hj:j<ss.length:=by rw [Hl.out];omega
   obtain ⟨g,o,rfl,_,_,hx⟩:=hs.at_ hj;have HE:Hid (R=decide (ss[j]=1)):=by show _=_;rw [HD.out,Int.toNat_natCast,getD_of hj];simp [h1,h2]
   generalize ss[j]=x at *;clear h1;go_enter Tryz.func170,Tryz.ntmps170;go_wp2_with fail
   go_ret;refine ⟨?_,rfl⟩;rw [HE.out];show Ending.returned (Value.bool _)=_
   congr 2
  ·have f2:decide (n<(l:Int))=false:=dF_ h2;have HE:Hid (R=false):=by show _=_;rw [HD.out];exact dF_ (fun q=>h2 q.2.1)
   clear h1 h2;go_enter Tryz.func170,Tryz.ntmps170;go_wp2_with fail
   go_ret;exact ⟨by rw [HE.out];rfl,rfl⟩
 ·have f1:decide ((1:Int)≤n)=false:=dF_ h1;have HE:Hid (R=false):=by show _=_;rw [HD.out];exact dF_ (fun q=>h1 q.1)
  clear h1;go_enter Tryz.func170,Tryz.ntmps170;go_wp2_with fail
  go_ret;exact ⟨by rw [HE.out];rfl,rfl⟩
set_option maxRecDepth 100000 in
set_option maxHeartbeats 4000000 in
theorem rlVC2_c (n m:Int) (b:Nat) (w:World) (hb:w.cell? ⟨b,0,none⟩=some (.int .i64 m)) :
  Calls Tryz.prog 171 #[.int .i64 n,.pointer (some ⟨b,0,none⟩)] w fun e w'=>e=.returned (.bool (isImmF m n))∧w=w':=by
 obtain ⟨R,HR⟩:=nm (isImmF m n);have HD:Hid (R=decide (1≤n∧n≤m)):=by show _=_;rw [←HR.out];rfl
 rw [HR.out];by_cases h1:1≤n
 ·have f1:decide ((1:Int)≤n)=true:=dT_ h1;have HE:Hid (R=decide (n≤m)):=by show _=_;rw [HD.out];simp [h1]
  clear h1;go_enter Tryz.func171,Tryz.ntmps171;go_wp2_with fail
  go_ret;exact ⟨by rw [HE.out];rfl,rfl⟩
 ·have f1:decide ((1:Int)≤n)=false:=dF_ h1;have HE:Hid (R=false):=by show _=_;rw [HD.out];exact dF_ (fun q=>h1 q.1)
  clear h1;go_enter Tryz.func171,Tryz.ntmps171;go_wp2_with fail
  go_ret;exact ⟨by rw [HE.out];rfl,rfl⟩
set_option maxRecDepth 100000 in
set_option maxHeartbeats 4000000 in
theorem rlValidCond_c (x:Cd) (ss:List Int) (m:Int) (A:Option Addr) (c:Nat) (F:Nat→Prop) (w:World) (hs:Ints w F A ss) :
  Calls Tryz.prog 109 #[.agg #[.int .i64 x.kind,.int .i64 x.a,.int .i64 x.b,.int .i64 x.n],.slice A ss.length c,.int .i64 m] w fun e w'=>e=.returned (.bool (condF x ss m))∧Upd Non w w':=by
 obtain ⟨k,a,b,n⟩:=x;dsimp only;obtain ⟨W1,HW1⟩:=nm (w.alloc (.cells #[.int .i64 k,.int .i64 a,.int .i64 b,.int .i64 n] 102));obtain ⟨W2,HW2⟩:=nm (W1.alloc (.cells #[.slice A ss.length c] 22));obtain ⟨W3,HW3⟩:=nm (W2.alloc (.cells #[.int .i64 m] 3));have u1:Upd Non w W1:=by rw [←HW1.out];exact Upd.refl.alloc _
 have u2:Upd Non W1 W2:=by rw [←HW2.out];exact Upd.refl.alloc _
 have u3:Upd Non W2 W3:=by rw [←HW3.out];exact Upd.refl.alloc _
 have s1:W1.heap.size=w.heap.size+1:=by rw [←HW1.out];simp
 have s2:W2.heap.size=w.heap.size+2:=by rw [←HW2.out];simp [s1]
 have b1:Blk W1 w.heap.size 102 #[.int .i64 k,.int .i64 a,.int .i64 b,.int .i64 n]:=by rw [←HW1.out];exact Blk.new _ _ _
 have b2:Blk W2 (w.heap.size+1) 22 #[.slice A ss.length c]:=by rw [←HW2.out,←s1];exact Blk.new _ _ _
 have b3:Blk W3 (w.heap.size+2) 3 #[.int .i64 m]:=by rw [←HW3.out,←s2];exact Blk.new _ _ _
 have b2:=b2.upd u3 (fun f=>f);have b1:=(b1.upd u2 (fun f=>f)).upd u3 (fun f=>f);have e1:=HW1.out;have e2:=HW2.out;have e3:=HW3.out;have U:Upd Non w W3:=(u1.then_non u2).then_non u3;have hs:=hs.upd U (fun _ _ _ f=>f);have CV:=h_ (fun n=>rlVC1_c n (w.heap.size+1) ss A c F W3 (b2.cell 0) hs);have CM:=h_ (fun n=>rlVC2_c n m (w.heap.size+2) W3 (b3.cell 0));have c0:=b1.cell 0;have c1:=b1.cell 1;have c2:=b1.cell 2;have c3:=b1.cell 3;have hmf:∀(fn:Fn) (first cap:Array Value) (w:World),(Instr.makeFunc fn first cap).run Tryz.prog w=.ok (.func fn first cap) w:=fun _ _ _ _=>rfl
 obtain ⟨l,Hl⟩:=nm ss.length;rw [Hl.out] at e2;rw [Hl.out];obtain ⟨R,HR⟩:=nm (condF ⟨k,a,b,n⟩ ss m);rw [HR.out];have HR1:Hid (R=condF ⟨k,a,b,n⟩ ss m):=HR.out.symm;unfold condF at HR1;dsimp only at HR1;obtain ⟨va,Hva⟩:=nm (isValF ss a);obtain ⟨vb,Hvb⟩:=nm (isValF ss b);obtain ⟨ia,Hia⟩:=nm (isImmF m a);obtain ⟨ib,Hib⟩:=nm (isImmF m b);have CVa:=h_ (CV.out a);have CVb:=h_ (CV.out b);have CMa:=h_ (CM.out a);have CMb:=h_ (CM.out b);rw [Hva.out] at HR1 CVa;rw [Hvb.out] at HR1 CVb;rw [Hia.out] at HR1 CMa;rw [Hib.out] at HR1 CMb;clear CV CM b1 b2 b3 hs HR u1 u2 u3;obtain ⟨tb,ftb⟩:∃t,(b==0)=t:=⟨_,rfl⟩;obtain ⟨tn,ftn⟩:∃t,(n==0)=t:=⟨_,rfl⟩;obtain ⟨tab,ftab⟩:∃t,(a != b)=t:=⟨_,rfl⟩;have gtb:decide (b=0)=tb:=by rw [←ftb,Bool.eq_iff_iff];simp
 have gtn:decide (n=0)=tn:=by rw [←ftn,Bool.eq_iff_iff];simp
 have gtab:decide (a≠b)=tab:=by rw [←ftab,Bool.eq_iff_iff];simp
 rw [gtb,gtn,gtab] at HR1;clear gtb gtn gtab;by_cases h1:k=1
 ·subst h1;have HE0:Hid (R=(va&&tb&&tn)):=HR1.out;go_enter Tryz.func109,Tryz.ntmps109;go_wp2_with fail
  refine CVa.out.mono ?_;rintro e w5 ⟨rfl,rfl⟩
  cases va with
  | false =>
   have HE:Hid (R=false):=HE0.out;go_wp2_with fail
   go_ret;exact ⟨by rw [HE.out];rfl,U⟩
  | true =>
   cases tb with
   | false =>
    have HE:Hid (R=false):=HE0.out;go_wp2_with fail
    go_ret;exact ⟨by rw [HE.out];rfl,U⟩
   | true =>
    have HE:Hid (R=tn):=HE0.out;go_wp2_with fail
    go_ret;exact ⟨by rw [HE.out];rfl,U⟩
 ·by_cases h2:k=2∨k=3
  ·have HE0:Hid (R=(va&&tb)):=by have:=HR1.out;rw [if_neg h1,if_pos h2] at this;exact this
   rcases h2 with rfl | rfl
   ·go_enter Tryz.func109,Tryz.ntmps109;go_wp2_with fail
    refine CVa.out.mono ?_;rintro e w5 ⟨rfl,rfl⟩
    cases va with
    | false =>
     have HE:Hid (R=false):=HE0.out;go_wp2_with fail
     go_ret;exact ⟨by rw [HE.out];rfl,U⟩
    | true =>
     have HE:Hid (R=tb):=HE0.out;go_wp2_with fail
     go_ret;exact ⟨by rw [HE.out];rfl,U⟩
   ·go_enter Tryz.func109,Tryz.ntmps109;go_wp2_with fail
    refine CVa.out.mono ?_;rintro e w5 ⟨rfl,rfl⟩
    cases va with
    | false =>
     have HE:Hid (R=false):=HE0.out;go_wp2_with fail
     go_ret;exact ⟨by rw [HE.out];rfl,U⟩
    | true =>
     have HE:Hid (R=tb):=HE0.out;go_wp2_with fail
     go_ret;exact ⟨by rw [HE.out];rfl,U⟩
  ·have HR2:=HR1.out;rw [if_neg h1,if_neg h2] at HR2;have t1:(k==1)=false:=by simpa using h1
   have t2:(k==2)=false:=by simp;omega
   have t3:(k==3)=false:=by simp;omega
   have HR1:=h_ HR2;clear HR2 h1 h2;by_cases h4:k=4
   ·subst h4;have HE0:Hid (R=(va&&vb&&tab&&tn)):=HR1.out;go_enter Tryz.func109,Tryz.ntmps109;go_wp2_with fail
    refine CVa.out.mono ?_;rintro e w5 ⟨rfl,rfl⟩
    cases va with
    | false =>
     have HE:Hid (R=false):=HE0.out;go_wp2_with fail
     go_ret;exact ⟨by rw [HE.out];rfl,U⟩
    | true =>
     go_wp2_with fail
     refine CVb.out.mono ?_;rintro e w5 ⟨rfl,rfl⟩
     cases vb with
     | false =>
      have HE:Hid (R=false):=HE0.out;go_wp2_with fail
      go_ret;exact ⟨by rw [HE.out];rfl,U⟩
     | true =>
      cases tab with
      | false =>
       have HE:Hid (R=false):=HE0.out;go_wp2_with fail
       go_ret;exact ⟨by rw [HE.out];rfl,U⟩
      | true =>
       have HE:Hid (R=tn):=HE0.out;go_wp2_with fail
       go_ret;exact ⟨by rw [HE.out];rfl,U⟩
   ·have HR2:=HR1.out;rw [if_neg h4] at HR2;have t4:(k==4)=false:=by simpa using h4
    have HR1:=h_ HR2;clear HR2 h4;by_cases h5:k=5
    ·subst h5;have HE0:Hid (R=(va&&ib&&tn)):=HR1.out;go_enter Tryz.func109,Tryz.ntmps109;go_wp2_with fail
     refine CVa.out.mono ?_;rintro e w5 ⟨rfl,rfl⟩
     cases va with
     | false =>
      have HE:Hid (R=false):=HE0.out;go_wp2_with fail
      go_ret;exact ⟨by rw [HE.out];rfl,U⟩
     | true =>
      go_wp2_with fail
      refine CMb.out.mono ?_;rintro e w5 ⟨rfl,rfl⟩
      cases ib with
      | false =>
       have HE:Hid (R=false):=HE0.out;go_wp2_with fail
       go_ret;exact ⟨by rw [HE.out];rfl,U⟩
      | true =>
       have HE:Hid (R=tn):=HE0.out;go_wp2_with fail
       go_ret;exact ⟨by rw [HE.out];rfl,U⟩
    ·have HR2:=HR1.out;rw [if_neg h5] at HR2;have t5:(k==5)=false:=by simpa using h5
     have HR1:=h_ HR2;clear HR2 h5;by_cases h6:k=6
     ·subst h6;have HE0:Hid (R=(ia&&ib&&tab&&tn)):=HR1.out;go_enter Tryz.func109,Tryz.ntmps109;go_wp2_with fail
      refine CMa.out.mono ?_;rintro e w5 ⟨rfl,rfl⟩
      cases ia with
      | false =>
       have HE:Hid (R=false):=HE0.out;go_wp2_with fail
       go_ret;exact ⟨by rw [HE.out];rfl,U⟩
      | true =>
       go_wp2_with fail
       refine CMb.out.mono ?_;rintro e w5 ⟨rfl,rfl⟩
       cases ib with
       | false =>
        have HE:Hid (R=false):=HE0.out;go_wp2_with fail
        go_ret;exact ⟨by rw [HE.out];rfl,U⟩
       | true =>
        cases tab with
        | false =>
         have HE:Hid (R=false):=HE0.out;go_wp2_with fail
         go_ret;exact ⟨by rw [HE.out];rfl,U⟩
        | true =>
         have HE:Hid (R=tn):=HE0.out;go_wp2_with fail
         go_ret;exact ⟨by rw [HE.out];rfl,U⟩
     ·have HR2:=HR1.out;rw [if_neg h6] at HR2;have t6:(k==6)=false:=by simpa using h6
      have HE:=h_ HR2;clear HR2 h6;go_enter Tryz.func109,Tryz.ntmps109;go_wp2_with fail
      go_ret;exact ⟨by rw [HE.out];rfl,U⟩
theorem rl_cells {w:World} {b:Nat} {t:TypeId} {r:Rl} {a:RlA} (h:Blk w b t (rlCells r a)) :
  w.cell? ⟨b,0,none⟩=some (.string r.name)∧w.cell? ⟨b,1,none⟩=some (.int .i64 r.l.v)∧w.cell? ⟨b,2,none⟩=some (.int .i64 r.l.op)∧w.cell? ⟨b,3,none⟩=some (.int .i64 r.l.imm)∧w.cell? ⟨b,4,none⟩=some (.int .i64 r.l.iv)∧w.cell? ⟨b,5,none⟩=some (.slice a.la r.l.kids.length a.lc) ∧
  w.cell? ⟨b,6,none⟩=some (.int .i64 r.r.v)∧w.cell? ⟨b,7,none⟩=some (.int .i64 r.r.op)∧w.cell? ⟨b,8,none⟩=some (.int .i64 r.r.imm)∧w.cell? ⟨b,9,none⟩=some (.int .i64 r.r.iv)∧w.cell? ⟨b,10,none⟩=some (.slice a.ra r.r.kids.length a.rc) ∧
  w.cell? ⟨b,11,none⟩=some (.slice a.ca r.conds.length a.cc)∧w.cell? ⟨b,12,none⟩=some (.int .i64 r.vars)∧w.cell? ⟨b,13,none⟩=some (.int .i64 r.imms):=by
 refine ⟨?_,?_,?_,?_,?_,?_,?_,?_,?_,?_,?_,?_,?_,?_⟩ <;> (rw [h.cell];rfl)
theorem VBlk.ints {w:World} {g:Nat} {vs:List Int} (h:VBlk w g vs):Ints w (fun _=>True) (some ⟨g,0,none⟩) vs:=by
 have:=Sl.of_blk (F:=fun _=>True) trivial h vs.length;unfold Ints
 have e:(icells vs).toArray.toList.take vs.length=icells vs:=by
  rw [List.take_of_length_le (by simp [icells])]
 rw [e] at this;exact this
structure RlSz (x:Rl):Prop where
 l:x.l.size≤1000000000000
 r:x.r.size≤1000000000000
 c:x.conds.length≤1000000000000
 n:x.name.size≤1000000000000000
theorem VBlk.new (w:World) (n:Nat):VBlk (w.alloc (.cells (Array.replicate n (.int .i64 0)) 3)) w.heap.size (List.replicate n 0):=by
 unfold VBlk;rw [show (icells (List.replicate n 0)).toArray=Array.replicate n (.int .i64 0) by simp [icells]];exact Blk.new _ _ _
set_option maxRecDepth 100000 in
set_option maxHeartbeats 4000000 in
theorem rlValid_c (r:Rl) (a:RlA) (F:Nat→Prop) (w:World) (hk:RlK w F r a) (hz:RlSz r) :
  Calls Tryz.prog 53 #[rlv r a] w fun e w'=>e=.returned (.bool (implF r))∧Upd Non w w':=by
 obtain ⟨W,HW⟩:=nm (w.alloc (.cells (rlCells r a) 41));have hU:Upd Non w W:=by rw [←HW.out];exact Upd.refl.alloc _
 have hb:Blk W w.heap.size 41 (rlCells r a):=by rw [←HW.out];exact Blk.new _ _ _
 have hsz:W.heap.size=w.heap.size+1:=by rw [←HW.out];simp
 have e0:=HW.out;have hK:=(hk.mono (G:=fun k=>k<w.heap.size) (fun _ h _=>h)).upd hU (fun _ _ _ f=>f);have HC:=h_ (fun (w':World) (u:Upd Non W w')=>rl_cells (hb.upd u (fun f=>f)));obtain ⟨c0,c1,c2,c3,c4,c5,c6,c7,c8,c9,c10,c11,c12,c13⟩:=HC.out W Upd.refl;have CL:=h_ (ptValid_c r.l W _ a.la a.lc r.vars r.imms hK.l hz.l);have CR:=h_ (fun (w':World) (u:Upd Non W w')=>ptValid_c r.r w' _ a.ra a.rc r.vars r.imms (PtK.upd u (fun _ _ _ f=>f) _ _ _ hK.r) hz.r);have CN:=h_ (fun w'=>rlValidName_c r.name w' hz.n);have HZ:=h_ hz;have HK:=h_ hK;unfold pv at CL CR;unfold rlv;unfold rlCells at e0 ⊢;obtain ⟨R,HR⟩:=nm (implF r);rw [HR.out];have HR1:Hid (R=(decide (r.l.v=0)&&validF r.l r.vars r.imms&&validF r.r r.vars r.imms&&nameF r.name&&decide (r.conds.length≤6)&&implG r)):=HR.out.symm
 have HVL:Hid (∀b,validF r.l r.vars r.imms=b→validF r.l r.vars r.imms=b):=fun _ h=>h
 obtain ⟨vl,Hvl⟩:=nm (validF r.l r.vars r.imms);obtain ⟨vr,Hvr⟩:=nm (validF r.r r.vars r.imms);obtain ⟨vn,Hvn⟩:=nm (nameF r.name);rw [Hvl.out] at CL HR1;rw [Hvr.out] at CR HR1;rw [Hvn.out] at CN HR1;clear hk hz hK HR HVL hb;by_cases hv:r.l.v=0
 ·have t1:(r.l.v != 0)=false:=by simp [hv]
  have HR2:Hid (R=(vl&&vr&&vn&&decide (r.conds.length≤6)&&implG r)):=by show _=_;rw [HR1.out,dT_ hv];simp
  have HLV:=h_ hv;clear hv HR1;go_enter Tryz.func53,Tryz.ntmps53;go_wp2_with fail
  refine CL.out.mono ?_;rintro e w1 ⟨rfl,u1⟩;have HU:=hU.then_non u1;obtain ⟨c0,c1,c2,c3,c4,c5,c6,c7,c8,c9,c10,c11,c12,c13⟩:=HC.out _ u1
  cases vl with
  | false =>
   have HF:Hid (R=false):=HR2.out;go_wp2_with fail
   go_ret;exact ⟨by rw [HF.out];rfl,HU⟩
  | true =>
   go_wp2_with fail
   refine (CR.out _ u1).mono ?_;rintro e w2 ⟨rfl,u2'⟩;have u2:=u1.then_non u2';have HU:=hU.then_non u2;obtain ⟨c0,c1,c2,c3,c4,c5,c6,c7,c8,c9,c10,c11,c12,c13⟩:=HC.out _ u2
   cases vr with
   | false =>
    have HF:Hid (R=false):=HR2.out;go_wp2_with fail
    go_ret;exact ⟨by rw [HF.out];rfl,HU⟩
   | true =>
    go_wp2_with fail
    refine (CN.out _).mono ?_;rintro e w3 ⟨rfl,q3,rfl⟩;have u3:Upd Non W (w2.drewN q3):=u2.drewN _;have HU:=hU.then_non u3;obtain ⟨w3,Hw3⟩:=nm (w2.drewN q3);rw [Hw3.out] at u3 HU ⊢;obtain ⟨c0,c1,c2,c3,c4,c5,c6,c7,c8,c9,c10,c11,c12,c13⟩:=HC.out _ u3
    cases vn with
    | false =>
     have HF:Hid (R=false):=HR2.out;go_wp2_with fail
     go_ret;exact ⟨by rw [HF.out];rfl,HU⟩
    | true =>
     by_cases h6:r.conds.length≤6
     ·have t2:decide ((6:Int)<(r.conds.length:Int))=false:=dF_ (by omega);have HR3:Hid (R=implG r):=by show _=_;rw [HR2.out,dT_ h6];rfl
      have H6:=h_ h6;clear h6 HR2 CL CR CN
      obtain ⟨hvl,hshl⟩:(0≤r.vars∧r.vars≤6∧0≤r.imms∧r.imms≤6)∧shp r.l 0 r.imms r.vars.toNat=true:=by
       have h:=Hvl.out;unfold validF at h;simp only [Bool.and_eq_true,decide_eq_true_eq] at h;obtain ⟨v1,a1,_⟩:=vPt_fst.1 h.2;rw [List.length_replicate] at a1;exact ⟨by omega,a1⟩
      have hshr:shp r.r 0 r.imms r.vars.toNat=true:=by
       have h:=Hvr.out;unfold validF at h;simp only [Bool.and_eq_true,decide_eq_true_eq] at h;obtain ⟨v1,a1,_⟩:=vPt_fst.1 h.2;rw [List.length_replicate] at a1;exact a1
      have HSL:=h_ hshl;have HSR:=h_ hshr;obtain ⟨n,Hn⟩:∃n:Nat,Hid (r.vars=(n:Int)):=Int.eq_ofNat_of_zero_le hvl.1;obtain ⟨m,Hm⟩:∃m:Nat,Hid (r.imms=(m:Int)):=Int.eq_ofNat_of_zero_le hvl.2.2.1;have hn6:n≤6:=by have:=Hn.out;omega
      have hm6:m≤6:=by have:=Hm.out;omega
      obtain ⟨N,HN⟩:=nm (n+1);obtain ⟨M,HM⟩:=nm (m+1);have hN7:N≤7:=by rw [←HN.out];omega
      have hM7:M≤7:=by rw [←HM.out];omega
      have hwN:IntKind.i64.wrap ((n:Int)+1)=(N:Int):=by rw [i64w_of (by unfold I64;omega),←HN.out];omega
      have hwM:IntKind.i64.wrap ((m:Int)+1)=(M:Int):=by rw [i64w_of (by unfold I64;omega),←HM.out];omega
      have mkN:=run_mk T_ints' zero_int_ rfl N (by omega) (by omega);have mkM:=run_mk T_ints' zero_int_ rfl M (by omega) (by omega);rw [Hn.out] at c12;rw [Hm.out] at c13;clear hvl hshl hshr
      go_upto_region 3 with fail
      go_cut [3,4] (fun v i wx=>∃gv gi:Nat,v=.slice (some ⟨gv,0,none⟩) N N∧i=.slice (some ⟨gi,0,none⟩) M M∧VBlk wx gv (List.replicate N 0)∧VBlk wx gi (List.replicate M 0)∧gv≠gi∧W.heap.size≤gv∧W.heap.size≤gi∧Upd Non W wx)
      case first =>
       obtain ⟨wD,HwD⟩:=nm w3.drew;have uD:Upd Non w3 wD:=by rw [←HwD.out];exact Upd.refl.drew
       have vD:=u3.then_non uD;have hsD:=vD.size;refine wp_region_held_drew (S:=fun w'=>w'.cell? ⟨w.heap.size,12,none⟩=some (.int .i64 n)∧w'.cell? ⟨w.heap.size,13,none⟩=some (.int .i64 m)) (by kernel_rfl) (by rw [HwD.out];exact ⟨u_ c12 uD (fun f=>f),u_ c13 uD (fun f=>f)⟩) (fun hHeld=>?_)
       rw [HwD.out] at hHeld ⊢;refine wpT 0 ?_;(try simp only [y_,z_]);refine wpT 1 ?_;(try simp only [y_,z_]);refine wpT 2 ?_;(try simp only [y_,z_]);refine wpT 4 ?_;(try simp only [y_,z_]);refine wpT 5 ?_;(try simp only [y_,z_]);refine wpT 6 ?_;(try simp only [y_,z_]);refine aR_ (rs:=[3,7]) (by kernel_rfl) (by simp) ?_;refine aC_ rfl (fun K hK=>?_) (aC_ rfl (fun K hK=>?_) aN_)
       ·go_simp;have uA:Upd Non wD (wD.alloc (.cells (Array.replicate N (.int .i64 0)) 3)):=Upd.refl.alloc _;refine hK.out _ _ ?_ (fun hHeld=>?_)
        ·exact ⟨u_ c12 (uD.then_non uA) (fun f=>f),u_ c13 (uD.then_non uA) (fun f=>f)⟩
        clear hK K;(try simp only [y_,z_]);have hA:=VBlk.new wD N;have hAs:(wD.alloc (.cells (Array.replicate N (.int .i64 0)) 3)).heap.size=wD.heap.size+1:=by simp
        obtain ⟨wA,HwA⟩:=nm (wD.alloc (.cells (Array.replicate N (.int .i64 0)) 3));rw [HwA.out] at uA hA hAs hHeld ⊢;refine wpT 8 ?_;(try simp only [y_,z_]);refine aR_ (rs:=[7]) (by kernel_rfl) (by simp) ?_;refine aC_ rfl (fun K hK=>?_) aN_;go_simp;have uB:Upd Non wA (wA.alloc (.cells (Array.replicate M (.int .i64 0)) 3)):=Upd.refl.alloc _;have uC:=(uD.then_non uA).then_non uB;refine hK.out _ _ ?_ (fun hHeld=>?_)
        ·exact ⟨u_ c12 uC (fun f=>f),u_ c13 uC (fun f=>f)⟩
        clear hK K;(try simp only [y_,z_]);refine wpT 9 ?_;(try simp only [y_,z_]);refine aD_ (by kernel_rfl) ?_ _;go_wp2_with fail
        go_meet
        case rel=>exact ⟨wD.heap.size,wD.heap.size+1,rfl,rfl,Blk.upd hA uB (fun f=>f),by rw [←hAs];exact VBlk.new wA M,by omega,by omega,by omega,u3.then_non uC⟩
       ·go_simp;have uA:Upd Non wD (wD.alloc (.cells (Array.replicate M (.int .i64 0)) 3)):=Upd.refl.alloc _;refine hK.out _ _ ?_ (fun hHeld=>?_)
        ·exact ⟨u_ c12 (uD.then_non uA) (fun f=>f),u_ c13 (uD.then_non uA) (fun f=>f)⟩
        clear hK K;(try simp only [y_,z_]);have hA:=VBlk.new wD M;have hAs:(wD.alloc (.cells (Array.replicate M (.int .i64 0)) 3)).heap.size=wD.heap.size+1:=by simp
        obtain ⟨wA,HwA⟩:=nm (wD.alloc (.cells (Array.replicate M (.int .i64 0)) 3));rw [HwA.out] at uA hA hAs hHeld ⊢;refine aR_ (rs:=[3]) (by kernel_rfl) (by simp) ?_;refine aC_ rfl (fun K hK=>?_) aN_;go_simp;have uB:Upd Non wA (wA.alloc (.cells (Array.replicate N (.int .i64 0)) 3)):=Upd.refl.alloc _;have uC:=(uD.then_non uA).then_non uB;refine hK.out _ _ ?_ (fun hHeld=>?_)
        ·exact ⟨u_ c12 uC (fun f=>f),u_ c13 uC (fun f=>f)⟩
        clear hK K;(try simp only [y_,z_]);refine wpT 8 ?_;(try simp only [y_,z_]);refine wpT 9 ?_;(try simp only [y_,z_]);refine aD_ (by kernel_rfl) ?_ _;go_wp2_with fail
        go_meet
        case rel=>exact ⟨wD.heap.size+1,wD.heap.size,rfl,rfl,by rw [←hAs];exact VBlk.new wA N,Blk.upd hA uB (fun f=>f),by omega,by omega,by omega,u3.then_non uC⟩
      case rest =>
       obtain ⟨gv,gi,rfl,rfl,hgv,hgi,hne,hv1,hi1,u4⟩:=hcut;have hFv:¬(fun k=>k<w.heap.size) gv:=by show ¬gv<w.heap.size;omega
       have hFi:¬(fun k=>k<w.heap.size) gi:=by show ¬gi<w.heap.size;omega
       obtain ⟨c0,c1,c2,c3,c4,c5,c6,c7,c8,c9,c10,c11,c12,c13⟩:=HC.out _ u4;have CS:=h_ (fun op w=>rlSorts_c op w);unfold implG at HR3;rw [show r.vars.toNat+1=N by rw [Hn.out,←HN.out];rfl,show r.imms.toNat+1=M by rw [Hm.out,←HM.out];rfl] at HR3;have HVN:Hid (r.vars.toNat=n):=by show _=_;rw [Hn.out];rfl
       rw [HVN.out] at HSL HSR;rw [Hm.out] at HSL HSR HR3;rw [Hn.out] at c12;rw [Hm.out] at c13;have CCL:=h_ (fun (w':World) (gv' gi':Nat) (own:Int) (u:Upd Non W w') h1 h2 h3 h4 h5=>rlCollect_c r.l w' _ a.la a.lc gv' N gi' M own 0 m n (List.replicate N 0) (List.replicate M 0) (PtK.upd u (fun _ _ _ f=>f) _ _ _ HK.out.l) h1 h2 h3 h4 h5 HSL.out (by rw [List.length_replicate,HN.out]) (by rw [List.length_replicate,HM.out]) (by omega) (by omega))
       rw [List.length_replicate,List.length_replicate] at CCL;obtain ⟨own,Hown⟩:=nm (rsF r.l.op).2;rw [Hown.out] at HR3;obtain ⟨V1,HV1⟩:=nm (colV (occ r.l own) (List.replicate N 0));obtain ⟨I1,HI1⟩:=nm (colI (occI r.l) (List.replicate M 0));rw [HV1.out,HI1.out] at HR3
       have HVL1:Hid (V1.length=n+1∧V1.length=N):=by
        show _∧_;rw [←HV1.out,colV_len,List.length_replicate,HN.out];exact ⟨rfl,rfl⟩
       have HIL1:Hid (I1.length=m+1∧I1.length=M):=by
        show _∧_;rw [←HI1.out,colI_len,List.length_replicate,HM.out];exact ⟨rfl,rfl⟩
       have C1:=h_ (CS.out r.l.op wc);rw [Hown.out] at C1;go_wp2_with fail
       refine C1.out.mono ?_;rintro e w5 ⟨rfl,u5⟩;obtain ⟨x0,Hx0⟩:=nm ((rsF r.l.op).1.getD 0 0);obtain ⟨x1,Hx1⟩:=nm ((rsF r.l.op).1.getD 1 0);obtain ⟨x2,Hx2⟩:=nm ((rsF r.l.op).1.getD 2 0);rw [Hx0.out,Hx1.out,Hx2.out];obtain ⟨W6,HW6⟩:=nm (w5.alloc (.cells #[.int .i64 x0,.int .i64 x1,.int .i64 x2] 162));have e6:=HW6.out;have u6:Upd Non w5 W6:=by rw [←e6];exact Upd.refl.alloc _
       have u56:=u5.then_non u6;have u7:=u4.then_non u56;have hs7:=u4.size;obtain ⟨c0,c1,c2,c3,c4,c5,c6,c7,c8,c9,c10,c11,c12,c13⟩:=HC.out _ u7;have C2:=h_ (CCL.out W6 gv gi own u7 hFv hFi hne (Blk.upd hgv u56 (fun f=>f)) (Blk.upd hgi u56 (fun f=>f)));rw [HV1.out,HI1.out] at C2;unfold pv at C2;rw [Hn.out] at c12;rw [Hm.out] at c13;clear C1 CCL hgv hgi;go_wp2_with fail
       refine C2.out.mono ?_;rintro e w8 ⟨rfl,hgv,hgi,u8⟩;have HU8:Upd Non W w8:=u7.trans u8 (fun i hi h=>by omega);have u89:=u8;obtain ⟨c0,c1,c2,c3,c4,c5,c6,c7,c8,c9,c10,c11,c12,c13⟩:=HC.out _ HU8;rw [Hn.out] at c12;rw [Hm.out] at c13
       have HB1:Hid (((V1.drop 1).all fun x=>decide (x≠0))=true↔∀i:Nat,1≤i→i≤n→V1.getD i 0≠0):=by
        show _↔_;rw [all_drop (d:=0) HVL1.out.1];simp only [decide_eq_true_eq]
       have HB2:Hid (((I1.drop 1).all fun x=>decide (x≠0))=true↔∀i:Nat,1≤i→i≤m→I1.getD i 0≠0):=by
        show _↔_;rw [all_drop (d:=0) HIL1.out.1];simp only [decide_eq_true_eq]
       obtain ⟨b1,Hb1⟩:=nm ((V1.drop 1).all fun x=>decide (x≠0));obtain ⟨b2,Hb2⟩:=nm ((I1.drop 1).all fun x=>decide (x≠0));rw [Hb1.out] at HB1 HR3;rw [Hb2.out] at HB2 HR3;have hNn:N=n+1:=HN.out.symm;have hMm:M=m+1:=HM.out.symm;have HNn:=h_ hNn;have HMm:=h_ hMm;have HU:=hU.then_non HU8;clear C2 hNn hMm mkN mkM u8 u5 u6 u56;go_wp2_with fail
       go_loopg [7] n (fun g i wr=>∃k:Nat,Hid (g=n+1 - k)∧1≤k∧k≤n+1∧i=.int .i64 k∧Hid (∀j:Nat,1≤j→j<k→V1.getD j 0≠0)∧w8=wr)
       case atStart=>exact ⟨1,by show _=_;omega,by omega,by omega,rfl,fun j h1 h2=>by omega,rfl⟩
       case round =>
        obtain ⟨k,Hg,hk1,hk2,rfl,HA,rfl⟩:=hrel;by_cases hlt:k≤n
        ·have t3:decide (k≤n)=true:=dT_ (by omega);have hkN:(k:Int)<(N:Int):=by have:=HNn.out;omega
         have hk0:(0:Int)≤(k:Int):=by omega
         have x1:=VBlk.cell hgv (i:=k) (by rw [HVL1.out.1];omega);obtain ⟨z,Hz⟩:=nm (V1.getD k 0);rw [Hz.out] at x1;by_cases h0:z=0
         ·subst h0
          have hb:b1=false:=by
           rw [Bool.eq_false_iff];intro q;exact HB1.out.1 q k hk1 hlt Hz.out
          have HF:Hid (R=false):=by show _=_;rw [HR3.out,hb];rfl
          clear hb;go_wp2_with fail
          go_ret;exact ⟨by rw [HF.out];rfl,HU⟩
         ·have t4:(z==0)=false:=by simpa using h0
          have HA2:Hid (∀j:Nat,1≤j→j<k+1→V1.getD j 0≠0):=by
           intro j j1 j2;by_cases e:j=k
           ·rw [e,Hz.out];exact h0
           ·exact HA.out j j1 (by omega)
          clear h0;go_wp2_with fail
          go_roundg (n+1 - (k+1))
          case measure=>rw [Hg.out];omega
          case rel=>exact ⟨k+1,rfl,by omega,by omega,by go_num,HA2,rfl⟩
        ·have t3:decide (k≤n)=false:=dF_ (by omega);have hb1:b1=true:=HB1.out.2 (fun i i1 i2=>HA.out i i1 (by omega));subst hb1;have HR4:Hid (R=(b2&&(decide (r.r.v≠0) || decide ((rsF r.r.op).2=own))&&((colV (occ r.r own) V1).drop 1).all (fun x=>decide (x≠3))&&r.conds.all fun c=>condF c (colV (occ r.r own) V1) (m:Int))):=by show _=_;rw [HR3.out];simp
         clear HA Hg hk1 hk2 hlt HR3;go_wp2_with fail
         go_loopg [8] m (fun g i wr=>∃k:Nat,Hid (g=m+1 - k)∧1≤k∧k≤m+1∧i=.int .i64 k∧Hid (∀j:Nat,1≤j→j<k→I1.getD j 0≠0)∧w8=wr)
         case atStart=>exact ⟨1,by show _=_;omega,by omega,by omega,rfl,fun j h1 h2=>by omega,rfl⟩
         case round =>
          obtain ⟨k,Hg,hk1,hk2,rfl,HA,rfl⟩:=hrel;by_cases hlt:k≤m
          ·have t3:decide (k≤m)=true:=dT_ (by omega);have hkN:(k:Int)<(M:Int):=by have:=HMm.out;omega
           have hk0:(0:Int)≤(k:Int):=by omega
           have x1:=VBlk.cell hgi (i:=k) (by rw [HIL1.out.1];omega);obtain ⟨z,Hz⟩:=nm (I1.getD k 0);rw [Hz.out] at x1;by_cases h0:z=0
           ·subst h0
            have hb:b2=false:=by
             rw [Bool.eq_false_iff];intro q;exact HB2.out.1 q k hk1 hlt Hz.out
            have HF:Hid (R=false):=by show _=_;rw [HR4.out,hb];rfl
            clear hb;go_wp2_with fail
            go_ret;exact ⟨by rw [HF.out];rfl,HU⟩
           ·have t4:(z==0)=false:=by simpa using h0
            have HA2:Hid (∀j:Nat,1≤j→j<k+1→I1.getD j 0≠0):=by
             intro j j1 j2;by_cases e:j=k
             ·rw [e,Hz.out];exact h0
             ·exact HA.out j j1 (by omega)
            clear h0;go_wp2_with fail
            go_roundg (m+1 - (k+1))
            case measure=>rw [Hg.out];omega
            case rel=>exact ⟨k+1,rfl,by omega,by omega,by go_num,HA2,rfl⟩
          ·have t3:decide (k≤m)=false:=dF_ (by omega);have hb2:b2=true:=HB2.out.2 (fun i i1 i2=>HA.out i i1 (by omega));subst hb2;have HR5:Hid (R=((decide (r.r.v≠0) || decide ((rsF r.r.op).2=own))&&((colV (occ r.r own) V1).drop 1).all (fun x=>decide (x≠3))&&r.conds.all fun c=>condF c (colV (occ r.r own) V1) (m:Int))):=by show _=_;rw [HR4.out];simp
           clear HA Hg hk1 hk2 hlt HR4;have C1:=h_ (CS.out r.r.op w8);obtain ⟨sR,HsR⟩:=nm (rsF r.r.op).2;rw [HsR.out] at C1 HR5;go_wp2_with fail
           refine C1.out.mono ?_;rintro e w9 ⟨rfl,u9⟩;obtain ⟨y0,Hy0⟩:=nm ((rsF r.r.op).1.getD 0 0);obtain ⟨y1,Hy1⟩:=nm ((rsF r.r.op).1.getD 1 0);obtain ⟨y2,Hy2⟩:=nm ((rsF r.r.op).1.getD 2 0);rw [Hy0.out,Hy1.out,Hy2.out];obtain ⟨WA,HWA⟩:=nm (w9.alloc (.cells #[.int .i64 y0,.int .i64 y1,.int .i64 y2] 162));have eA:=HWA.out;have uA:Upd Non w9 WA:=by rw [←eA];exact Upd.refl.alloc _
           have u9A:=u9.then_non uA;have HUA:=HU8.then_non u9A;have hgvA:VBlk WA gv V1:=Blk.upd hgv u9A (fun f=>f);have hgiA:VBlk WA gi I1:=Blk.upd hgi u9A (fun f=>f);obtain ⟨c0,c1,c2,c3,c4,c5,c6,c7,c8,c9,c10,c11,c12,c13⟩:=HC.out _ HUA;rw [Hn.out] at c12;rw [Hm.out] at c13;have HU:=hU.then_non HUA;have C2:=h_ (rlCollect_c r.r WA _ a.ra a.rc gv N gi M own 0 m n V1 I1 (PtK.upd HUA (fun _ _ _ f=>f) _ _ _ HK.out.r) hFv hFi hne hgvA hgiA HSR.out HVL1.out.1 HIL1.out.1 (by omega) (by omega))
           rw [HVL1.out.2,HIL1.out.2] at C2
           have HVL2:Hid ((colV (occ r.r own) V1).length=n+1∧(colV (occ r.r own) V1).length=N):=by
            show _∧_;rw [colV_len];exact HVL1.out
           obtain ⟨V2,HV2⟩:=nm (colV (occ r.r own) V1);rw [HV2.out] at C2 HR5 HVL2;unfold pv at C2;clear C1 hgv hgi hgvA hgiA c0 c1 c2 c3 c4 c5;by_cases hv:r.r.v=0
           ·have t5:(r.r.v==0)=true:=by simp [hv]
            by_cases hs:sR=own
            ·have t6:(sR != own)=false:=by simp [hs]
             have HR6:Hid (R=(((V2.drop 1).all fun x=>decide (x≠3))&&r.conds.all fun c=>condF c V2 (m:Int))):=by show _=_;rw [HR5.out,dT_ hs];simp
             clear hv hs HR5;go_wp2_with fail
             refine C2.out.mono ?_;rintro e w10 ⟨rfl,hgv,hgi,u10⟩;have hsA:=HU8.size;have HUB:Upd Non W w10:=HUA.trans u10 (fun i hi h=>by omega);have HU:=hU.then_non HUB;obtain ⟨c0,c1,c2,c3,c4,c5,c6,c7,c8,c9,c10,c11,c12,c13⟩:=HC.out _ HUB;rw [Hn.out] at c12;rw [Hm.out] at c13
             have HB4:Hid (((V2.drop 1).all fun x=>decide (x≠3))=true↔∀i:Nat,1≤i→i≤n→V2.getD i 0≠3):=by
              show _↔_;rw [all_drop (d:=0) HVL2.out.1];simp only [decide_eq_true_eq]
             obtain ⟨b4,Hb4⟩:=nm ((V2.drop 1).all fun x=>decide (x≠3));rw [Hb4.out] at HB4 HR6;clear C2 hgi u10 HUA;go_wp2_with fail
             go_loopg [11] n (fun g i wr=>∃k:Nat,Hid (g=n+1 - k)∧1≤k∧k≤n+1∧i=.int .i64 k∧Hid (∀j:Nat,1≤j→j<k→V2.getD j 0≠3)∧w10=wr)
             case atStart=>exact ⟨1,by show _=_;omega,by omega,by omega,rfl,fun j h1 h2=>by omega,rfl⟩
             case round =>
              obtain ⟨k,Hg,hk1,hk2,rfl,HA,rfl⟩:=hrel;by_cases hlt:k≤n
              ·have t3:decide (k≤n)=true:=dT_ (by omega);have hkN:(k:Int)<(N:Int):=by have:=HNn.out;omega
               have hk0:(0:Int)≤(k:Int):=by omega
               have x1:=VBlk.cell hgv (i:=k) (by rw [HVL2.out.1];omega);obtain ⟨z,Hz⟩:=nm (V2.getD k 0);rw [Hz.out] at x1;by_cases h0:z=3
               ·subst h0
                have hb:b4=false:=by
                 rw [Bool.eq_false_iff];intro q;exact HB4.out.1 q k hk1 hlt Hz.out
                have HF:Hid (R=false):=by show _=_;rw [HR6.out,hb];rfl
                clear hb;go_wp2_with fail
                go_ret;exact ⟨by rw [HF.out];rfl,HU⟩
               ·have t4:(z==3)=false:=by simpa using h0
                have HA2:Hid (∀j:Nat,1≤j→j<k+1→V2.getD j 0≠3):=by
                 intro j j1 j2;by_cases e:j=k
                 ·rw [e,Hz.out];exact h0
                 ·exact HA.out j j1 (by omega)
                clear h0;go_wp2_with fail
                go_roundg (n+1 - (k+1))
                case measure=>rw [Hg.out];omega
                case rel=>exact ⟨k+1,rfl,by omega,by omega,by go_num,HA2,rfl⟩
              ·have t3:decide (k≤n)=false:=dF_ (by omega);have hb4:b4=true:=HB4.out.2 (fun i i1 i2=>HA.out i i1 (by omega));subst hb4;have HR7:Hid (R=r.conds.all fun c=>condF c V2 (m:Int)):=by show _=_;rw [HR6.out];simp
               have HI2:=h_ hgv.ints;obtain ⟨cn,Hcn⟩:=nm r.conds.length;have hcn:=H6.out;rw [Hcn.out] at c11 hcn;clear HA Hg hk1 hk2 hlt HR6;go_wp2_with fail
               go_loopg [13,129] cn (fun g _ i wr=>∃q:Nat,Hid (g=cn - q)∧q≤cn∧i=.int .i64 q∧Hid (∀j (h:j<r.conds.length),j<q→condF r.conds[j] V2 (m:Int)=true)∧Upd Non w10 wr)
               case atStart=>exact ⟨0,rfl,by omega,rfl,fun j h1 h2=>by omega,Upd.refl⟩
               case round =>
                obtain ⟨q,Hg,hq,rfl,HA,hu⟩:=hrel;have HUC:=HUB.then_non hu;by_cases hlt:q<cn
                ·have hql:q<r.conds.length:=by rw [Hcn.out];exact hlt
                 have hcv:=HK.out.c.upd HUC (fun _ _ _ f=>f);obtain ⟨cb,co,ecA,hF,hcb,k0,k1,k2,k3⟩:=hcv.at_ hql
                 have hcond:Hid (∀b,condF r.conds[q] V2 (m:Int)=b→(b=false→R=false)∧(b=true→∀j (h:j<r.conds.length),j<q+1→condF r.conds[j] V2 (m:Int)=true)):=by
                  intro b hb;refine ⟨fun h=>?_,fun h j hj1 hj2=>?_⟩
                  ·rw [HR7.out,Bool.eq_false_iff];intro h2;rw [List.all_eq_true] at h2;have:=h2 _ (List.getElem_mem hql);rw [hb,h] at this;cases this
                  ·by_cases e:j=q
                   ·subst e;rw [hb,h]
                   ·exact HA.out j hj1 (by omega)
                 generalize r.conds[q]=x at *;obtain ⟨d0,d1,d2,d3,d4,d5,d6,d7,d8,d9,d10,d11,d12,d13⟩:=HC.out _ HUC;rw [ecA,Hcn.out] at d11;rw [Hm.out] at d13;obtain ⟨WX,HWX⟩:=nm (wr.alloc (.cells #[.int .i64 x.kind,.int .i64 x.a,.int .i64 x.b,.int .i64 x.n] 102));have eX:=HWX.out;have uX:Upd Non wr WX:=by rw [←eX];exact Upd.refl.alloc _
                 have bX:Blk WX wr.heap.size 102 #[.int .i64 x.kind,.int .i64 x.a,.int .i64 x.b,.int .i64 x.n]:=by rw [←eX];exact Blk.new _ _ _
                 have f0:=bX.cell 0;have f1:=bX.cell 1;have f2:=bX.cell 2;have f3:=bX.cell 3;have f13:=u_ d13 uX (fun f=>f);have CC:=h_ (rlValidCond_c x V2 (m:Int) (some ⟨gv,0,none⟩) N _ WX ((HI2.out.upd hu (fun _ _ _ f=>f)).upd uX (fun _ _ _ f=>f)));rw [HVL2.out.2] at CC;obtain ⟨cr,Hcr⟩:=nm (condF x V2 (m:Int));rw [Hcr.out] at CC hcond;have HCD:=h_ (hcond.out cr rfl);simp only [ecA];clear hcv hcond bX;go_wp2_with fail
                 refine CC.out.mono ?_;rintro e w11 ⟨rfl,u11⟩;have HU11:=(hu.then_non uX).then_non u11;have HU:=HU.then_non HU11
                 cases cr with
                 | false =>
                  have HF:Hid (R=false):=HCD.out.1 rfl;go_wp2_with fail
                  go_ret;exact ⟨by rw [HF.out];rfl,HU⟩
                 | true =>
                  have HA2:=h_ (HCD.out.2 rfl);go_wp2_with fail
                  simp only [←ecA]
                  go_roundg (cn - (q+1))
                  case measure=>rw [Hg.out];omega
                  case rel=>exact ⟨q+1,rfl,by omega,by go_num,HA2.out,HU11⟩
                ·obtain rfl:cn=q:=by omega
                 have HF:Hid (R=true):=by
                  show _=_;rw [HR7.out,List.all_eq_true];intro c hc;obtain ⟨j,hj,rfl⟩:=List.mem_iff_getElem.1 hc;exact HA.out j hj (by rw [←Hcn.out];exact hj)
                 have HU:=HU.then_non hu;go_wp2_with fail
                 go_ret;exact ⟨by rw [HF.out];rfl,HU⟩
            ·have t6:(sR != own)=true:=by simp [hs]
             have HF:Hid (R=false):=by show _=_;rw [HR5.out,dF_ hs,dF_ (fun q=>q hv)];rfl
             clear hv hs;go_wp2_with fail
             go_ret;exact ⟨by rw [HF.out];rfl,HU⟩
           ·have t5:(r.r.v==0)=false:=by simp [hv]
            have HR6:Hid (R=(((V2.drop 1).all fun x=>decide (x≠3))&&r.conds.all fun c=>condF c V2 (m:Int))):=by show _=_;rw [HR5.out,dT_ (show r.r.v≠0 from hv)];simp
            clear hv HR5;go_wp2_with fail
            refine C2.out.mono ?_;rintro e w10 ⟨rfl,hgv,hgi,u10⟩;have hsA:=HU8.size;have HUB:Upd Non W w10:=HUA.trans u10 (fun i hi h=>by omega);have HU:=hU.then_non HUB;obtain ⟨c0,c1,c2,c3,c4,c5,c6,c7,c8,c9,c10,c11,c12,c13⟩:=HC.out _ HUB;rw [Hn.out] at c12;rw [Hm.out] at c13
            have HB4:Hid (((V2.drop 1).all fun x=>decide (x≠3))=true↔∀i:Nat,1≤i→i≤n→V2.getD i 0≠3):=by
             show _↔_;rw [all_drop (d:=0) HVL2.out.1];simp only [decide_eq_true_eq]
            obtain ⟨b4,Hb4⟩:=nm ((V2.drop 1).all fun x=>decide (x≠3));rw [Hb4.out] at HB4 HR6;clear C2 hgi u10 HUA;go_wp2_with fail
            go_loopg [11] n (fun g i wr=>∃k:Nat,Hid (g=n+1 - k)∧1≤k∧k≤n+1∧i=.int .i64 k∧Hid (∀j:Nat,1≤j→j<k→V2.getD j 0≠3)∧w10=wr)
            case atStart=>exact ⟨1,by show _=_;omega,by omega,by omega,rfl,fun j h1 h2=>by omega,rfl⟩
            case round =>
             obtain ⟨k,Hg,hk1,hk2,rfl,HA,rfl⟩:=hrel;by_cases hlt:k≤n
             ·have t3:decide (k≤n)=true:=dT_ (by omega);have hkN:(k:Int)<(N:Int):=by have:=HNn.out;omega
              have hk0:(0:Int)≤(k:Int):=by omega
              have x1:=VBlk.cell hgv (i:=k) (by rw [HVL2.out.1];omega);obtain ⟨z,Hz⟩:=nm (V2.getD k 0);rw [Hz.out] at x1;by_cases h0:z=3
              ·subst h0
               have hb:b4=false:=by
                rw [Bool.eq_false_iff];intro q;exact HB4.out.1 q k hk1 hlt Hz.out
               have HF:Hid (R=false):=by show _=_;rw [HR6.out,hb];rfl
               clear hb;go_wp2_with fail
               go_ret;exact ⟨by rw [HF.out];rfl,HU⟩
              ·have t4:(z==3)=false:=by simpa using h0
               have HA2:Hid (∀j:Nat,1≤j→j<k+1→V2.getD j 0≠3):=by
                intro j j1 j2;by_cases e:j=k
                ·rw [e,Hz.out];exact h0
                ·exact HA.out j j1 (by omega)
               clear h0;go_wp2_with fail
               go_roundg (n+1 - (k+1))
               case measure=>rw [Hg.out];omega
               case rel=>exact ⟨k+1,rfl,by omega,by omega,by go_num,HA2,rfl⟩
             ·have t3:decide (k≤n)=false:=dF_ (by omega);have hb4:b4=true:=HB4.out.2 (fun i i1 i2=>HA.out i i1 (by omega));subst hb4;have HR7:Hid (R=r.conds.all fun c=>condF c V2 (m:Int)):=by show _=_;rw [HR6.out];simp
              have HI2:=h_ hgv.ints;obtain ⟨cn,Hcn⟩:=nm r.conds.length;have hcn:=H6.out;rw [Hcn.out] at c11 hcn;clear HA Hg hk1 hk2 hlt HR6;go_wp2_with fail
              go_loopg [13,129] cn (fun g _ i wr=>∃q:Nat,Hid (g=cn - q)∧q≤cn∧i=.int .i64 q∧Hid (∀j (h:j<r.conds.length),j<q→condF r.conds[j] V2 (m:Int)=true)∧Upd Non w10 wr)
              case atStart=>exact ⟨0,rfl,by omega,rfl,fun j h1 h2=>by omega,Upd.refl⟩
              case round =>
               obtain ⟨q,Hg,hq,rfl,HA,hu⟩:=hrel;have HUC:=HUB.then_non hu;by_cases hlt:q<cn
               ·have hql:q<r.conds.length:=by rw [Hcn.out];exact hlt
                have hcv:=HK.out.c.upd HUC (fun _ _ _ f=>f);obtain ⟨cb,co,ecA,hF,hcb,k0,k1,k2,k3⟩:=hcv.at_ hql
                have hcond:Hid (∀b,condF r.conds[q] V2 (m:Int)=b→(b=false→R=false)∧(b=true→∀j (h:j<r.conds.length),j<q+1→condF r.conds[j] V2 (m:Int)=true)):=by
                 intro b hb;refine ⟨fun h=>?_,fun h j hj1 hj2=>?_⟩
                 ·rw [HR7.out,Bool.eq_false_iff];intro h2;rw [List.all_eq_true] at h2;have:=h2 _ (List.getElem_mem hql);rw [hb,h] at this;cases this
                 ·by_cases e:j=q
                  ·subst e;rw [hb,h]
                  ·exact HA.out j hj1 (by omega)
                generalize r.conds[q]=x at *;obtain ⟨d0,d1,d2,d3,d4,d5,d6,d7,d8,d9,d10,d11,d12,d13⟩:=HC.out _ HUC;rw [ecA,Hcn.out] at d11;rw [Hm.out] at d13;obtain ⟨WX,HWX⟩:=nm (wr.alloc (.cells #[.int .i64 x.kind,.int .i64 x.a,.int .i64 x.b,.int .i64 x.n] 102));have eX:=HWX.out;have uX:Upd Non wr WX:=by rw [←eX];exact Upd.refl.alloc _
                have bX:Blk WX wr.heap.size 102 #[.int .i64 x.kind,.int .i64 x.a,.int .i64 x.b,.int .i64 x.n]:=by rw [←eX];exact Blk.new _ _ _
                have f0:=bX.cell 0;have f1:=bX.cell 1;have f2:=bX.cell 2;have f3:=bX.cell 3;have f13:=u_ d13 uX (fun f=>f);have CC:=h_ (rlValidCond_c x V2 (m:Int) (some ⟨gv,0,none⟩) N _ WX ((HI2.out.upd hu (fun _ _ _ f=>f)).upd uX (fun _ _ _ f=>f)));rw [HVL2.out.2] at CC;obtain ⟨cr,Hcr⟩:=nm (condF x V2 (m:Int));rw [Hcr.out] at CC hcond;have HCD:=h_ (hcond.out cr rfl);simp only [ecA];clear hcv hcond bX;go_wp2_with fail
                refine CC.out.mono ?_;rintro e w11 ⟨rfl,u11⟩;have HU11:=(hu.then_non uX).then_non u11;have HU:=HU.then_non HU11
                cases cr with
                | false =>
                 have HF:Hid (R=false):=HCD.out.1 rfl;go_wp2_with fail
                 go_ret;exact ⟨by rw [HF.out];rfl,HU⟩
                | true =>
                 have HA2:=h_ (HCD.out.2 rfl);go_wp2_with fail
                 simp only [←ecA]
                 go_roundg (cn - (q+1))
                 case measure=>rw [Hg.out];omega
                 case rel=>exact ⟨q+1,rfl,by omega,by go_num,HA2.out,HU11⟩
               ·obtain rfl:cn=q:=by omega
                have HF:Hid (R=true):=by
                 show _=_;rw [HR7.out,List.all_eq_true];intro c hc;obtain ⟨j,hj,rfl⟩:=List.mem_iff_getElem.1 hc;exact HA.out j hj (by rw [←Hcn.out];exact hj)
                have HU:=HU.then_non hu;go_wp2_with fail
                go_ret;exact ⟨by rw [HF.out];rfl,HU⟩
     ·have t2:decide ((6:Int)<(r.conds.length:Int))=true:=dT_ (by omega);have HF:Hid (R=false):=by show _=_;rw [HR2.out,dF_ h6];rfl
      clear h6;go_wp2_with fail
      go_ret;exact ⟨by rw [HF.out];rfl,HU⟩
 ·have t1:(r.l.v != 0)=true:=by simp [hv]
  have HF:Hid (R=false):=by show _=_;rw [HR1.out,dF_ hv];rfl
  have HU:=hU;clear hv;go_enter Tryz.func53,Tryz.ntmps53;go_wp2_with fail
  go_ret;exact ⟨by rw [HF.out];rfl,HU⟩
set_option maxRecDepth 100000 in
set_option maxHeartbeats 16000000 in
theorem aBuild_c (r:Rl) (a:RlA) (F:Nat→Prop) (w:World) (hk:RlK w F r a) (hz:RlSz r) :
  Calls Tryz.prog 60 #[rlv r a] w fun e w'=>BldP F r a w e w':=by
 obtain ⟨W,HW⟩:=nm (w.alloc (.cells (rlCells r a) 41));have hU:Upd Non w W:=by rw [←HW.out];exact Upd.refl.alloc _
 obtain ⟨rb,hrb⟩:∃b,w.heap.size=b:=⟨_,rfl⟩;have hb:Blk W rb 41 (rlCells r a):=by rw [←HW.out,←hrb];exact Blk.new _ _ _
 have e0:=HW.out;have hK:=(hk.mono (G:=fun k=>F k∧k<w.heap.size) (fun _ h q=>⟨q,h⟩)).upd hU (fun _ _ _ f=>f);have HC:=h_ (fun (w':World) (u:Upd Non W w')=>rl_cells (hb.upd u (fun f=>f)));have hc0:=HC.out W Upd.refl;obtain ⟨c0,c1,c2,c3,c4,c5,c6,c7,c8,c9,c10,c11,c12,c13⟩:=hc0;have CV:=h_ (rlValid_c r a _ W hK hz);have HZ:=h_ hz;have HK:=h_ hK;have HU:=h_ hU;have HBP:Hid (∀e w',BldP F r a w e w'=BldP F r a w e w'):=fun _ _=>rfl
 clear hk hz hK hb hU;unfold rlv at CV ⊢;unfold rlCells at CV e0 ⊢;by_cases hv:implF r=true
 ·have hi:=imok_of hv;have HV:=h_ hv;rw [hv] at CV;by_cases him:r.imms=0
  ·have CL:=h_ (fun (w':World) (u:Upd Non W w')=>aSupported_c 64 r.l w' _ a.la a.lc (PtK.upd u (fun _ _ _ f=>f) _ _ _ HK.out.l) hi.wl (by have:=hi.sl;omega))
   have CR:=h_ (fun (w':World) (u:Upd Non W w')=>aSupported_c 64 r.r w' _ a.ra a.rc (PtK.upd u (fun _ _ _ f=>f) _ _ _ HK.out.r) hi.wr (by have:=hi.sr;omega))
   unfold pv at CL CR;have HI:=h_ hi;have HIM:=h_ him;have tim:(r.imms != 0)=false:=by simpa using him
   clear hi him hv;obtain ⟨sl,Hsl⟩:=nm (supF r.l);obtain ⟨sr,Hsr⟩:=nm (supF r.r);rw [Hsl.out] at CL;rw [Hsr.out] at CR
   cases sl with
   | false =>
    have HR:Hid (applF r=false):=by show _=_;unfold applF;rw [HV.out,Hsl.out];simp
    go_enter Tryz.func60,Tryz.ntmps60;go_wp2_with fail
    refine CV.out.mono ?_;rintro e w1 ⟨rfl,u1⟩;have c13':=u_ c13 u1 (fun f=>f);have c1':=u_ c1 u1 (fun f=>f);have c2':=u_ c2 u1 (fun f=>f);have c3':=u_ c3 u1 (fun f=>f);have c4':=u_ c4 u1 (fun f=>f);have c5':=u_ c5 u1 (fun f=>f);go_wp2_with fail
    refine (CL.out w1 u1).mono ?_;rintro e w2 ⟨rfl,u2'⟩;have u2:=u1.then_non u2';have u3:=HU.out.then_non u2;go_wp2_with fail
    go_ret2;exact ⟨_,by rw [HR.out];rfl,by assumption,fun h=>by rw [HR.out] at h;cases h⟩
   | true =>
    cases sr with
    | false =>
     have HR:Hid (applF r=false):=by show _=_;unfold applF;rw [HV.out,Hsl.out,Hsr.out];simp
     go_enter Tryz.func60,Tryz.ntmps60;go_wp2_with fail
     refine CV.out.mono ?_;rintro e w1 ⟨rfl,u1⟩;have c13':=u_ c13 u1 (fun f=>f);have c1':=u_ c1 u1 (fun f=>f);have c2':=u_ c2 u1 (fun f=>f);have c3':=u_ c3 u1 (fun f=>f);have c4':=u_ c4 u1 (fun f=>f);have c5':=u_ c5 u1 (fun f=>f);go_wp2_with fail
     refine (CL.out w1 u1).mono ?_;rintro e w2 ⟨rfl,u2'⟩;have u2:=u1.then_non u2';have c6':=u_ c6 u2 (fun f=>f);have c7':=u_ c7 u2 (fun f=>f);have c8':=u_ c8 u2 (fun f=>f);have c9':=u_ c9 u2 (fun f=>f);have c10':=u_ c10 u2 (fun f=>f);go_wp2_with fail
     refine (CR.out w2 u2).mono ?_;rintro e w3 ⟨rfl,u3'⟩;have u3:=u2.then_non u3';have u4:=HU.out.then_non u3;go_wp2_with fail
     go_ret2;exact ⟨_,by rw [HR.out];rfl,by assumption,fun h=>by rw [HR.out] at h;cases h⟩
    | true =>
     go_enter Tryz.func60,Tryz.ntmps60;go_wp2_with fail
     refine CV.out.mono ?_;rintro e w1 ⟨rfl,u1⟩;have c13':=u_ c13 u1 (fun f=>f);have c1':=u_ c1 u1 (fun f=>f);have c2':=u_ c2 u1 (fun f=>f);have c3':=u_ c3 u1 (fun f=>f);have c4':=u_ c4 u1 (fun f=>f);have c5':=u_ c5 u1 (fun f=>f);go_wp2_with fail
     refine (CL.out w1 u1).mono ?_;rintro e w2 ⟨rfl,u2'⟩;have u2:=u1.then_non u2';have c6':=u_ c6 u2 (fun f=>f);have c7':=u_ c7 u2 (fun f=>f);have c8':=u_ c8 u2 (fun f=>f);have c9':=u_ c9 u2 (fun f=>f);have c10':=u_ c10 u2 (fun f=>f);go_wp2_with fail
     refine (CR.out w2 u2).mono ?_;rintro e w3 ⟨rfl,u3'⟩;have u3:=u2.then_non u3';have HU3:=h_ u3;have c11':=u_ c11 u3 (fun f=>f);have HCV:=h_ (HK.out.c.upd u3 (fun _ _ _ f=>f));obtain ⟨CA,hCA⟩:∃x,a.ca=x:=⟨_,rfl⟩;rw [hCA] at HCV c11';have HCE:=h_ hCA;obtain ⟨nc,Hnc⟩:=nm r.conds.length;rw [Hnc.out] at c11';have hnc6:nc≤6:=by rw [←Hnc.out];exact HI.out.cn
     clear hCA c1 c2 c3 c4 c5 c6 c7 c8 c9 c10 c1' c2' c3' c4' c5' c6' c7' c8' c9' c10' c13 c13' c0 c12 c11 u1 u2' u2 u3' u3 CL CR CV;go_wp2_with fail
     go_loopg [5,30] nc (fun gg _ i wr=>∃j:Nat,Hid (gg=nc - j)∧j≤nc∧i=.int .i64 j∧Hid (∀c∈r.conds.take j,c.kind≤4)∧Hid (Upd Non w3 wr))
     case atStart=>exact ⟨0,rfl,by omega,rfl,fun c hc=>(by rw [List.take_zero] at hc;cases hc),Upd.refl⟩
     case round =>
      obtain ⟨j,Hg,hj,rfl,HT,HUr⟩:=hrel;by_cases hlt:j<nc
      ·have hjl:j<r.conds.length:=by rw [Hnc.out];exact hlt
       obtain ⟨b,o,rfl,_,hbw,k0,k1,k2,k3⟩:=(HCV.out.upd HUr.out (fun _ _ _ f=>f)).at_ hjl;have hmem:=List.getElem_mem hjl;have htk:=List.take_succ_eq_append_getElem hjl;generalize r.conds[j]=c at *;have hj0:(0:Int)≤(j:Int):=by omega
       have hjn:(j:Int)<(nc:Int):=by omega
       by_cases h4:c.kind≤4
       ·have t4:decide (c.kind > 4)=false:=dF_ (by omega)
        have HT2:Hid (∀c∈r.conds.take (j+1),c.kind≤4):=fun x hx=>by
         rw [htk,List.mem_append,List.mem_singleton] at hx;rcases hx with hx | rfl
         ·exact HT.out x hx
         ·exact h4
        clear hmem htk h4;go_wp2_with fail
        go_roundg (nc - (j+1))
        case measure=>rw [Hg.out];omega
        case rel=>exact ⟨j+1,rfl,by omega,by go_num,HT2.out,HUr.out.alloc _⟩
       ·have t4:decide (c.kind > 4)=true:=dT_ (by omega)
        have HR:Hid (applF r=false):=by
         show _=_;rw [Bool.eq_false_iff];intro q;unfold applF at q;simp only [Bool.and_eq_true] at q;have:=of_decide_eq_true (List.all_eq_true.1 q.2 c hmem);omega
        have u4:=HU.out.then_non (HU3.out.then_non (HUr.out.alloc (.cells #[.int .i64 c.kind,.int .i64 c.a,.int .i64 c.b,.int .i64 c.n] 102)));clear hmem htk h4;go_wp2_with fail
        go_ret2;exact ⟨_,by rw [HR.out];rfl,by assumption,fun h=>by rw [HR.out] at h;cases h⟩
      ·obtain rfl:nc=j:=by omega
       have HT2:Hid (∀c∈r.conds,c.kind≤4):=fun c hc=>HT.out c (by rw [List.take_of_length_le (by rw [Hnc.out];exact Nat.le_refl _)];exact hc)
       have HUW:=h_ (HU3.out.then_non HUr.out);have hcr:=HC.out wr HUW.out;obtain ⟨c0,c1,c2,c3,c4,c5,c6,c7,c8,c9,c10,c11,c12,c13⟩:=hcr;have HKr:=h_ (HK.out.upd HUW.out (fun _ _ _ f=>f));have HWr:Hid (rb<wr.heap.size):=World.block_lt_of_cell? wr _ c0;obtain ⟨mb,hmb⟩:∃b,wr.heap.size=b:=⟨_,rfl⟩;obtain ⟨W5,HW5⟩:=nm (wr.alloc (.cells #[.string r.name,.int .i64 r.l.v,.int .i64 r.l.op,.int .i64 r.l.imm,.int .i64 r.l.iv,.slice a.la r.l.kids.length a.lc,.int .i64 r.r.v,.int .i64 r.r.op,.int .i64 r.r.imm,.int .i64 r.r.iv,.slice a.ra r.r.kids.length a.rc,.slice a.ca r.conds.length a.cc,.int .i64 r.vars,.int .i64 r.imms,.pointer none,.pointer none,.slice none 0 0,.int .i64 0,.int .i64 0] 129))
       have e5:=HW5.out;have u5:Upd Non wr W5:=by rw [←HW5.out];exact Upd.refl.alloc _
       have hM5:LyM W5 mb (auC r a (.pointer none) (.pointer none) (.int .i64 0)) 0 none 0 []:=by
        refine ⟨?_,Own.none_,rfl⟩;rw [auC_mC,←HW5.out,←hmb];exact Blk.new _ _ _
       have hmr:rb≠mb:=by have:=HWr.out;omega
       have hws:w.heap.size≤wr.heap.size:=by have:=HU.out.size;have:=HUW.out.size;omega
       have hF1:∀i,(F i∧i<w.heap.size)→i<W5.heap.size∧i≠mb∧¬At none i:=fun i hi=>by
        have:=u5.size;exact ⟨by omega,by omega,At.none_⟩
       have hgr:=gR_le HI.out;have hbl:=bN_le r.l;have hbr:=bN_le r.r;have hsl:=HI.out.sl;have hsr:=HI.out.sr;have C1:=h_ (aLayout_c r.l W5 (fun k=>F k∧k<w.heap.size) a.la a.lc (PtK.upd u5 (fun _ _ _ f=>f) _ _ _ HKr.out.l) HI.out.nl Hsl.out HI.out.wl (by omega) mb 0 _ none 0 [] hM5 hF1 (by omega) (by simp;omega))
       unfold pv pp at C1;have HM5:=h_ hM5;have HU5:=h_ u5;have d1:=u_ c1 u5 (fun f=>f);have d2:=u_ c2 u5 (fun f=>f);have d3:=u_ c3 u5 (fun f=>f);have d4:=u_ c4 u5 (fun f=>f);have d5:=u_ c5 u5 (fun f=>f);have HC0:=h_ c0;clear hM5 u5
       go_upto_region 10 with fail
       go_wp2_with fail
       refine C1.out.mono ?_;rintro e w6 ⟨L,GA1,gc1,ns1,rfl,hR1⟩;have k14:w6.cell? ⟨mb,14,none⟩=some (.pointer none):=(hR1.st.blk.cell 14).trans (mC_get (by decide) (by decide) _ _);have f14:=hR1.st.blk.frozen 14;have hM7:=hR1.st.put (i:=14) (by decide) (by decide) (pp L);rw [auC_14,Nat.zero_add,List.nil_append] at hM7;have hmw:∀i,i<wr.heap.size→¬i=mb:=fun i hi e=>by omega
       obtain ⟨W7,HW7⟩:=nm (w6.setCell ⟨mb,14,none⟩ (pp L))
       have u7:Upd Non wr W7:=by
        rw [←HW7.out];exact ((HU5.out.trans hR1.upd (T:=fun i=>i=mb∨At none i) (fun i hi q=>q.elim (fun e=>(hmw i hi e).elim) (fun q=>(At.none_ q).elim))).trans (updCell w6 mb 14 (pp L)) (fun i hi q=>(hmw i hi q).elim))
       have uT1:Upd (·=mb) w6 W7:=by rw [←HW7.out];exact updCell w6 mb 14 (pp L)
       rw [HW7.out] at hM7;have hG1:∀i,At GA1 i→W5.heap.size≤i:=fun i hi=>(hR1.ga i hi).elim (fun q=>(At.none_ q).elim) (fun q=>q)
       have hF2:∀i,(F i∧i<w.heap.size)→i<W7.heap.size∧i≠mb∧¬At GA1 i:=fun i hi=>by
        have h1:=u7.size;have h2:=HU5.out.size;exact ⟨by omega,by omega,fun q=>by have:=hG1 i q;omega⟩
       have hn1:ns1.length=gN r.l:=by rw [hR1.gx.1,gpos_len]
       have C2:=h_ (aLayout_c r.r W7 (fun k=>F k∧k<w.heap.size) a.ra a.rc (PtK.upd u7 (fun _ _ _ f=>f) _ _ _ HKr.out.r) HI.out.nr Hsr.out HI.out.wr (by omega) mb (bN r.l) _ GA1 gc1 ns1 hM7 hF2 (by omega) (by omega))
       unfold pv pp at C2;have d6:=u_ c6 u7 (fun f=>f);have d7:=u_ c7 u7 (fun f=>f);have d8:=u_ c8 u7 (fun f=>f);have d9:=u_ c9 u7 (fun f=>f);have d10:=u_ c10 u7 (fun f=>f);have HR1:=h_ hR1;have HM7:=h_ hM7;have HU7:=h_ u7;have HT1:=h_ uT1;have HG1:=h_ hG1;have e7:=HW7.out;unfold pp at e7;clear hR1 hM7 u7 uT1 hG1 hF2 d1 d2 d3 d4 d5 hF1 C1;go_wp2_with fail
       refine C2.out.mono ?_;rintro e w8 ⟨R,GA2,gc2,ns2,rfl,hR2⟩;have k15:w8.cell? ⟨mb,15,none⟩=some (.pointer none):=(hR2.st.blk.cell 15).trans (mC_get (by decide) (by decide) _ _);have f15:=hR2.st.blk.frozen 15;have hM9:=hR2.st.put (i:=15) (by decide) (by decide) (pp R);rw [auC_15] at hM9;obtain ⟨sz,Hsz⟩:=nm (bN r.l+bN r.r);have hsz:sz≤10000:=by have:=Hsz.out;omega
       rw [Hsz.out] at hM9;obtain ⟨W9,HW9⟩:=nm (w8.setCell ⟨mb,15,none⟩ (pp R));rw [HW9.out] at hM9;have e9:=HW9.out;have uT2:Upd (·=mb) w8 W9:=by rw [←HW9.out];exact updCell w8 mb 15 (pp R)
       have k18:=(hM9.blk.cell 18).trans (mC_18 hM9.cs _ _);have k17:W9.cell? ⟨mb,17,none⟩=some (.int .i64 0):=(hM9.blk.cell 17).trans (mC_get (by decide) (by decide) _ _);have f17:=hM9.blk.frozen 17;have hM10:=hM9.put (i:=17) (by decide) (by decide) (.int .i64 (sz:Int));rw [auC_17] at hM10;obtain ⟨W10,HW10⟩:=nm (W9.setCell ⟨mb,17,none⟩ (.int .i64 (sz:Int)));rw [HW10.out] at hM10;have e10:=HW10.out;have uT3:Upd (·=mb) W9 W10:=by rw [←HW10.out];exact updCell W9 mb 17 _
       have u8:Upd (fun i=>i=mb∨At GA1 i) W7 W10:=(hR2.upd.trans uT2 (fun _ _ q=>.inl q)).trans uT3 (fun _ _ q=>.inl q);have u10:Upd Non wr W10:=HU7.out.trans u8 (fun i hi q=>q.elim (fun e=>(hmw i hi e).elim) (fun q=>by have h1:=HG1.out i q;have h2:=HU5.out.size;omega))
       have g11:=u_ c11 u10 (fun f=>f);have m18:=(hM10.blk.cell 18).trans (mC_18 hM10.cs _ _);have f18:=hM10.blk.frozen 18
       have hM11:LyM (W10.setCell ⟨mb,18,none⟩ (.int .i64 ((sz:Int)+((r.conds.length:Int)+1)))) mb (auC r a (pp L) (pp R) (.int .i64 (sz:Int))) (stN r) GA2 gc2 (ns1++ns2):=by
        have uS:=updCell W10 mb 18 (.int .i64 ((sz:Int)+((r.conds.length:Int)+1)));refine ⟨?_,hM10.own.upd uS (fun i hi e=>hM10.ne (e ▸ hi)),rfl⟩;have:=hM10.blk.set_ 18 (.int .i64 ((sz:Int)+((r.conds.length:Int)+1)));rw [mC_s18] at this;rw [show ((stN r:Nat):Int)=(sz:Int)+((r.conds.length:Int)+1) by rw [←Hsz.out];unfold stN;push_cast;omega];exact this
       have HM11:=h_ hM11;have HR2:=h_ hR2;have HU8:=h_ u8;have HU10:=h_ u10;have HT23:Hid (Upd (·=mb) w8 W10):=uT2.trans uT3 (fun _ _ q=>q);have hcl:r.conds.length≤6:=HI.out.cn;have q1:IntKind.i64.wrap ((r.conds.length:Int)+1)=(r.conds.length:Int)+1:=i64w_of (by unfold I64;omega);have q2:IntKind.i64.wrap ((sz:Int)+((r.conds.length:Int)+1))=(sz:Int)+((r.conds.length:Int)+1):=i64w_of (by unfold I64;omega);unfold pp at e9;clear hR2 hM9 hM10 hM11 u8 u10 uT2 uT3 d6 d7 d8 d9 d10 C2
       go_upto_region 13 with fail
       refine wp_region_held_drew (S:=fun w'=>w'.cell? ⟨rb,11,none⟩=some (.slice a.ca r.conds.length a.cc)) (by kernel_rfl) g11 (fun hHeld=>?_);refine wpT 0 ?_;(try simp only [y_,z_]);refine wpT 1 ?_;(try simp only [y_,z_]);refine wpT 2 ?_;(try simp only [y_,z_]);refine wpT 4 ?_;(try simp only [y_,z_]);refine wpT 5 ?_;(try simp only [y_,z_]);refine wpT 6 ?_;(try simp only [y_,z_]);refine wpT 7 ?_;(try simp only [y_,z_]);refine wpAnyH_takeM (fun w'=>w'.cell? ⟨mb,18,none⟩=some (.int .i64 (sz:Int))) (calm_cell _ _) [8,9,10,11] (i:=3) (v:=?_) rfl (by kernel_rfl) (by kernel_rfl) (by kernel_rfl) (by kernel_rfl) (fun _ _ _ h=>h) (Or.inl ⟨by rfl,?_⟩) (m18) (by assumption) ?_
       rotate_left
       ·intro w hSw;(try dsimp only at hSw);go_simp;try with_reducible rfl
       (try simp only [y_,z_]);refine wpT 8 ?_;(try simp only [y_,z_]);refine wpT 9 ?_;(try simp only [y_,z_]);refine wpT 10 ?_;(try simp only [y_,z_]);refine aR_ (rs:=[11]) (by kernel_rfl) (by simp) ?_;refine aC_ rfl (fun K hK=>?_) aN_;go_simp;refine hK.out _ _ ?_ (fun hHeld=>?_)
       ·exact u_ (S:=(·=mb)) g11 ((updCell W10 mb 18 (.int .i64 ((sz:Int)+((r.conds.length:Int)+1)))).drewN 1) hmr
       clear hK K;(try simp only [y_,z_]);refine aD_ (by kernel_rfl) ?_ _;clear hHeld;obtain ⟨WE,HWE⟩:=nm ((W10.setCell ⟨mb,18,none⟩ (.int .i64 ((sz:Int)+((r.conds.length:Int)+1)))).drewN 1);have uTE:Upd (·=mb) W10 WE:=by rw [←HWE.out];exact (updCell W10 mb 18 _).drewN 1
       have hME:LyM WE mb (auC r a (pp L) (pp R) (.int .i64 (sz:Int))) (stN r) GA2 gc2 (ns1++ns2):=by rw [←HWE.out];exact HM11.out.upd (S:=Non) (Upd.refl.drewN 1) (fun f=>f) (fun _ _ f=>f)
       have m16:=(hME.blk.cell 16).trans (mC_16 hME.cs _ _);have HME:=h_ hME;have HTE:=h_ uTE;have hgn:(ns1++ns2).length=gR r:=by rw [List.length_append,HR1.out.gx.1,HR2.out.gx.1,gpos_len,gpos_len];rfl
       obtain ⟨gn,Hgn⟩:=nm (ns1++ns2).length;rw [Hgn.out] at m16 hgn;have HGN:=h_ hgn;clear hgn g11 m18 f18 hME uTE q1 q2;rw [show (W10.setCell ⟨mb,18,none⟩ (.int .i64 ((sz:Int)+((r.conds.length:Int)+1)))).drew=WE from HWE.out];go_wp2_with fail
       refine wp_region_held_drew (S:=fun w'=>w'.cell? ⟨mb,16,none⟩=some (.slice GA2 gn gc2)) (by kernel_rfl) m16 (fun hHeld=>?_);refine wpT 0 ?_;(try simp only [y_,z_]);refine wpT 1 ?_;(try simp only [y_,z_]);refine wpT 2 ?_;(try simp only [y_,z_]);refine wpT 3 ?_;(try simp only [y_,z_]);refine wpT 4 ?_;(try simp only [y_,z_]);refine wpT 5 ?_;(try simp only [y_,z_]);refine wpT 6 ?_;(try simp only [y_,z_]);refine wpT 7 ?_;(try simp only [y_,z_]);refine wpT 8 ?_;(try simp only [y_,z_]);refine aD_ (by kernel_rfl) ?_ _;go_wp2_with fail
       go_ret2
       have hA:applF r=decide ((gn:Int)≤6):=by
        unfold applF;have hall:(r.conds.all fun c=>decide (1≤c.kind∧c.kind≤4))=true:=List.all_eq_true.2 fun c hc=>dT_ ⟨HI.out.ck c hc,HT2.out c hc⟩
        rw [HV.out,dT_ HIM.out,Hsl.out,Hsr.out,hall,HGN.out];simp;omega
       have uE1:Upd Non wr (WE.drewN 1):=(HU10.out.trans HTE.out (fun i hi q=>(hmw i hi q).elim)).drewN 1;have uWE:=HU.out.then_non (HUW.out.then_non uE1);have u6E:Upd (fun i=>i=mb∨At GA1 i) w6 (WE.drewN 1):=(((HT1.out.mono (fun _ _ q=>.inl q)).trans HU8.out (fun _ _ q=>q)).trans HTE.out (fun _ _ q=>.inl q)).drewN 1
       have u8E:Upd (·=mb) w8 (WE.drewN 1):=(HT23.out.trans HTE.out (fun _ _ q=>q)).drewN 1;have hW5:=HU5.out.size;have hW7:=HU7.out.size;have hm5:mb<W5.heap.size:=HM5.out.blk.lt;have hm7:mb<W7.heap.size:=HM7.out.blk.lt;refine ⟨_,by rw [hA];rfl,uWE,fun _=>⟨mb,L,R,GA2,gc2,ns1++ns2,rfl,by omega,⟨?_,.inr (by omega),?_,?_,?_,?_⟩,?_⟩⟩
       ·have:=HME.out.blk;rw [auC_mC,←Hsz.out] at this;exact this
       ·exact (HKr.out.c.mono (fun _ _ q=>.inl q)).upd uE1 (fun _ _ _ f=>f)
       ·refine OsT.upd u6E (fun i _ hi q=>?_) (fun i _ hi=>.inr (by have:=hi.1;omega)) _ _ _ HR1.out.os;rcases q with q | q
        ·have:=hi.1;omega
        ·exact hi.2 q
       ·refine OsT.upd u8E (fun i _ hi q=>by have:=hi.1;omega) (fun i _ hi=>.inr (by have:=hi.1;omega)) _ _ _ HR2.out.os
       ·refine (HME.out.own.sl.mono (fun i _ hi=>.inr ?_)).upd (S:=Non) (Upd.refl.drewN 1) (fun _ _ _ f=>f);rcases HR2.out.ga i hi with q | q
        ·have:=HG1.out i q;omega
        ·omega
       ·refine GsX.app (HR1.out.gx.upd u6E (fun g c hb q=>?_)) (HR2.out.gx.upd u8E (fun g c hb q=>?_))
        ·rcases q with q | q
         ·subst q;exact hb.ne_ HR1.out.st.blk (by decide) rfl
         ·exact HR1.out.st.own.ne_blk hb (by decide) q
        ·subst q;exact hb.ne_ HR2.out.st.blk (by decide) rfl
  ·have HR:Hid (applF r=false):=by show _=_;unfold applF;rw [hv,dF_ him];rfl
   have tim:(r.imms != 0)=true:=by simpa using him
   clear hi him hv;go_enter Tryz.func60,Tryz.ntmps60;go_wp2_with fail
   refine CV.out.mono ?_;rintro e w1 ⟨rfl,u1⟩;have c13':=u_ c13 u1 (fun f=>f);have u2:=HU.out.then_non u1;go_wp2_with fail
   go_ret2;exact ⟨_,by rw [HR.out];rfl,by assumption,fun h=>by rw [HR.out] at h;cases h⟩
 ·have hv':implF r=false:=by simpa using hv
  have HR:Hid (applF r=false):=by show _=_;unfold applF;rw [hv'];rfl
  rw [hv'] at CV;clear hv hv';go_enter Tryz.func60,Tryz.ntmps60;go_wp2_with fail
  refine CV.out.mono ?_;rintro e w1 ⟨rfl,u1⟩;have u2:=HU.out.then_non u1;go_wp2_with fail
  go_ret2;exact ⟨_,by rw [HR.out];rfl,by assumption,fun h=>by rw [HR.out] at h;cases h⟩
def U8B (w:World) (i:Nat):Prop:=∃cs,Blk w i 5 cs
theorem U8B.upd {w w':World} {S:Nat→Prop} {i:Nat} (h:U8B w i) (u:Upd S w w') (d:¬S i):U8B w' i:=by
 obtain ⟨cs,hb⟩:=h;exact ⟨cs,hb.upd u d⟩
section
variable {α:Type} {El:World→(Nat→Prop)→List Value→α→Prop} {k:Nat} {w w':World} {S:Nat→Prop} {A:Option Addr} {L:List α} {n c:Nat} {e:TypeId}
theorem ElO.u8 (O:ElOk El k) (h:ElO El k e w (U8B w) A n c L) (u:Upd S w w') (dA:∀i,At A i→¬S i) (d8:∀i cs,Blk w i 5 cs→¬S i):ElO El k e w' (U8B w') A n c L:=by
 obtain ⟨h1,cs,h2,h3⟩:=h;exact ⟨h1,cs,h2.upd u dA,h3.mono O u (fun i _ hg=>by obtain ⟨q,hb⟩:=hg.1;exact d8 i q hb) (fun i _ hg=>⟨hg.1.upd u (by obtain ⟨q,hb⟩:=hg.1;exact d8 i q hb),hg.2⟩)⟩
theorem ElO.snoc8 (O:ElOk El k) (he:e≠5) {w0:World} {A':Option Addr} {c':Nat} {x:α} {new cs:List Value} (hL:n=L.length) (h:ElCells El k w0 (fun i=>U8B w0 i∧¬At A i) cs L) (u0:Upd Non w0 w) (hO:Own w e k A n c cs) (hx:El w (fun i=>U8B w i∧¬At A i) new x) (ho:Own w' e k A' (n+1) c' (cs++new))
  (u:Upd (At A) w w') (hA:∀i,At A' i→At A i∨i=w.heap.size):ElO El k e w' (U8B w') A' (n+1) c' (L++[x]):=by
 have h1:ElCells El k w (fun i=>U8B w i∧¬At A i) cs L:=h.mono O u0 (fun _ _ _ f=>f) (fun i _ q=>⟨q.1.upd u0 (fun f=>f),q.2⟩);exact ElO.snoc O hL h1 hx ho rfl u (fun i hi=>(hA i hi).imp (fun z=>z) (fun z=>by omega)) (fun i _ hg=>hg.upd u (fun z=>by obtain ⟨q,hb⟩:=hg;exact hO.ne_blk hb he z))
end
theorem own_u8 {w:World} {q n c:Nat} {cs:List Value} (h:Own w 5 1 (some ⟨q,0,none⟩) n c cs):U8B w q:=by
 rcases h.cases with ⟨h0,_⟩ | ⟨g,cur,e1,hb,_⟩
 ·cases h0
 ·injection e1 with e1;injection e1 with e1;subst e1
  exact ⟨cur,hb⟩
theorem T_rows:SlT Tryz.prog 118 84 1 24:=by
 obtain ⟨i,h1,h2,h3,h4⟩:=info_parts (show (Tryz.prog.info? 84).map (fun i=>(i.zero,i.size,i.bytes))=some (some (.slice none 0 0),1,24) from by kernel_rfl)
 exact ⟨Tryz.underlying118,⟨i,_,h1,h2,h3,h4,rfl⟩,by omega⟩
theorem rep_set (m:List Bool) (k:Nat) (b:Bool):(m++List.replicate (k+1) false).set m.length b=(m++[b])++List.replicate k false:=by
 rw [List.set_append_right _ _ (Nat.le_refl _),Nat.sub_self,List.replicate_succ,List.set_cons_zero,List.append_assoc];rfl
theorem rep_no (m:List Bool) (k:Nat):m++List.replicate (k+1) false=(m++[false])++List.replicate k false:=by
 rw [List.replicate_succ,List.append_assoc];rfl
theorem rep_spl (m1 m2:List Bool) (k:Nat) (h:m2.length≤k):spl (m1++List.replicate k false) m1.length m2=(m1++m2)++List.replicate (k - m2.length) false:=by
 unfold spl;rw [List.take_append_of_le_length (Nat.le_refl _),List.take_length,List.drop_append,List.drop_of_length_le (by omega),List.drop_replicate,List.nil_append,List.append_assoc]
 congr 3
 omega
theorem rep_get (m:List Bool) (k i:Nat) (h:m.length≤i):(m++List.replicate k false).getD i false=false:=by
 rw [List.getD_eq_getElem?_getD,List.getElem?_append_right h,List.getElem?_replicate]
 split <;> rfl
theorem setG_snoc (g:Nat→Bool) (l:List (Int×Nat)) (b:List Bool) {i:Nat} (h:i<l.length):setG g (l.take (i+1)) 0 b=(setG g (l.take i) 0 b).set l[i].2 (g i):=by
 rw [List.take_succ_eq_append_getElem h,setG_app,List.length_take,Nat.min_eq_left (by omega),Nat.zero_add];rfl
theorem elRow_of {w:World} {K:Nat→Prop} {q n c:Nat} {l:List Bool} (h:Own w 5 1 (some ⟨q,0,none⟩) n c (b8s l)) (hl:l.length=n) (hK:K q):ElRow w K [.slice (some ⟨q,0,none⟩) n c] (bbs l):=by
 refine ⟨some ⟨q,0,none⟩,c,?_,?_,?_⟩
 ·unfold bbs;rw [List.length_map,hl]
 ·unfold bbs;rw [List.length_map,hl];exact h.le
 ·rw [←b8s_u8s];exact h.sl.mono (fun i _ hi=>by rw [At.some_] at hi;subst hi;exact hK)
theorem own_rep (w:World) (n:Nat) (hn:n≤1000000):Own (w.alloc (.cells (Array.replicate n (.int .u8 0)) 5)) 5 1 (some ⟨w.heap.size,0,none⟩) n n (b8s (List.replicate n false)):=by
 refine Own.mk_ (Blk.new _ _ _) (Nat.le_refl _) (by simp only [maxLen];omega) (by simp) ?_;rw [Nat.mul_one];unfold b8s;rw [List.map_replicate];simp;exact .inr rfl
set_option maxRecDepth 100000 in
set_option maxHeartbeats 16000000 in
theorem aInitStates_c {w:World} {F:Nat→Prop} {m:Nat} {r:Rl} {a:RlA} {L R:Nat} {GA:Option Addr} {gc:Nat} {gs:List Nat} (hA:AU w F m r a L R GA gc gs) (hG:GsX w gs (gposR r)) (hr:NxOk r) (hn:stN r≤100000) (hg6:gR r≤6) (hc6:r.conds.length≤6) :
  Calls Tryz.prog 70 #[pp m] w fun e w'=>∃A c,e=.returned (.slice A (2 ^ gR r) c)∧ElO ElRow 1 84 w' (U8B w') A (2 ^ gR r) c ((initsF r).map bbs)∧(∀i,At A i→w.heap.size≤i)∧Upd Non w w':=by
 have hst:stN r=bN r.l+bN r.r+r.conds.length+1:=rfl;obtain ⟨n,Hn⟩:=nm (stN r);rw [Hn.out] at hn hst;have x18:=hA.blk.cell 18;rw [Hn.out] at x18;have hmk:∀w:World,(Instr.makeSlice 84 (.int .i64 (n:Int)) (.int .i64 (n:Int))).run Tryz.prog w=.ok (.slice (some ⟨w.heap.size,0,none⟩) n n) (w.alloc (.cells (Array.replicate n (.int .u8 0)) 5)):=fun w=>run_mk (P:=Tryz.prog) T_u8s zero_u8 rfl n (by omega) (by omega) w
 obtain ⟨W1,HW1⟩:=nm (w.alloc (.cells (Array.replicate n (.int .u8 0)) 5));have e1:=HW1.out;have u1:Upd Non w W1:=by rw [←HW1.out];exact Upd.refl.alloc _
 obtain ⟨g,hg⟩:∃g,w.heap.size=g:=⟨_,rfl⟩;have ho1:Own W1 5 1 (some ⟨g,0,none⟩) n n (b8s (List.replicate n false)):=by rw [←HW1.out,←hg];exact own_rep w n (by omega)
 have HA:=h_ hA;have HST:=h_ hst;obtain ⟨bl,Hbl⟩:=nm (bN r.l);obtain ⟨br,Hbr⟩:=nm (bN r.r);obtain ⟨nc,Hnc⟩:=nm r.conds.length;have hst2:n=bl+br+nc+1:=by rw [hst,Hbl.out,Hbr.out,Hnc.out]
 have hzl:(iP r.l).length=bl:=by rw [iP_len,Hbl.out]
 have hzr:(iP r.r).length=br:=by rw [iP_len,Hbr.out]
 have hs1:spl (List.replicate n false) 0 (iP r.l)=iP r.l++List.replicate (n - bl) false:=by
  have:=rep_spl [] (iP r.l) n (by omega);rw [hzl] at this;exact this
 have hs2:spl (iP r.l++List.replicate (n - bl) false) bl (iP r.r)=(iP r.l++iP r.r)++List.replicate (nc+1) false:=by
  have:=rep_spl (iP r.l) (iP r.r) (n - bl) (by omega);rw [hzl,hzr,show n - bl - br=nc+1 by omega] at this;exact this
 have hTL:=OsT.upd u1 (fun _ _ _ f=>f) (G:=fun i=>i<w.heap.size) (fun i hi _=>hi) _ _ _ hA.tl;have hTR:=OsT.upd u1 (fun _ _ _ f=>f) (G:=fun i=>i<w.heap.size) (fun i hi _=>hi) _ _ _ hA.tr;have C1:=h_ (aInitialize_c (c:=n) (m:=m) (F:=fun i=>i<w.heap.size) (g:=g) (by omega:n≤1000000) (fun i hi e=>by omega) r.l W1 (List.replicate n false) 0 L hr.hl.1 hr.hl.2.1 hTL ho1 List.length_replicate (by omega) (fun i _ _=>by rw [List.getD_eq_getElem?_getD,List.getElem?_replicate];split <;> rfl))
 have x14:=u_ (hA.blk.cell 14) u1 (fun f=>f);have hgm:m≠g:=by have:=hA.blk.lt;omega
 rw [hs1] at C1;have C2:=h_ (fun (w':World) (u:Upd (·=g) W1 w') ho=>aInitialize_c (c:=n) (m:=m) (F:=fun i=>i<w.heap.size) (g:=g) (by omega:n≤1000000) (fun i hi e=>by omega) r.r w' (iP r.l++List.replicate (n - bl) false) bl R hr.hr.1 hr.hr.2.1 (OsT.upd u (fun i _ hi e=>by omega) (fun _ _ q=>q) _ _ _ (by rw [Hbl.out] at hTR;exact hTR)) ho (by rw [List.length_append,List.length_replicate];omega) (by have:=Hbr.out;omega) (fun i h1 _=>rep_get _ _ _ (by omega)))
 rw [hs2] at C2;have HLT:Hid (∀i,i<w.heap.size→i≠g):=fun i hi e=>by omega
 have X15:=h_ (u_ (hA.blk.cell 15) u1 (fun f=>f));have HU1:=h_ u1;have HML:Hid (m<w.heap.size):=hA.blk.lt;have HS2:=h_ hst2;have HZL:=h_ hzl;have HZR:=h_ hzr;clear hA hTL hTR ho1 hst hst2 hs1 hs2 hzl hzr u1;unfold pp at C1 C2 x14 X15 ⊢;go_enter Tryz.func70,Tryz.ntmps70;go_wp2_with fail
 refine C1.out.mono ?_;rintro e w2 ⟨rfl,ho2,hu2⟩;have x15:=u_ (S:=(·=g)) X15.out hu2 hgm;have HO2:=h_ ho2;have HU2:=h_ hu2;clear x14 ho2 hu2 C1;go_wp2_with fail
 refine (C2.out w2 HU2.out HO2.out).mono ?_;rintro e w3 ⟨rfl,ho3,hu3⟩;have hu13:=HU2.out.trans hu3 (fun _ _ q=>q);have hu03:Upd (·=g) w w3:=(HU1.out.mono (fun _ _ f=>f.elim)).trans hu13 (fun _ _ q=>q);have HU3:=h_ hu3;have HU03:Hid (Upd Non w w3):=hu03.mono (fun i hi e=>by omega);have HA3:=h_ (HA.out.blk.upd hu03 hgm);have HCD:=h_ (HA.out.cds.mono (G:=fun i=>i<w.heap.size) (fun i hi _=>hi) |>.upd hu03 (fun i _ hi e=>by omega));have x11:=HA3.out.cell 11;have x17:=HA3.out.cell 17;obtain ⟨CA,hCA⟩:∃x,a.ca=x:=⟨_,rfl⟩;rw [hCA] at x11 HCD;rw [Hnc.out] at x11;rw [Hbl.out,Hbr.out] at x17;obtain ⟨cn,hcn⟩:∃c,bl+br=c:=⟨_,rfl⟩;rw [hcn] at x17;have HCN:Hid (n=cn+nc+1):=by show _=_;have:=HS2.out;omega
 have HO3:=h_ ho3;have HZN:Hid ((iP r.l++iP r.r).length=cn):=by show _=_;rw [List.length_append,HZL.out,HZR.out,hcn]
 have hcn12:cn+nc+1≤100000:=by have:=HCN.out;omega
 rw [Hnc.out] at hc6;clear hCA ho3 hu3 hu13 hu03 x15 C2 hcn;go_wp2_with fail
 go_loopg [4,5,36] nc (fun gg _ _ i wr=>∃j:Nat,Hid (gg=nc - j)∧j≤nc∧i=.int .i64 j∧Hid (Own wr 5 1 (some ⟨g,0,none⟩) n n (b8s (((iP r.l++iP r.r)++(r.conds.take j).map cdIn)++List.replicate (nc - j+1) false)))∧Hid (Upd (·=g) w3 wr))
 case atStart=>exact ⟨0,rfl,by omega,rfl,by rw [List.take_zero,List.map_nil,List.append_nil];exact HO3.out,Upd.refl⟩
 case round =>
  obtain ⟨j,Hg,hj,rfl,HOr,HUr⟩:=hrel;by_cases hlt:j<nc
  ·have hjl:j<r.conds.length:=by rw [Hnc.out];exact hlt
   obtain ⟨b,o,rfl,_,hbw,k0,k1,k2,k3⟩:=(HCD.out.upd HUr.out (fun i hi hi2 e=>by omega)).at_ hjl;have htk:=List.take_succ_eq_append_getElem hjl;generalize r.conds[j]=c at *;obtain ⟨Zj,HZj⟩:=nm ((iP r.l++iP r.r)++(r.conds.take j).map cdIn);have hZl:Zj.length=cn+j:=by rw [←HZj.out,List.length_append,HZN.out,List.length_map,List.length_take,Nat.min_eq_left (by omega)]
   have HZ2:Hid ((iP r.l++iP r.r)++(r.conds.take (j+1)).map cdIn=Zj++[cdIn c]):=by show _=_;rw [htk,List.map_append,←List.append_assoc,HZj.out];rfl
   rw [HZj.out,show nc - j+1=(nc - (j+1)+1)+1 by omega] at HOr;have hj0:(0:Int)≤(j:Int):=by omega
   have hjn:(j:Int)<(nc:Int):=by omega
   obtain ⟨cb,hcb⟩:∃b,wr.heap.size=b:=⟨_,rfl⟩;obtain ⟨W5,HW5⟩:=nm (wr.alloc (.cells #[.int .i64 c.kind,.int .i64 c.a,.int .i64 c.b,.int .i64 c.n] 102));have u5:Upd Non wr W5:=by rw [←HW5.out];exact Upd.refl.alloc _
   have b5:Blk W5 cb 102 #[.int .i64 c.kind,.int .i64 c.a,.int .i64 c.b,.int .i64 c.n]:=by rw [←HW5.out,←hcb];exact Blk.new _ _ _
   have z0:=b5.cell 0;have hO5:=HOr.out.upd u5 (fun _ _ f=>f);have HO5:=h_ hO5;have hU5:Upd (·=g) w3 W5:=HUr.out.trans u5 (fun _ _ f=>f.elim);have HU5:=h_ hU5;have hg5:∃v,W5.cell? ⟨g,cn+j,none⟩=some v:=⟨_,hO5.cell_ (i:=cn+j) (by rw [b8s_len,List.length_append,hZl,List.length_replicate];omega)⟩
   obtain ⟨v5,hg5⟩:=hg5;have hf5:=hO5.frozen_ (cn+j);have x17':=u_ (S:=(·=g)) x17 hU5 hgm;clear b5 u5 hO5 hU5 htk;have hk23:(c.kind=2∨c.kind=3)∨(¬c.kind=2∧¬c.kind=3):=by omega
   rcases hk23 with hk | ⟨hk2,hk3⟩
   ·have HCI:Hid (cdIn c=true):=dT_ hk
    have HO6:Hid (Own (W5.setCell ⟨g,cn+j,none⟩ (b8 true)) 5 1 (some ⟨g,0,none⟩) n n (b8s ((Zj++[true])++List.replicate (nc - (j+1)+1) false))):=by
     show Own _ _ _ _ _ _ _;rw [←rep_set,hZl,←b8s_set];exact HO5.out.set_ _ _
    clear hZl;have q2:(0:Int)≤(cn:Int)+(j:Int):=by omega
    have q3:(cn:Int)+(j:Int)<(n:Int):=by have:=HCN.out;omega
    have q4:((cn:Int)+(j:Int)).toNat=cn+j:=by omega
    rcases hk with e | e
    all_goals
     rw [e] at z0;clear e
     go_upto_region 7 with fail
     rw [HW5.out];go_wp2_with fail
     go_roundg (nc - (j+1))
     case measure=>rw [Hg.out];omega
     case rel=>exact ⟨j+1,rfl,by omega,by go_num,by rw [HZ2.out,HCI.out];exact HO6.out,HU5.out.trans (updCell W5 g (cn+j) (b8 true)) (fun _ _ q=>q)⟩
   ·have HCI:Hid (cdIn c=false):=dF_ (by omega);have t2:(c.kind==2)=false:=by simpa using hk2
    have t3:(c.kind==3)=false:=by simpa using hk3
    have HO6:Hid (Own W5 5 1 (some ⟨g,0,none⟩) n n (b8s ((Zj++[false])++List.replicate (nc - (j+1)+1) false))):=by
     show Own _ _ _ _ _ _ _;rw [←rep_no];exact HO5.out
    clear hZl hk2 hk3
    go_upto_region 7 with fail
    rw [HW5.out];go_wp2_with fail
    go_roundg (nc - (j+1))
    case measure=>rw [Hg.out];omega
    case rel=>exact ⟨j+1,rfl,by omega,by go_num,by rw [HZ2.out,HCI.out];exact HO6.out,HU5.out⟩
  ·obtain rfl:nc=j:=by omega
   obtain ⟨w4,rfl⟩:∃x:World,x=wr:=⟨_,rfl⟩
   have hO:Own w4 5 1 (some ⟨g,0,none⟩) n n (b8s (initZ r)):=by
    have:=HOr.out;rw [List.take_of_length_le (by rw [Hnc.out];exact Nat.le_refl _),Nat.sub_self] at this;exact this
   have HO:=h_ hO;have hU3:Upd (·=g) w w4:=(HU1.out.mono (fun _ _ f=>f.elim)).trans (HU2.out.trans HU3.out (fun _ _ q=>q)) (fun _ _ q=>q) |>.trans HUr.out (fun _ _ q=>q)
   have HUW:Hid (Upd Non w w4):=hU3.mono (fun i hi e=>by omega);have hM:=HA3.out.upd HUr.out hgm;have x16:=hM.cell 16;have HGX:=h_ (hG.upd HUW.out (fun _ _ _ f=>f));have HGS:=h_ ((HA.out.gds.mono (G:=fun i=>i<w.heap.size) (fun i hi _=>hi)).upd hU3 (fun i _ hi e=>by omega));have hgl:gs.length=gR r:=by rw [hG.1,gposR_len]
   obtain ⟨gn,Hgn⟩:=nm gs.length;rw [Hgn.out] at x16 hgl;have HGL:=h_ hgl;obtain ⟨G2,HG2⟩:=nm (2 ^ gn);have hG2:G2≤64:=by rw [←HG2.out];exact Nat.le_trans (Nat.pow_le_pow_right (by decide) (show gn≤6 by omega)) (by decide)
   have hsh:wrap64 ((2:Int) ^ gn)=(G2:Int):=by
    have e:((2:Int) ^ gn)=((2 ^ gn:Nat):Int):=by push_cast;rfl
    rw [e,HG2.out];exact wrap64_of (by unfold I64;omega)
   have hgn6:gn≤6:=by omega
   have HM:=h_ hM;clear hO hU3 hG HCD HO3 HU3 x11 x17 HA3 hgl hM;go_wp2_with fail
   go_loopg [6,7,8,9,10,76] G2 (fun gg lv hv _ _ _ _ wx=>∃(h c:Nat) (A:Option Addr),Hid (gg=G2 - h)∧h≤G2∧hv=.int .i64 h∧lv=.slice A h c∧Hid (ElO ElRow 1 84 wx (U8B wx) A h c (((initsF r).take h).map bbs))∧Hid (∀i,At A i→w4.heap.size≤i)∧Hid (Upd Non w4 wx))
   case atStart=>exact ⟨0,0,none,rfl,by omega,rfl,rfl,ElO.none_,fun i hi=>(At.none_ hi).elim,Upd.refl⟩
   case round =>
    obtain ⟨h,c,A,Hg2,hh,rfl,rfl,HE,HAt,HUx⟩:=hrel;obtain ⟨wx,rfl⟩:∃x:World,x=wr:=⟨_,rfl⟩;have y16:=u_ x16 HUx.out (fun f=>f);by_cases hlt:h<G2
    ·have HOx:=HO.out.upd HUx.out (fun _ _ f=>f);have HSL:=h_ HOx.sl;have hzl:(initZ r).length=n:=by have:=HO.out.len;rw [b8s_len] at this;omega
     have HB2:Hid ((b8s (initZ r)).length=n * 1):=by show _=_;rw [b8s_len,hzl];omega
     have HB1:=h_ (b8s_one (initZ r));have HZ:=h_ hzl;obtain ⟨hEL,cs,hoE,hcE⟩:=HE.out;have HHL:=h_ hEL;have hAx:∀i,At A i→i<wx.heap.size:=fun i hi=>hoE.lt hi
     clear HOx hzl hEL
     go_wp2_with (at_builtin;refine wpList_app rfl rfl T_u8s rfl Own.none_ rfl HSL.out HB2.out HB1.out (by simp only [maxLen];omega) (by omega) ?_)
     intro A8 c8 w8 ho8 hu8 hat8;have hn0:0<n:=by have:=HS2.out;omega
     obtain ⟨q,rfl⟩:=ho8.some_ (by omega)
     have hqx:wx.heap.size≤q:=by
      rcases hat8 q (At.some_.2 rfl) with z | z
      ·exact absurd z At.none_
      ·omega
     have u8':Upd Non wx w8:=hu8.mono (fun _ _ z=>(At.none_ z).elim);have z16:=u_ y16 u8' (fun f=>f);have HU8:=h_ u8';have ho8':Own w8 5 1 (some ⟨q,0,none⟩) n c8 (b8s (initZ r)):=by simpa using ho8
     have HO8:=h_ ho8';have HW0:Hid (w.heap.size≤wx.heap.size):=by show _≤_;have h1:=HUW.out.size;have h2:=HUx.out.size;omega
     have HUw8:Hid (Upd Non w w8):=HUW.out.then_non (HUx.out.then_non u8');clear hu8 hat8 ho8 ho8' u8' HSL HB2 HB1;go_wp2_with fail
     go_loopg [9,10,76] gn (fun gg _ _ iv w2=>∃i:Nat,Hid (gg=gn - i)∧i≤gn∧iv=.int .i64 i∧Hid (Own w2 5 1 (some ⟨q,0,none⟩) n c8 (b8s (setG h.testBit ((gposR r).take i) 0 (initZ r))))∧Hid (Upd (·=q) w8 w2))
     case atStart=>exact ⟨0,rfl,by omega,rfl,by rw [List.take_zero];exact HO8.out,Upd.refl⟩
     case round =>
      obtain ⟨i,Hg3,hi,rfl,HO9,HU9⟩:=hrel;obtain ⟨w2,rfl⟩:∃x:World,x=wr:=⟨_,rfl⟩;have hw2q:∀k,k<w.heap.size→¬k=q:=fun k hk e=>by have:=HW0.out;omega
      by_cases hil:i<gn
      ·have hig:i<gs.length:=by rw [Hgn.out];exact hil
       have hip:i<(gposR r).length:=by rw [gposR_len,←HGL.out];exact hil
       have hUw:Upd (·=q) w w2:=(HUw8.out.mono (fun _ _ f=>f.elim)).trans HU9.out (fun _ _ z=>z);obtain ⟨cb,co,eC,_,_,hcc⟩:=(HGS.out.upd ((HUx.out.then_non HU8.out).mono (T:=(·=q)) (fun _ _ f=>f.elim) |>.trans HU9.out (fun _ _ z=>z)) (fun k _ hk=>hw2q k hk)).at_ (k:=i) (by rw [List.length_map];exact hig)
       rw [List.getElem_map] at hcc;have hu42:Upd (·=q) w4 w2:=((HUx.out.then_non HU8.out).mono (T:=(·=q)) (fun _ _ f=>f.elim)).trans HU9.out (fun _ _ z=>z);have h4x:=HUx.out.size;obtain ⟨v,imm,iv,KK,CC,hxb⟩:=((HGX.out.upd hu42 (fun k cs hb hk=>by have:=hb.lt;omega)).2 i hig hip).blk;have y6:=hxb.cell 6;have hlt2:=gposR_lt _ (List.getElem_mem hip);have hst:=setG_snoc h.testBit (gposR r) (initZ r) hip;generalize (gposR r)[i]=qq at *;generalize gs[i]=y at *;obtain ⟨op,at_⟩:=qq;have HST2:=h_ hst;have hat:at_+1<n:=by rw [←Hn.out];exact hlt2
       have hb8:=bit_u8 (h:Int) i (by omega);rw [uW_small (by omega)] at hb8;obtain ⟨rb,Hrb⟩:=nm (h.testBit i);rw [Hrb.out] at hb8 HST2
       have HO10:Hid (Own (w2.setCell ⟨q,at_,none⟩ (b8 rb)) 5 1 (some ⟨q,0,none⟩) n c8 (b8s (setG h.testBit ((gposR r).take (i+1)) 0 (initZ r)))):=by
        show Own _ _ _ _ _ _ _;rw [HST2.out,←b8s_set];exact HO9.out.set_ _ _
       have hc9:∃v,w2.cell? ⟨q,at_,none⟩=some v:=⟨_,HO9.out.cell_ (i:=at_) (by rw [b8s_len,setG_len,HZ.out];omega)⟩;obtain ⟨v9,hc9⟩:=hc9;have hf9:=HO9.out.frozen_ at_;have ai0:(0:Int)≤(at_:Int):=by omega
       have ai1:(at_:Int)<(n:Int):=by omega
       have i0:(0:Int)≤(i:Int):=by omega
       have ign:(i:Int)<(gn:Int):=by omega
       have i64:i<64:=by omega
       subst eC;unfold pp at hcc;clear hst hlt2 hxb hUw hu42 hig hip hat;go_wp2_with fail
       go_roundg (gn - (i+1))
       case measure=>rw [Hg3.out];omega
       case rel=>exact ⟨i+1,rfl,by omega,by go_num,HO10.out,HU9.out.trans (updCell w2 q at_ (b8 rb)) (fun _ _ z=>z)⟩
      ·obtain rfl:gn=i:=by omega
       have hfull:(gposR r).take gn=gposR r:=List.take_of_length_le (by rw [gposR_len,HGL.out];exact Nat.le_refl _);rw [hfull,setG_init] at HO9;have hu92:Upd Non wx w2:=(HU8.out.mono (T:=(·=q)) (fun _ _ f=>f.elim)).trans HU9.out (fun _ _ z=>z) |>.mono (fun k hk e=>by omega);have HU92:=h_ hu92;have hoE2:=hoE.upd hu92 (fun _ _ f=>f);have hqA:¬At A q:=fun z=>by have:=hAx q z;omega
       have hil:(initF h.testBit r).length=n:=by rw [initF_len,Hn.out]
       have HER:=h_ (fun (w':World) (u:Upd Non w2 w')=>elRow_of (K:=fun i=>U8B w' i∧¬At A i) (HO9.out.upd u (fun _ _ f=>f)) hil ⟨own_u8 (HO9.out.upd u (fun _ _ f=>f)),hqA⟩)
       have HCE:=h_ hcE;have hG0:h<64:=by omega
       clear hfull hu92 hil hcE hoE HO9
       go_wp2_with (at_builtin;refine wpList_app rfl rfl T_rows rfl (hoE2.alloc _) rfl (Sl.new _ _ _) rfl (by simp [Value.oneCell']) (by simp only [maxLen];omega) (by omega) ?_;intro A9 c9 w9 ho9 hu9 hat9)
       go_roundg (G2 - (h+1))
       case measure=>rw [Hg2.out];omega
       case rel =>
        have uA:=(HU92.out.alloc (.cells #[.slice (some ⟨q,0,none⟩) n c8] 84));have hE3:=ElO.snoc8 elRow (by decide) HHL.out HCE.out uA (hoE2.alloc _) (HER.out _ (Upd.refl.alloc (.cells #[.slice (some ⟨q,0,none⟩) n c8] 84))) ho9 hu9 hat9
        have htk:(initsF r).take (h+1)=(initsF r).take h++[initF h.testBit r]:=by
         have hl:h<(initsF r).length:=by unfold initsF;rw [List.length_map,List.length_range,←HGL.out,HG2.out];exact hlt
         rw [List.take_succ_eq_append_getElem hl]
         congr 2
         simp [initsF]
        refine ⟨h+1,c9,A9,rfl,by omega,by go_num,rfl,by rw [htk,List.map_append];exact hE3,fun i hi=>?_,?_⟩
        ·rcases hat9 i hi with z | z
         ·exact HAt.out i z
         ·have h1:=uA.size;have h2:=HUx.out.size;omega
        ·exact (HUx.out.then_non uA).trans hu9 (fun i hi z=>by have:=HAt.out i z;omega)
    ·obtain rfl:G2=h:=by omega
     have hfull:(initsF r).take G2=initsF r:=List.take_of_length_le (by unfold initsF;rw [List.length_map,List.length_range,←HGL.out,HG2.out];exact Nat.le_refl _)
     rw [hfull] at HE;have hE2:2 ^ gR r=G2:=by rw [←HGL.out];exact HG2.out
     go_wp2_with fail
     go_ret;exact ⟨A,c,by rw [hE2];rfl,by rw [hE2];exact HE.out,fun i hi=>by have h1:=HAt.out i hi;have h2:=HUW.out.size;omega,HUW.out.then_non HUx.out⟩
end Go.Proofs.YtifhejahbbnkiaaGreat
