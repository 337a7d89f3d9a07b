/-
  Lemmas and walks that the claim rests on, part 11 (packed by a program).
-/
import Derived.Test.YtifhejahbbnkiaaGreatD7
import Derived.Test.YtifhejahbbnkiaaGreatD5
import Derived.Test.YtifhejahbbnkiaaGreatD2
import Derived.Test.YtifhejahbbnkiaaGreatD1
import Derived.Test.YtifhejahbbnkiaaGreatD8
import Derived.Test.YtifhejahbbnkiaaGreatD3
import Derived.Test.YtifhejahbbnkiaaGreatD6
import Derived.Test.YtifhejahbbnkiaaGreatD10
import Derived.Test.YtifhejahbbnkiaaGreatRows
import Derived.ProofKit
import Derived.OpenShut
import Derived.SizedLaws
import Derived.Deep.Slices
namespace Go.Proofs.YtifhejahbbnkiaaGreat
open Go.RowKit
def VoP (p:Pt):Prop:=∀q∈nodes p,0<q.v→q.op=0
theorem VoP.kid {p k:Pt} (h:VoP p) (hk:k∈p.kids):VoP k:=fun q hq=>h q (by
 cases p
 simp only [nodes,List.mem_cons]
 exact .inr (nodesL_mem hk hq))
theorem vo_of_vPt (p:Pt):∀(s m:Int) (vs:List Int),(vPt p s m vs).1=true→VoP p:=by
 induction p using Pt.ind with
 | h p ih =>
  intro s m vs h q hq hv;by_cases hp:p.v=0
  ·rw [vPt_op hp] at h
   split at h
   ·have hl:∀(ks:List Pt) (ss:List Int) (us:List Int),us.length=vs.length→(∀k∈ks,k∈p.kids)→(vKids ks ss m us).1=true→∀k∈ks,VoP k:=by
     intro ks
     induction ks with
     | nil=>intro ss us _ _ _ k hk;simp at hk
     | cons k ks ihk =>
      intro ss us hu hm hk;simp only [vKids] at hk
      split at hk
      ·rename_i hk1;intro k' hk';rcases List.mem_cons.1 hk' with rfl | hk'
       ·exact ih _ (hm _ (by simp)) _ _ _ hk1
       ·exact ihk _ _ (by rw [vPt_len];exact hu) (fun x hx=>hm x (by simp [hx])) hk k' hk'
      ·exact absurd hk (by simp)
    have hk:=hl _ _ _ rfl (fun k hk=>hk) h
    have hn:q=p∨q∈nodesL p.kids:=by
     obtain ⟨v,op,imm,iv,kids⟩:=p;rw [nodes,List.mem_cons] at hq;exact hq
    rcases hn with rfl | hn
    ·omega
    ·have : ∀l:List Pt,(∀k∈l,k∈p.kids)→q∈nodesL l→q.op=0:=by
      intro l
      induction l with
      | nil=>intro _ hq;simp [nodesL] at hq
      | cons k ks ihl =>
       intro hk2 hq;rw [nodesL,List.mem_append] at hq;rcases hq with hq | hq
       ·exact hk k (hk2 k (by simp)) q hq hv
       ·exact ihl (fun x hx=>hk2 x (by simp [hx])) hq
     exact this _ (fun _ h=>h) hn
   ·simp at h
  ·rw [vPt_var hp] at h
   split at h
   ·simp at h
   ·rename_i hc;have h0:p.kids=[]:=List.length_eq_zero_iff.1 (by omega)
    have hn:q=p∨q∈nodesL p.kids:=by
     obtain ⟨v,op,imm,iv,kids⟩:=p;rw [nodes,List.mem_cons] at hq;exact hq
    rw [h0] at hn;rcases hn with rfl | hn
    ·omega
    ·simp [nodesL] at hn
theorem applF_vo {r:Rl} (h:implF r=true):VoP r.l∧VoP r.r:=by
 unfold implF at h;simp only [Bool.and_eq_true,decide_eq_true_eq] at h;obtain ⟨⟨⟨⟨⟨_,hl⟩,hr⟩,_⟩,_⟩,_⟩:=h;unfold validF at hl hr;rw [Bool.and_eq_true] at hl hr;exact ⟨vo_of_vPt _ _ _ _ hl.2,vo_of_vPt _ _ _ _ hr.2⟩
theorem gL_snoc (q:Pt):∀l:List Pt,gL (l++[q])=gL l+gN q
 | []=>by simp [gL]
 | x::l=>by rw [List.cons_append,gL,gL,gL_snoc q l];omega
def spR (p:Pt):Ending:=.returned (.tuple #[.int .i64 (if supF p=true then (gN p:Int) else 0),.bool (supF p)])
theorem spR_no {p:Pt} (h:supF p=false):spR p=.returned (.tuple #[.int .i64 0,.bool false]):=by unfold spR;rw [h];rfl
theorem spR_yes {p:Pt} {n:Nat} (h:supF p=true) (hn:n=gN p):spR p=.returned (.tuple #[.int .i64 (n:Int),.bool true]):=by unfold spR;rw [h,hn];rfl
theorem rGuesses_c (op:Int) (w:World):Calls Tryz.prog 123 #[.int .i64 op] w fun e w'=>e=.returned (.int .i64 ((isG op).toNat:Int))∧w=w':=by
 by_cases h:15≤op∧op≤19∨op=22
 ·have hg:isG op=true:=dT_ h;rw [hg];rcases (show op=15∨op=16∨op=17∨op=18∨op=19∨op=22 by omega) with rfl | rfl | rfl | rfl | rfl | rfl <;>
  ·go_enter Tryz.func123,Tryz.ntmps123;go_wp2_with fail
   go_ret;exact ⟨rfl,rfl⟩
 ·have hg:isG op=false:=dF_ h;rw [hg];have h22:(op==22)=false:=beq_eq_false_iff_ne.2 (by omega);by_cases h15:15≤op
  ·have t1:decide (op ≥ 15)=true:=dT_ h15;have t2:decide (op≤19)=false:=dF_ (by omega);clear h h15;go_enter Tryz.func123,Tryz.ntmps123;go_wp2_with fail
   go_ret;exact ⟨rfl,rfl⟩
  ·have t1:decide (op ≥ 15)=false:=dF_ h15;clear h h15;go_enter Tryz.func123,Tryz.ntmps123;go_wp2_with fail
   go_ret;exact ⟨rfl,rfl⟩
set_option maxRecDepth 100000 in
set_option maxHeartbeats 16000000 in
theorem rSupported_c (m:Nat) (p:Pt):∀(w:World) (F:Nat→Prop) (KA:Option Addr) (kc:Nat),PtK w F p KA kc→WfP m p→VoP p→p.size≤1000000000000 →
  Calls Tryz.prog 61 #[pv p KA kc] w fun e w'=>e=spR p∧Upd Non w w':=by
 induction p using Pt.ind with
 | h p ih =>
  intro w F KA kc hp hw hvo hs;rw [WfP.iff] at hw;have hle:=Pt.len_le p.kids;have hse:=Pt.size_eq p;have hn12:p.kids.length≤1000000000000:=by omega
  have HI:=h_ ih;obtain ⟨W,HW⟩:=nm (w.alloc (.cells #[.int .i64 p.v,.int .i64 p.op,.int .i64 p.imm,.int .i64 p.iv,.slice KA p.kids.length kc] 38));have hU:Upd Non w W:=by rw [←HW.out];exact Upd.refl.alloc _
  have hb:Blk W w.heap.size 38 #[.int .i64 p.v,.int .i64 p.op,.int .i64 p.imm,.int .i64 p.iv,.slice KA p.kids.length kc]:=by rw [←HW.out];exact Blk.new _ _ _
  have e0:=HW.out;have c0:=hb.cell 0;have c1:=hb.cell 1;have c4:=hb.cell 4;have hpW:=PtK.upd hU (fun _ _ _ f=>f) p KA kc hp;have HS:=h_ hse;have HWF:=h_ hw.2.2.2;have HAR:=h_ hw.2.2.1;have HVO:=h_ hvo;have hv0:=hw.1;have hgl:gL p.kids≤1000000000000:=by have:=gL_le p.kids (fun k _=>gN_le k);omega
  have HGL:=h_ hgl;unfold pv;clear ih hse hp hw hle hvo hgl;by_cases hv:0<p.v
  ·have t0:decide (p.v > 0)=true:=dT_ hv;have HR:Hid (supF p=true):=supF_var hv;have HG:Hid (0=gN p):=by show _=_;rw [gN_iff,if_pos hv]
   go_enter Tryz.func61,Tryz.ntmps61;go_wp2_with fail
   go_ret2;exact ⟨(spR_yes HR.out HG.out).symm,hU⟩
  ·have t0:decide (p.v > 0)=false:=dF_ hv;have HR:Hid (supF p=(supO p.op p.kids&&p.kids.all supF)):=supF_op hv;have HGN:Hid (gN p=(isG p.op).toNat+gL p.kids):=by show _=_;rw [gN_iff,if_neg hv]
   have har:Hid (p.kids.length=(oSortsF p.op).1.length):=HAR.out (by omega);clear HAR hv;by_cases h1:p.op=1
   ·have hk0:p.kids=[]:=List.length_eq_zero_iff.1 (by rw [har.out,h1];rfl);have HR:Hid (supF p=true):=by show _=_;rw [HR.out,hk0,h1];rfl
    have HG:Hid (0=gN p):=by show _=_;rw [HGN.out,hk0,h1];rfl
    rw [h1] at c1 e0;rw [h1];clear hk0 har h1;go_enter Tryz.func61,Tryz.ntmps61;go_wp2_with fail
    go_ret2;exact ⟨(spR_yes HR.out HG.out).symm,hU⟩
   ·by_cases hop:p.op=4∨p.op=5∨p.op=9∨p.op=10∨p.op=11∨p.op=20∨p.op=21∨p.op=15∨p.op=16∨p.op=17∨p.op=18∨p.op=19∨p.op=22
    ·have HR:Hid (supF p=p.kids.all supF):=by
      show _=_;rw [HR.out,show supO p.op p.kids=true by unfold supO;exact dT_ (by omega)];rfl
     obtain ⟨n,Hn⟩:=nm p.kids.length;rw [Hn.out] at c4 e0 hn12;obtain ⟨op,Hop⟩:=nm p.op;rw [Hop.out] at c1 e0 hop HGN;rw [Hn.out,Hop.out];have CG:=h_ (rGuesses_c op);obtain ⟨gi,Hgi⟩:=nm (isG op).toNat;rw [Hgi.out] at HGN CG;have hgi:gi≤1:=by rw [←Hgi.out];cases isG op <;> simp
     clear har Hop h1 Hgi;go_enter Tryz.func61,Tryz.ntmps61
     go_upto_block 0 with fail
     go_cut [] (fun wx=>wx=W)
     case first =>
      rcases hop with h | h | h | h | h | h | h | h | h | h | h | h | h
      all_goals
       subst h;go_wp2_with fail
       go_meet
       case rel=>rfl
     case rest =>
      rw [hcut];clear hcut;go_wp2_with fail
      refine (CG.out _).mono ?_;rintro e wz ⟨rfl,hwz⟩;subst hwz;go_wp2_with fail
      go_loopg [4,5] n (fun g s4 i wr=>∃k s:Nat,Hid (g=n - k)∧k≤n∧s4=.int .i64 (s:Int)∧i=.int .i64 k∧Hid ((p.kids.take k).all supF=true)∧Hid (s=gi+gL (p.kids.take k))∧Upd Non W wr)
      case atStart=>exact ⟨0,gi,rfl,by omega,rfl,rfl,rfl,by rw [List.take_zero];rfl,Upd.refl⟩
      case round =>
       obtain ⟨k,s,Hg,hk,rfl,rfl,HT,HSum,hu⟩:=hrel
       have hsb:s≤1000000000001:=by
        have h1:=HSum.out
        have h2:gL (p.kids.take k)≤gL p.kids:=by
         conv=>rhs;rw [←List.take_append_drop k p.kids]
         generalize p.kids.take k=l1;generalize p.kids.drop k=l2
         induction l1 with
         | nil=>exact Nat.zero_le _
         | cons x l ih=>rw [List.cons_append,gL,gL];omega
        have h3:=HGL.out;omega
       have c4r:=u_ c4 hu (fun f=>f);by_cases hlt:k<n
       ·have hkl:k<p.kids.length:=by rw [Hn.out];exact hlt
        obtain ⟨b,o,eKA,hF,hbw,KB,kd,h0,h1,h2,h3,h4,h5⟩:=(PtK.upd hu (fun _ _ _ f=>f) p _ kc hpW).at_ hkl
        first | subst eKA | (injection eKA with eKA;injection eKA with eK1 eK2;subst eK1 eK2)
        have hks:p.kids[k].size≤1000000000000:=by have:=Pt.kids_lt (List.getElem_mem hkl);omega
        have hmem:=List.getElem_mem hkl;have hgq:=gN_le p.kids[k];have HT2:Hid (supF p.kids[k]=true→(p.kids.take (k+1)).all supF=true):=fun e=>by rw [List.take_succ_eq_append_getElem hkl,List.all_append,HT.out];simp [e]
        have HF2:Hid (supF p.kids[k]=false→p.kids.all supF=false):=fun e=>by
         rw [Bool.eq_false_iff];intro q;rw [List.all_eq_true] at q;rw [q _ hmem] at e;cases e
        have HS2:Hid (s+gN p.kids[k]=gi+gL (p.kids.take (k+1))):=by show _=_;rw [List.take_succ_eq_append_getElem hkl,gL_snoc,HSum.out];omega
        have hk0:(0:Int)≤(k:Int):=by omega
        have hkn:(k:Int)<(n:Int):=by omega
        generalize p.kids[k]=q at *;have C1:=h_ (HI.out q hmem wr F KB kd h5 (HWF.out q hmem) (HVO.out.kid hmem) hks);obtain ⟨gq,Hgq⟩:=nm (gN q);rw [Hgq.out] at HS2 hgq;have hgqb:gq≤1000000000000:=by omega
        unfold pv at C1;clear h5 hmem hgq hks
        cases hsq:supF q with
        | false =>
         rw [spR_no hsq] at C1;have HF3:=h_ (HF2.out hsq);clear hsq HT2 HF2;go_wp2_with fail
         refine C1.out.mono ?_;rintro e w4 ⟨rfl,hu4⟩;go_wp2_with fail
         go_ret2;exact ⟨(spR_no (by rw [HR.out,HF3.out])).symm,hU.then_non (hu.then_non hu4)⟩
        | true =>
         rw [spR_yes hsq Hgq.out.symm] at C1;have HT3:=h_ (HT2.out hsq);clear hsq HT2 HF2;go_wp2_with fail
         refine C1.out.mono ?_;rintro e w4 ⟨rfl,hu4⟩;go_wp2_with fail
         go_roundg (n - (k+1))
         case measure=>rw [Hg.out];omega
         case rel=>exact ⟨k+1,s+gq,rfl,by omega,by go_num,by go_num,HT3.out,HS2.out,hu.then_non hu4⟩
       ·obtain rfl:n=k:=by omega
        have HA:Hid (p.kids.all supF=true):=by have:=HT.out;rw [List.take_of_length_le (by rw [Hn.out];omega)] at this;exact this
        have HSE:Hid (s=gN p):=by show _=_;rw [HSum.out,List.take_of_length_le (by rw [Hn.out];omega),HGN.out]
        go_wp2_with fail
        go_ret2;exact ⟨(spR_yes (by rw [HR.out,HA.out]) HSE.out).symm,hU.then_non hu⟩
    ·by_cases h12:p.op=12
     ·have hlen:Hid (p.kids.length=2):=by have:=har.out;rw [h12] at this;exact this
      obtain ⟨k0,k1,ek⟩:∃k0 k1,p.kids=[k0,k1]:=by
       match p.kids,hlen.out with
       | [x,y],_=>exact ⟨x,y,rfl⟩
      have e1:supO 12 [k0,k1]=(decide (k1.op=1)&&decide ((k1.imm % 64).toNat≤8)):=by
       unfold supO;rw [Bool.eq_iff_iff];simp [kid]
      have HSO:Hid (supO p.op p.kids=(decide (k1.op=1)&&decide ((k1.imm % 64).toNat≤8))):=by show _=_;rw [h12,ek,e1]
      have hA:=hpW.at_ (i:=1) (by rw [hlen.out];decide);obtain ⟨b',o',eb,_,_,KB',kd',g0,g1,g2,g3,g4,g5⟩:=hA;have q1:p.kids[1]'(by rw [hlen.out];decide)=k1:=by simp [ek]
      rw [q1] at g0 g1 g2 g3 g4 g5
      have hv1:k1.op=1→¬0<k1.v:=fun e q=>by
       have:=HVO.out k1 (by
        obtain ⟨v,op,imm,iv,kids⟩:=p;rw [nodes,List.mem_cons]
        exact .inr (nodesL_mem (show k1∈kids by rw [show kids=[k0,k1] from ek];simp) (nodes_self k1))) q
       omega
      have ha:=and63 k1.imm;obtain ⟨mm,Hm⟩:=nm (k1.imm % 64).toNat;rw [Hm.out] at ha HSO;rw [h12] at c1 e0 HGN HR HSO;obtain ⟨n,Hn⟩:=nm p.kids.length;have hn2:=hlen.out;rw [Hn.out] at c4 e0 hn12 hn2;rw [Hn.out,h12];have hn2':(1:Int)<(n:Int):=by omega
      clear g5 har q1 hop g3 g4 h12 h1 Hm hn2 e1;by_cases h1:k1.op=1
      ·have hz1:k1.v=0:=by
        have h2:=hv1 h1;have h3:=((WfP.iff m k1).1 (HWF.out k1 (by rw [ek];simp))).1;omega
       rw [hz1] at g0;rw [h1] at g1;by_cases h8:mm≤8
       ·have t8:decide ((mm:Int) > 8)=false:=dF_ (by omega);have HR:Hid (supF p=p.kids.all supF):=by show _=_;rw [HR.out,HSO.out,dT_ h1,dT_ h8];rfl
        have CG:=h_ (rGuesses_c 12);obtain ⟨gi,Hgi⟩:=nm (isG 12).toNat;rw [Hgi.out] at HGN CG;have hgi:gi≤1:=by rw [←Hgi.out];decide
        clear h1 hv1 h8 hz1 ek;subst eb;go_enter Tryz.func61,Tryz.ntmps61;go_wp2_with fail
        refine (CG.out _).mono ?_;rintro e wz ⟨rfl,hwz⟩;subst hwz;clear g0 g1 g2;go_wp2_with fail
        go_loopg [4,5] n (fun g s4 i wr=>∃k s:Nat,Hid (g=n - k)∧k≤n∧s4=.int .i64 (s:Int)∧i=.int .i64 k∧Hid ((p.kids.take k).all supF=true)∧Hid (s=gi+gL (p.kids.take k))∧Upd Non W wr)
        case atStart=>exact ⟨0,gi,rfl,by omega,rfl,rfl,rfl,by rw [List.take_zero];rfl,Upd.refl⟩
        case round =>
         obtain ⟨k,s,Hg,hk,rfl,rfl,HT,HSum,hu⟩:=hrel
         have hsb:s≤1000000000001:=by
          have h1:=HSum.out
          have h2:gL (p.kids.take k)≤gL p.kids:=by
           conv=>rhs;rw [←List.take_append_drop k p.kids]
           generalize p.kids.take k=l1;generalize p.kids.drop k=l2
           induction l1 with
           | nil=>exact Nat.zero_le _
           | cons x l ih=>rw [List.cons_append,gL,gL];omega
          have h3:=HGL.out;omega
         have c4r:=u_ c4 hu (fun f=>f);by_cases hlt:k<n
         ·have hkl:k<p.kids.length:=by rw [Hn.out];exact hlt
          obtain ⟨b,o,eKA,hF,hbw,KB,kd,h0,h1,h2,h3,h4,h5⟩:=(PtK.upd hu (fun _ _ _ f=>f) p _ kc hpW).at_ hkl
          first | subst eKA | (injection eKA with eKA;injection eKA with eK1 eK2;subst eK1 eK2)
          have hks:p.kids[k].size≤1000000000000:=by have:=Pt.kids_lt (List.getElem_mem hkl);omega
          have hmem:=List.getElem_mem hkl;have hgq:=gN_le p.kids[k];have HT2:Hid (supF p.kids[k]=true→(p.kids.take (k+1)).all supF=true):=fun e=>by rw [List.take_succ_eq_append_getElem hkl,List.all_append,HT.out];simp [e]
          have HF2:Hid (supF p.kids[k]=false→p.kids.all supF=false):=fun e=>by
           rw [Bool.eq_false_iff];intro q;rw [List.all_eq_true] at q;rw [q _ hmem] at e;cases e
          have HS2:Hid (s+gN p.kids[k]=gi+gL (p.kids.take (k+1))):=by show _=_;rw [List.take_succ_eq_append_getElem hkl,gL_snoc,HSum.out];omega
          have hk0:(0:Int)≤(k:Int):=by omega
          have hkn:(k:Int)<(n:Int):=by omega
          generalize p.kids[k]=q at *;have C1:=h_ (HI.out q hmem wr F KB kd h5 (HWF.out q hmem) (HVO.out.kid hmem) hks);obtain ⟨gq,Hgq⟩:=nm (gN q);rw [Hgq.out] at HS2 hgq;have hgqb:gq≤1000000000000:=by omega
          unfold pv at C1;clear h5 hmem hgq hks
          cases hsq:supF q with
          | false =>
           rw [spR_no hsq] at C1;have HF3:=h_ (HF2.out hsq);clear hsq HT2 HF2;go_wp2_with fail
           refine C1.out.mono ?_;rintro e w4 ⟨rfl,hu4⟩;go_wp2_with fail
           go_ret2;exact ⟨(spR_no (by rw [HR.out,HF3.out])).symm,hU.then_non (hu.then_non hu4)⟩
          | true =>
           rw [spR_yes hsq Hgq.out.symm] at C1;have HT3:=h_ (HT2.out hsq);clear hsq HT2 HF2;go_wp2_with fail
           refine C1.out.mono ?_;rintro e w4 ⟨rfl,hu4⟩;go_wp2_with fail
           go_roundg (n - (k+1))
           case measure=>rw [Hg.out];omega
           case rel=>exact ⟨k+1,s+gq,rfl,by omega,by go_num,by go_num,HT3.out,HS2.out,hu.then_non hu4⟩
         ·obtain rfl:n=k:=by omega
          have HA:Hid (p.kids.all supF=true):=by have:=HT.out;rw [List.take_of_length_le (by rw [Hn.out];omega)] at this;exact this
          have HSE:Hid (s=gN p):=by show _=_;rw [HSum.out,List.take_of_length_le (by rw [Hn.out];omega),HGN.out]
          go_wp2_with fail
          go_ret2;exact ⟨(spR_yes (by rw [HR.out,HA.out]) HSE.out).symm,hU.then_non hu⟩
       ·have t8:decide ((mm:Int) > 8)=true:=dT_ (by omega);have HSO2:Hid (supO 12 p.kids=false):=by show _=_;rw [HSO.out,dT_ h1,dF_ h8];rfl
        clear h1 hv1 h8 hz1 ek;subst eb;have HF:Hid (supF p=false):=by show _=_;rw [HR.out,HSO2.out];rfl
        go_enter Tryz.func61,Tryz.ntmps61;go_wp2_with fail
        go_ret2;exact ⟨(spR_no HF.out).symm,hU⟩
      ·have t1:(k1.op==1)=false:=by simpa using h1
       obtain ⟨o1,Ho1⟩:=nm k1.op;have HSO2:Hid (supO 12 p.kids=false):=by show _=_;rw [HSO.out,dF_ h1];rfl
       rw [Ho1.out] at g1 t1 h1;clear hv1 ek;subst eb;have HF:Hid (supF p=false):=by show _=_;rw [HR.out,HSO2.out];rfl
       go_enter Tryz.func61,Tryz.ntmps61;go_wp2_with fail
       go_ret2;exact ⟨(spR_no HF.out).symm,hU⟩
     ·have HR:Hid (supF p=false):=by
       show _=_;rw [HR.out,show supO p.op p.kids=false by unfold supO;exact dF_ (by omega)];rfl
      clear har hn12;obtain ⟨op,Hop⟩:=nm p.op;rw [Hop.out] at c1 e0 hop h12 h1;rw [Hop.out];clear Hop;obtain ⟨a2,a3,a4,a5,a6,a7,a8,a9,a10,a11,a12,a13,a14⟩:(op==4)=false∧(op==5)=false∧(op==9)=false∧(op==10)=false∧(op==11)=false∧(op==20)=false∧(op==21)=false∧(op==15)=false∧(op==16)=false∧(op==17)=false∧(op==18)=false∧(op==19)=false∧(op==22)=false:=by simp;omega
      have a1:(op==1)=false:=by simpa using h1
      have a15:(op==12)=false:=by simpa using h12
      clear hop h12 h1;go_enter Tryz.func61,Tryz.ntmps61;go_wp2_with fail
      go_ret2;exact ⟨(spR_no HR.out).symm,hU⟩
def BBlk (w:World) (g:Nat) (bs:List Bool):Prop:=Blk w g 4 (bs.map Value.bool).toArray
theorem BBlk.cell {w:World} {g:Nat} {bs:List Bool} (h:BBlk w g bs) {i:Nat} (hi:i<bs.length):w.cell? ⟨g,i,none⟩=some (.bool (bs.getD i false)):=by
 rw [Blk.cell h];simp [List.getD,hi]
theorem BBlk.set_ {w:World} {g:Nat} {bs:List Bool} (h:BBlk w g bs) (i:Nat) (x:Bool):BBlk (w.setCell ⟨g,i,none⟩ (.bool x)) g (bs.set i x):=by
 have:=Blk.set_ h i (.bool x);unfold BBlk;rw [show ((bs.set i x).map Value.bool).toArray=(bs.map Value.bool).toArray.setIfInBounds i (.bool x) by simp [List.map_set]];exact this
theorem BBlk.new (w:World) (n:Nat):BBlk (w.alloc (.cells (Array.replicate n (.bool false)) 4)) w.heap.size (List.replicate n false):=by
 unfold BBlk;rw [show ((List.replicate n false).map Value.bool).toArray=Array.replicate n (.bool false) by simp];exact Blk.new _ _ _
def mk1 (x:Int) (bs:List Bool):List Bool:=if 0<x∧x<(bs.length:Int) then bs.set x.toNat true else bs
theorem mk1_len (x:Int) (bs:List Bool):(mk1 x bs).length=bs.length:=by
 unfold mk1;split <;> simp
theorem markV_node (p:Pt) (bs:List Bool):markV (nodes p) bs=markV (nodesL p.kids) (mk1 p.v bs):=by rw [nodes_eq];rfl
theorem markI_node (p:Pt) (bs:List Bool):markI (nodes p) bs=markI (nodesL p.kids) (mk1 p.iv bs):=by rw [nodes_eq];rfl
theorem markV_len (l:List Pt):∀bs:List Bool,(markV l bs).length=bs.length:=by
 induction l with
 | nil=>intro bs;rfl
 | cons p l ih=>intro bs;show (markV l (mk1 p.v bs)).length=_;rw [ih,mk1_len]
theorem markI_len (l:List Pt):∀bs:List Bool,(markI l bs).length=bs.length:=by
 induction l with
 | nil=>intro bs;rfl
 | cons p l ih=>intro bs;show (markI l (mk1 p.iv bs)).length=_;rw [ih,mk1_len]
theorem markV_app (a b:List Pt) (bs:List Bool):markV (a++b) bs=markV b (markV a bs):=by unfold markV;rw [List.foldl_append]
theorem markI_app (a b:List Pt) (bs:List Bool):markI (a++b) bs=markI b (markI a bs):=by unfold markI;rw [List.foldl_append]
set_option maxRecDepth 100000 in
set_option maxHeartbeats 4000000 in
theorem r15occurring_c (p:Pt):∀(w:World) (F:Nat→Prop) (KA:Option Addr) (kc gv c gi d:Nat) (bs cs:List Bool),PtK w F p KA kc→¬F gv→¬F gi→gv≠gi→BBlk w gv bs→BBlk w gi cs→p.size≤1000000000000 →
  Calls Tryz.prog 89 #[pv p KA kc,.slice (some ⟨gv,0,none⟩) bs.length c,.slice (some ⟨gi,0,none⟩) cs.length d] w fun e w'=>e=.returned (.tuple #[])∧BBlk w' gv (markV (nodes p) bs)∧BBlk w' gi (markI (nodes p) cs)∧Upd (fun k=>k=gv∨k=gi) w w':=by
 induction p using Pt.ind with
 | h p ih =>
  intro w F KA kc gv c gi d bs cs hp hFv hFi hne hgv hgi hs;have HI:=h_ ih;obtain ⟨W,HW⟩:=nm (w.alloc (.cells #[.int .i64 p.v,.int .i64 p.op,.int .i64 p.imm,.int .i64 p.iv,.slice KA p.kids.length kc] 38));have hU:Upd Non w W:=by rw [←HW.out];exact Upd.refl.alloc _
  have hb:Blk W w.heap.size 38 #[.int .i64 p.v,.int .i64 p.op,.int .i64 p.imm,.int .i64 p.iv,.slice KA p.kids.length kc]:=by rw [←HW.out];exact Blk.new _ _ _
  have e0:=HW.out;have hvlt:gv<w.heap.size:=Blk.lt hgv;have hilt:gi<w.heap.size:=Blk.lt hgi;have hgv:BBlk W gv bs:=Blk.upd hgv hU (fun f=>f);have hgi:BBlk W gi cs:=Blk.upd hgi hU (fun f=>f);have hp:=PtK.upd hU (fun _ _ _ f=>f) p KA kc hp;have HZ:=h_ (fun (k:Pt) (h:k∈p.kids)=>Nat.le_trans (Nat.le_of_lt (Pt.kids_lt h)) hs);have hkl:p.kids.length≤1000000000000:=by have h1:=Pt.len_le p.kids;have h2:=Pt.size_eq p;omega
  rw [markV_node,markI_node];have c0:=hb.cell 0;have h2U:Upd (fun k=>k=gv∨k=gi) w W:=hU.mono (fun _ _ f=>f.elim);unfold pv;obtain ⟨v,Hv⟩:=nm p.v;obtain ⟨op,Hop⟩:=nm p.op;obtain ⟨imm,Him⟩:=nm p.imm;obtain ⟨iv,Hiv⟩:=nm p.iv;obtain ⟨k,Hk⟩:=nm p.kids.length;rw [Hv.out] at c0 e0 hb;rw [Hop.out] at e0 hb;rw [Him.out] at e0 hb;rw [Hiv.out] at e0 hb;rw [Hk.out] at e0 hb hkl;rw [Hv.out,Hop.out,Him.out,Hiv.out,Hk.out];obtain ⟨vn,Hvn⟩:=nm bs.length;obtain ⟨mn,Hmn⟩:=nm cs.length;rw [Hvn.out,Hmn.out];have hLV:=mk1_len v bs;have hLI:=mk1_len iv cs;obtain ⟨bs1,Hbs1⟩:=nm (mk1 v bs);obtain ⟨cs1,Hcs1⟩:=nm (mk1 iv cs);rw [Hvn.out,Hbs1.out] at hLV;rw [Hmn.out,Hcs1.out] at hLI;have HLV:=h_ hLV;have HLI:=h_ hLI;rw [Hbs1.out,Hcs1.out];clear ih hs hLV hLI;go_enter Tryz.func89,Tryz.ntmps89;obtain ⟨b1,f1⟩:∃b,decide (0<v)=b:=⟨_,rfl⟩;obtain ⟨b2,f2⟩:∃b,decide (v<(vn:Int))=b:=⟨_,rfl⟩;have F1:=h_ f1;have F2:=h_ f2
  go_upto_region 1 with fail
  go_cut [16] (fun t wx=>t=.bool (b1&&b2)∧wx=W)
  case first =>
   cases b1 with
   | false=>go_wp2_with fail;go_meet;exact ⟨rfl,rfl⟩
   | true=>cases b2 <;> (go_wp2_with fail;go_meet;exact ⟨rfl,rfl⟩)
  case rest =>
   obtain ⟨rfl,ew⟩:=hcut;obtain rfl:W=_:=ew.symm;clear f1 f2
   go_upto_if 16 with fail
   go_cut [] (fun wx=>BBlk wx gv bs1∧Upd (·=gv) W wx)
   case first =>
    cases hT:(b1&&b2) with
    | true =>
     have hb1:b1=true:=by revert hT;cases b1 <;> simp
     have hb2:b2=true:=by revert hT;cases b2 <;> simp
     have h1:0<v:=of_decide_eq_true (by rw [F1.out,hb1]);have h2:v<(vn:Int):=of_decide_eq_true (by rw [F2.out,hb2]);obtain ⟨j,rfl⟩:∃j:Nat,v=(j:Int):=Int.eq_ofNat_of_zero_le (by omega);have hj:j<bs.length:=by rw [Hvn.out];omega
     have hz:=BBlk.cell hgv hj;have hfr:=Blk.frozen hgv;have hE:bs.set j true=bs1:=by rw [←Hbs1.out];unfold mk1;rw [if_pos ⟨h1,by rw [Hvn.out];exact h2⟩];rfl
     obtain ⟨W2,HW2⟩:=nm (W.setCell ⟨gv,j,none⟩ (.bool true));have hgv2:BBlk W2 gv bs1:=by rw [←HW2.out,←hE];exact BBlk.set_ hgv j true
     have u2:Upd (·=gv) W W2:=by rw [←HW2.out];exact updCell _ _ _ _
     have e2:=HW2.out;have HE:=h_ hgv2;have hj2:j<vn:=by omega
     have hT2:=h_ hT;clear hE hgv2 hgv hb1 hb2 hT h1 h2;go_wp2_with fail
     go_meet
     case rel=>exact ⟨HE.out,u2⟩
    | false =>
     have hE:bs=bs1:=by
      rw [←Hbs1.out];unfold mk1;rw [if_neg];rw [Hvn.out];rintro ⟨h1,h2⟩;have a1:=F1.out;have a2:=F2.out;rw [dT_ h1] at a1;rw [dT_ h2] at a2;rw [←a1,←a2] at hT;cases hT
     have HE:=h_ hE;clear hE;go_wp2_with fail
     go_meet
     case rel=>exact ⟨by rw [←HE.out];exact hgv,Upd.refl⟩
   case rest =>
    obtain ⟨hgv1,u1⟩:=hcut;have hbc:=hb.upd u1 (by omega);have hgi1:BBlk wc gi cs:=Blk.upd hgi u1 (fun e=>hne e.symm);have hp1:=PtK.upd u1 (fun q _ hq e=>hFv (by rw [←e];exact hq)) p KA kc hp;have HU1:=h2U.trans u1 (fun q _ h=>.inl h);have hsc:=u1.size;have c0:=hbc.cell 0;have c3:=hbc.cell 3;have c4:=hbc.cell 4;obtain ⟨b3,f3⟩:∃b,decide (0<iv)=b:=⟨_,rfl⟩;obtain ⟨b4,f4⟩:∃b,decide (iv<(mn:Int))=b:=⟨_,rfl⟩;have F3:=h_ f3;have F4:=h_ f4;clear hb;obtain ⟨wd,rfl⟩:∃wd:World,wd=wc:=⟨_,rfl⟩
    go_upto_region 3 with fail
    go_cut [30] (fun t wx=>t=.bool (b3&&b4)∧wx=wd)
    case first =>
     cases b3 with
     | false=>go_wp2_with fail;go_meet;exact ⟨rfl,rfl⟩
     | true=>cases b4 <;> (go_wp2_with fail;go_meet;exact ⟨rfl,rfl⟩)
    case rest =>
     obtain ⟨rfl,ew⟩:=hcut;obtain rfl:wd=_:=ew.symm;clear f3 f4
     go_upto_if 30 with fail
     go_cut [] (fun wx=>BBlk wx gi cs1∧Upd (·=gi) wd wx)
     case first =>
      cases hT:(b3&&b4) with
      | true =>
       have hb1:b3=true:=by revert hT;cases b3 <;> simp
       have hb2:b4=true:=by revert hT;cases b4 <;> simp
       have h1:0<iv:=of_decide_eq_true (by rw [F3.out,hb1]);have h2:iv<(mn:Int):=of_decide_eq_true (by rw [F4.out,hb2]);obtain ⟨j,rfl⟩:∃j:Nat,iv=(j:Int):=Int.eq_ofNat_of_zero_le (by omega);have hj:j<cs.length:=by rw [Hmn.out];omega
       have hz:=BBlk.cell hgi1 hj;have hfr:=Blk.frozen hgi1;have hE:cs.set j true=cs1:=by rw [←Hcs1.out];unfold mk1;rw [if_pos ⟨h1,by rw [Hmn.out];exact h2⟩];rfl
       obtain ⟨W2,HW2⟩:=nm (wd.setCell ⟨gi,j,none⟩ (.bool true));have hgi2:BBlk W2 gi cs1:=by rw [←HW2.out,←hE];exact BBlk.set_ hgi1 j true
       have u2:Upd (·=gi) wd W2:=by rw [←HW2.out];exact updCell _ _ _ _
       have e2:=HW2.out;have HE:=h_ hgi2;have hj2:j<mn:=by omega
       have hT2:=h_ hT;clear hE hgi2 hb1 hb2 hT h1 h2;go_wp2_with fail
       go_meet
       case rel=>exact ⟨HE.out,u2⟩
      | false =>
       have hE:cs=cs1:=by
        rw [←Hcs1.out];unfold mk1;rw [if_neg];rw [Hmn.out];rintro ⟨h1,h2⟩;have a1:=F3.out;have a2:=F4.out;rw [dT_ h1] at a1;rw [dT_ h2] at a2;rw [←a1,←a2] at hT;cases hT
       have HE:=h_ hE;clear hE;go_wp2_with fail
       go_meet
       case rel=>exact ⟨by rw [←HE.out];exact hgi1,Upd.refl⟩
     case rest =>
      obtain ⟨W4,rfl⟩:∃W4:World,W4=wc:=⟨_,rfl⟩;obtain ⟨hgi2,u2⟩:=hcut;have hbc2:=hbc.upd u2 (by omega);have hgv2:BBlk W4 gv bs1:=Blk.upd hgv1 u2 hne;have hp4:=PtK.upd u2 (fun q _ hq e=>hFi (by rw [←e];exact hq)) p KA kc hp1;have HU4:=HU1.trans u2 (fun q _ h=>.inr h);have hs4:=u2.size;have c4:=hbc2.cell 4;have hgi2:=h_ hgi2;have hgv2:=h_ hgv2;clear hgv1 hgi1 hp1 c0 c3 hbc u1 hgv hgi;go_wp2_with fail
      go_loopg [6] k (fun g i wr=>∃q:Nat,Hid (g=k - q)∧q≤k∧i=.int .i64 q∧Hid (BBlk wr gv (markV (nodesL (p.kids.take q)) bs1))∧Hid (BBlk wr gi (markI (nodesL (p.kids.take q)) cs1))∧Upd (fun q=>q=gv∨q=gi) W4 wr)
      case atStart=>exact ⟨0,rfl,by omega,rfl,hgv2.out,hgi2.out,Upd.refl⟩
      case round =>
       obtain ⟨q,Hg,hq,rfl,HV,HM,hu⟩:=hrel;have d4:=(hbc2.upd hu (by omega)).cell 4;by_cases hlt:q<k
       ·have hql:q<p.kids.length:=by rw [Hk.out];exact hlt
        have hpr:=PtK.upd hu (fun q _ hq e=>by rcases e with rfl | rfl;exact hFv hq;exact hFi hq) p KA kc hp4;obtain ⟨b,o,rfl,hF,hbw,KB,kd,h0,h1,h2,h3,h4,h5⟩:=hpr.at_ hql;have HTK:Hid (p.kids.take (q+1)=p.kids.take q++[p.kids[q]]):=take_snoc' hql;have hmem:=List.getElem_mem hql;generalize p.kids[q]=t at *;have hts:=HZ.out t hmem;have C1:=h_ (HI.out t hmem wr F KB kd gv c gi d (markV (nodesL (p.kids.take q)) bs1) (markI (nodesL (p.kids.take q)) cs1) h5 hFv hFi hne HV.out HM.out hts)
        rw [markV_len,markI_len,HLV.out,HLI.out] at C1;unfold pv at C1;have HV2:Hid (markV (nodes t) (markV (nodesL (p.kids.take q)) bs1)=markV (nodesL (p.kids.take (q+1))) bs1):=by show _=_;rw [HTK.out,nodesL_snoc,markV_app]
        have HM2:Hid (markI (nodes t) (markI (nodesL (p.kids.take q)) cs1)=markI (nodesL (p.kids.take (q+1))) cs1):=by show _=_;rw [HTK.out,nodesL_snoc,markI_app]
        rw [HV2.out,HM2.out] at C1;clear h5 HV HM HTK hmem;go_wp2_with fail
        refine C1.out.mono ?_;rintro e w7 ⟨rfl,hv7,hm7,hu7⟩;have HV7:=h_ hv7;have HM7:=h_ hm7;have HU7:Upd (fun q=>q=gv∨q=gi) W4 w7:=hu.trans hu7 (fun _ _ h=>h);clear hv7 hm7 C1;go_wp2_with fail
        go_roundg (k - (q+1))
        case measure=>rw [Hg.out];omega
        case rel=>exact ⟨q+1,rfl,by omega,by go_num,HV7.out,HM7.out,HU7⟩
       ·obtain rfl:k=q:=by omega
        have HT:Hid (p.kids.take k=p.kids):=List.take_of_length_le (by rw [Hk.out];exact Nat.le_refl _);rw [HT.out] at HV HM;have HU:=HU4.trans hu (fun _ _ h=>h);go_wp2_with fail
        go_end0
        exact ⟨rfl,HV.out,HM.out,HU⟩
theorem isVal_lo {ss:List Int} {n:Int} (h:¬1≤n):isValF ss n=false:=dF_ (fun q=>h q.1)
theorem isVal_hi {ss:List Int} {n:Int} (h:¬n<ss.length):isValF ss n=false:=dF_ (fun q=>h q.2.1)
theorem isVal_at {ss:List Int} {j:Nat} (h:1≤(j:Int)) (g:(j:Int)<ss.length):isValF ss j=(ss.getD j 0==1):=by
 unfold isValF;rw [Bool.eq_iff_iff];simp only [Int.toNat_natCast,decide_eq_true_eq,beq_iff_eq];exact ⟨fun q=>q.2.2,fun q=>⟨h,g,q⟩⟩
set_option maxRecDepth 100000 in
set_option maxHeartbeats 4000000 in
theorem r15validCond_c (x:Cd) (ss:List Int) (m:Int) (A:Option Addr) (c:Nat) (F:Nat→Prop) (w:World) (hs:Ints w F A ss) :
  Calls Tryz.prog 90 #[.agg #[.int .i64 x.kind,.int .i64 x.a,.int .i64 x.b,.int .i64 x.n],.slice A ss.length c,.int .i64 m] w fun e w'=>e=.returned (.bool (condF x ss m))∧Upd Non w w':=by
 obtain ⟨k,a,b,n⟩:=x;dsimp only;obtain ⟨W,HW⟩:=nm (w.alloc (.cells #[.int .i64 k,.int .i64 a,.int .i64 b,.int .i64 n] 102));have U:Upd Non w W:=by rw [←HW.out];exact Upd.refl.alloc _
 have b1:Blk W w.heap.size 102 #[.int .i64 k,.int .i64 a,.int .i64 b,.int .i64 n]:=by rw [←HW.out];exact Blk.new _ _ _
 have e1:=HW.out;have hs:=hs.upd U (fun _ _ _ f=>f);have c0:=b1.cell 0;have c1:=b1.cell 1;have c2:=b1.cell 2;have c3:=b1.cell 3;have HVL:=h_ (fun (i:Int)=>@isVal_lo ss i);have HVH:=h_ (fun (i:Int)=>@isVal_hi ss i);have HVA:=h_ (fun (j:Nat)=>@isVal_at ss j);obtain ⟨l,Hl⟩:=nm ss.length;obtain ⟨R,HR⟩:=nm (condF ⟨k,a,b,n⟩ ss m);rw [HR.out,Hl.out];have HR1:Hid (R=condF ⟨k,a,b,n⟩ ss m):=HR.out.symm;unfold condF at HR1;dsimp only at HR1;obtain ⟨va,Hva⟩:=nm (isValF ss a);obtain ⟨vb,Hvb⟩:=nm (isValF ss b);rw [Hva.out,Hvb.out] at HR1;clear b1 HR;obtain ⟨tb,ftb⟩:∃t,(b==0)=t:=⟨_,rfl⟩;obtain ⟨tn,ftn⟩:∃t,(n==0)=t:=⟨_,rfl⟩;obtain ⟨tab,ftab⟩:∃t,(b != a)=t:=⟨_,rfl⟩;obtain ⟨tab2,ftab2⟩:∃t,(a != b)=t:=⟨_,rfl⟩;obtain ⟨b1,fb1⟩:∃t,decide (1≤b)=t:=⟨_,rfl⟩;obtain ⟨bm,fbm⟩:∃t,decide (b≤m)=t:=⟨_,rfl⟩;obtain ⟨a1,fa1⟩:∃t,decide (1≤a)=t:=⟨_,rfl⟩;obtain ⟨am,fam⟩:∃t,decide (a≤m)=t:=⟨_,rfl⟩;obtain ⟨bl,fbl⟩:∃t,decide (b<(l:Int))=t:=⟨_,rfl⟩;obtain ⟨al,fal⟩:∃t,decide (a<(l:Int))=t:=⟨_,rfl⟩
 have gtb:decide (b=0)=tb:=by rw [←ftb,Bool.eq_iff_iff];simp
 have gtn:decide (n=0)=tn:=by rw [←ftn,Bool.eq_iff_iff];simp
 have gtab:decide (a≠b)=tab2:=by rw [←ftab2,Bool.eq_iff_iff];simp
 have gtab2:tab2=tab:=by rw [←ftab,←ftab2,Bool.eq_iff_iff];simp;exact ⟨fun h q=>h q.symm,fun h q=>h q.symm⟩
 have gia:isImmF m a=(a1&&am):=by unfold isImmF;rw [←fa1,←fam,Bool.eq_iff_iff];simp
 have gib:isImmF m b=(b1&&bm):=by unfold isImmF;rw [←fb1,←fbm,Bool.eq_iff_iff];simp
 rw [gtb,gtn,gtab,gtab2,gia,gib] at HR1;rw [gtab2] at ftab2;have FA1:=h_ fa1;have FAL:=h_ fal;have FB1:=h_ fb1;have FBL:=h_ fbl;clear gtb gtn gtab gia gib gtab2;go_enter Tryz.func90,Tryz.ntmps90
 go_upto_region 1 with fail
 go_cut [7] (fun t wx=>t=.bool va∧W=wx)
 case first =>
  cases a1 with
  | false =>
   have hv:va=false:=by rw [←Hva.out];exact HVL.out a (of_decide_eq_false FA1.out)
   subst hv;go_wp2_with fail
   go_meet;exact ⟨rfl,rfl⟩
  | true =>
   cases al with
   | false =>
    have hv:va=false:=by rw [←Hva.out];exact HVH.out a (by rw [Hl.out];exact of_decide_eq_false FAL.out)
    subst hv;go_wp2_with fail
    go_meet;exact ⟨rfl,rfl⟩
   | true =>
    obtain ⟨j,rfl⟩:∃j:Nat,a=(j:Int):=Int.eq_ofNat_of_zero_le (by have:=of_decide_eq_true FA1.out;omega);have hj:(j:Int)<l:=of_decide_eq_true FAL.out;have hj0:(0:Int)≤j:=by omega
    have hv:va=(ss.getD j 0==1):=by rw [←Hva.out];exact HVA.out j (of_decide_eq_true FA1.out) (by rw [Hl.out];exact hj)
    obtain ⟨blk,off,rfl,_,_,z⟩:=Sl.at_ (k:=j) hs (by simp [Hl.out];omega);rw [show ((ss.map fun (x:Int)=>Value.int .i64 x))[j]'(by simp [Hl.out];omega)=.int .i64 (ss.getD j 0) by simp [List.getD,show j<ss.length by rw [Hl.out];omega]] at z
    obtain ⟨y,Hy⟩:=nm (ss.getD j 0);rw [Hy.out] at z hv;have fv:(y==1)=va:=hv.symm;clear hv;go_wp2_with fail
    go_meet;exact ⟨rfl,rfl⟩
 case rest =>
  obtain ⟨rfl,ew⟩:=hcut;obtain rfl:W=_:=ew;by_cases h1:k=1
  ·subst h1;have HE0:Hid (R=(va&&(tb&&tn))):=by show _=_;rw [HR1.out,if_pos rfl,Bool.and_assoc]
   cases va with
   | false =>
    have HE:Hid (R=false):=by show _=_;rw [HE0.out];simp
    go_wp2_with fail
    go_ret;exact ⟨by rw [HE.out];rfl,U⟩
   | true =>
    have HE0:Hid (R=(tb&&tn)):=by show _=_;rw [HE0.out];simp
    cases tb with
    | false =>
     have HE:Hid (R=false):=by show _=_;rw [HE0.out];simp
     go_wp2_with fail
     go_ret;exact ⟨by rw [HE.out];rfl,U⟩
    | true =>
     have HE0:Hid (R=(tn)):=by show _=_;rw [HE0.out];simp
     have HE:Hid (R=tn):=HE0.out;go_wp2_with fail
     go_ret;exact ⟨by rw [HE.out];rfl,U⟩
  ·by_cases h2:k=2∨k=3
   ·have HE0:Hid (R=(va&&tb)):=by have:=HR1.out;rw [if_neg h1,if_pos h2] at this;exact this
    rcases h2 with rfl | rfl
    ·cases va with
     | false =>
      have HE:Hid (R=false):=by show _=_;rw [HE0.out];simp
      go_wp2_with fail
      go_ret;exact ⟨by rw [HE.out];rfl,U⟩
     | true =>
      have HE0:Hid (R=(tb)):=by show _=_;rw [HE0.out];simp
      have HE:Hid (R=tb):=HE0.out;go_wp2_with fail
      go_ret;exact ⟨by rw [HE.out];rfl,U⟩
    ·cases va with
     | false =>
      have HE:Hid (R=false):=by show _=_;rw [HE0.out];simp
      go_wp2_with fail
      go_ret;exact ⟨by rw [HE.out];rfl,U⟩
     | true =>
      have HE0:Hid (R=(tb)):=by show _=_;rw [HE0.out];simp
      have HE:Hid (R=tb):=HE0.out;go_wp2_with fail
      go_ret;exact ⟨by rw [HE.out];rfl,U⟩
   ·have HR2:=HR1.out;rw [if_neg h1,if_neg h2] at HR2;have t1:(k==1)=false:=by simpa using h1
    have t2:(k==2)=false:=by simp;omega
    have t3:(k==3)=false:=by simp;omega
    have HR1:=h_ HR2;clear HR2 h1 h2;by_cases h4:k=4
    ·subst h4;have HE0:Hid (R=(va&&(vb&&(tab&&tn)))):=by show _=_;rw [HR1.out,if_pos rfl];simp [Bool.and_assoc]
     cases va with
     | false =>
      have HE:Hid (R=false):=by show _=_;rw [HE0.out];simp
      go_wp2_with fail
      go_ret;exact ⟨by rw [HE.out];rfl,U⟩
     | true =>
      have HE0:Hid (R=(vb&&(tab&&tn))):=by show _=_;rw [HE0.out];simp
      cases b1 with
      | false =>
       have hv:vb=false:=by rw [←Hvb.out];exact HVL.out b (of_decide_eq_false FB1.out)
       have HE:Hid (R=false):=by show _=_;rw [HE0.out,hv];simp
       clear hv;go_wp2_with fail
       go_ret;exact ⟨by rw [HE.out];rfl,U⟩
      | true =>
       cases bl with
       | false =>
        have hv:vb=false:=by rw [←Hvb.out];exact HVH.out b (by rw [Hl.out];exact of_decide_eq_false FBL.out)
        have HE:Hid (R=false):=by show _=_;rw [HE0.out,hv];simp
        clear hv;go_wp2_with fail
        go_ret;exact ⟨by rw [HE.out];rfl,U⟩
       | true =>
        obtain ⟨j,rfl⟩:∃j:Nat,b=(j:Int):=Int.eq_ofNat_of_zero_le (by have:=of_decide_eq_true FB1.out;omega);have hj:(j:Int)<l:=of_decide_eq_true FBL.out;have hj0:(0:Int)≤j:=by omega
        have hv:vb=(ss.getD j 0==1):=by rw [←Hvb.out];exact HVA.out j (of_decide_eq_true FB1.out) (by rw [Hl.out];exact hj)
        obtain ⟨blk,off,rfl,_,_,z⟩:=Sl.at_ (k:=j) hs (by simp [Hl.out];omega);rw [show ((ss.map fun (x:Int)=>Value.int .i64 x))[j]'(by simp [Hl.out];omega)=.int .i64 (ss.getD j 0) by simp [List.getD,show j<ss.length by rw [Hl.out];omega]] at z
        obtain ⟨y,Hy⟩:=nm (ss.getD j 0);rw [Hy.out] at z hv;have fv:(y==1)=vb:=hv.symm;clear hv
        cases vb with
        | false =>
         have HE:Hid (R=false):=by show _=_;rw [HE0.out];simp
         go_wp2_with fail
         go_ret;exact ⟨by rw [HE.out];rfl,U⟩
        | true =>
         have HE0:Hid (R=(tab&&tn)):=by show _=_;rw [HE0.out];simp
         cases tab with
         | false =>
          have HE:Hid (R=false):=by show _=_;rw [HE0.out];simp
          go_wp2_with fail
          go_ret;exact ⟨by rw [HE.out];rfl,U⟩
         | true =>
          have HE0:Hid (R=(tn)):=by show _=_;rw [HE0.out];simp
          have HE:Hid (R=tn):=HE0.out;go_wp2_with fail
          go_ret;exact ⟨by rw [HE.out];rfl,U⟩
    ·have t4:(k==4)=false:=by simpa using h4
     have HR2:=HR1.out;rw [if_neg h4] at HR2;have HR1:=h_ HR2;clear HR2 h4;by_cases h5:k=5
     ·subst h5;have HE0:Hid (R=(va&&(b1&&(bm&&tn)))):=by show _=_;rw [HR1.out,if_pos rfl];simp [Bool.and_assoc]
      cases va with
      | false =>
       have HE:Hid (R=false):=by show _=_;rw [HE0.out];simp
       go_wp2_with fail
       go_ret;exact ⟨by rw [HE.out];rfl,U⟩
      | true =>
       have HE0:Hid (R=(b1&&(bm&&tn))):=by show _=_;rw [HE0.out];simp
       cases b1 with
       | false =>
        have HE:Hid (R=false):=by show _=_;rw [HE0.out];simp
        go_wp2_with fail
        go_ret;exact ⟨by rw [HE.out];rfl,U⟩
       | true =>
        have HE0:Hid (R=(bm&&tn)):=by show _=_;rw [HE0.out];simp
        cases bm with
        | false =>
         have HE:Hid (R=false):=by show _=_;rw [HE0.out];simp
         go_wp2_with fail
         go_ret;exact ⟨by rw [HE.out];rfl,U⟩
        | true =>
         have HE0:Hid (R=(tn)):=by show _=_;rw [HE0.out];simp
         have HE:Hid (R=tn):=HE0.out;go_wp2_with fail
         go_ret;exact ⟨by rw [HE.out];rfl,U⟩
     ·have t5:(k==5)=false:=by simpa using h5
      have HR2:=HR1.out;rw [if_neg h5] at HR2;have HR1:=h_ HR2;clear HR2 h5;by_cases h6:k=6
      ·subst h6;have HE0:Hid (R=(a1&&(am&&(b1&&(bm&&(tab&&tn)))))):=by show _=_;rw [HR1.out,if_pos rfl];simp [Bool.and_assoc]
       cases a1 with
       | false =>
        have HE:Hid (R=false):=by show _=_;rw [HE0.out];simp
        go_wp2_with fail
        go_ret;exact ⟨by rw [HE.out];rfl,U⟩
       | true =>
        have HE0:Hid (R=(am&&(b1&&(bm&&(tab&&tn))))):=by show _=_;rw [HE0.out];simp
        cases am with
        | false =>
         have HE:Hid (R=false):=by show _=_;rw [HE0.out];simp
         go_wp2_with fail
         go_ret;exact ⟨by rw [HE.out];rfl,U⟩
        | true =>
         have HE0:Hid (R=(b1&&(bm&&(tab&&tn)))):=by show _=_;rw [HE0.out];simp
         cases b1 with
         | false =>
          have HE:Hid (R=false):=by show _=_;rw [HE0.out];simp
          go_wp2_with fail
          go_ret;exact ⟨by rw [HE.out];rfl,U⟩
         | true =>
          have HE0:Hid (R=(bm&&(tab&&tn))):=by show _=_;rw [HE0.out];simp
          cases bm with
          | false =>
           have HE:Hid (R=false):=by show _=_;rw [HE0.out];simp
           go_wp2_with fail
           go_ret;exact ⟨by rw [HE.out];rfl,U⟩
          | true =>
           have HE0:Hid (R=(tab&&tn)):=by show _=_;rw [HE0.out];simp
           cases tab with
           | false =>
            have HE:Hid (R=false):=by show _=_;rw [HE0.out];simp
            go_wp2_with fail
            go_ret;exact ⟨by rw [HE.out];rfl,U⟩
           | true =>
            have HE0:Hid (R=(tn)):=by show _=_;rw [HE0.out];simp
            have HE:Hid (R=tn):=HE0.out;go_wp2_with fail
            go_ret;exact ⟨by rw [HE.out];rfl,U⟩
      ·have t6:(k==6)=false:=by simpa using h6
       have HE:Hid (R=false):=by show _=_;rw [HR1.out,if_neg h6]
       clear h6;go_wp2_with fail
       go_ret;exact ⟨by rw [HE.out];rfl,U⟩
set_option maxHeartbeats 1000000 in
theorem r15Size_c (p:Pt):∀(w:World) (F:Nat→Prop) (KA:Option Addr) (kc:Nat),PtK w F p KA kc→p.size≤1000000000000 →
  Calls Tryz.prog 86 #[pv p KA kc] w fun e w'=>e=.returned (.int .i64 (p.size:Int))∧Upd Non w w':=by
 induction p using Pt.ind with
 | h p ih =>
  intro w F KA kc hp hs;have hse:=Pt.size_eq p;have hle:=Pt.len_le p.kids;have HI:=h_ ih;obtain ⟨W,HW⟩:=nm (w.alloc (.cells #[.int .i64 p.v,.int .i64 p.op,.int .i64 p.imm,.int .i64 p.iv,.slice KA p.kids.length kc] 38));have hU:Upd Non w W:=by rw [←HW.out];exact Upd.refl.alloc _
  have hb:Blk W w.heap.size 38 #[.int .i64 p.v,.int .i64 p.op,.int .i64 p.imm,.int .i64 p.iv,.slice KA p.kids.length kc]:=by rw [←HW.out];exact Blk.new _ _ _
  have e0:=HW.out;have c4:=hb.cell 4;have hpW:=PtK.upd hU (fun _ _ _ f=>f) p KA kc hp;have HS:=h_ hse;unfold pv;clear ih hse hp;obtain ⟨n,Hn⟩:=nm p.kids.length;rw [Hn.out] at c4 hle e0;have hn12:n≤1000000000000:=by have:=HS.out;omega
  rw [Hn.out];go_enter Tryz.func86,Tryz.ntmps86;go_wp2_with fail
  go_loopg [3,4] n (fun g v i wr=>∃k:Nat,Hid (g=n - k)∧k≤n∧i=.int .i64 k∧v=.int .i64 ((1+Pt.sizeL (p.kids.take k):Nat):Int)∧Upd Non W wr)
  case atStart=>exact ⟨0,rfl,by omega,rfl,by simp [Pt.sizeL],Upd.refl⟩
  case round =>
   obtain ⟨k,Hg,hk,rfl,rfl,hu⟩:=hrel;have c4':=u_ c4 hu (fun f=>f);by_cases hlt:k<n
   ·have hkl:k<p.kids.length:=by rw [Hn.out];exact hlt
    obtain ⟨b,o,rfl,hF,hbw,KB,kd,h0,h1,h2,h3,h4,h5⟩:=(PtK.upd hu (fun _ _ _ f=>f) p KA kc hpW).at_ hkl;have hks:p.kids[k].size≤1000000000000:=by have:=Pt.kids_lt (List.getElem_mem hkl);omega
    have hkk:=Pt.sizeL_take p.kids k hkl;have hkt:=Pt.sizeL_take_le p.kids (k+1);have hmem0:=List.getElem_mem hkl;generalize p.kids[k]=q at *;have C1:=h_ (HI.out q hmem0 wr F KB kd h5 hks);unfold pv at C1;obtain ⟨z,Hz⟩:=nm (1+Pt.sizeL (p.kids.take k));have hz1:1+Pt.sizeL (p.kids.take (k+1))=z+q.size:=by rw [←Hz.out];omega
    have HZ:=h_ hz1;have hz2:z+q.size≤2000000000000:=by have:=HS.out;omega
    rw [Hz.out];clear hkk hkt hz1 h5;go_wp2_with fail
    refine C1.out.mono ?_;rintro e w4 ⟨rfl,hu4⟩;go_wp2_with fail
    go_roundg (n - (k+1))
    case measure=>rw [Hg.out];omega
    case rel=>exact ⟨k+1,rfl,by omega,by go_num,by rw [HZ.out];go_num,hu.then_non hu4⟩
   ·obtain rfl:n=k:=by omega
    have HT:Hid (1+Pt.sizeL (p.kids.take n)=p.size):=by show _=_;rw [HS.out,←Hn.out];simp
    rw [HT.out];go_wp2_with fail
    go_ret;exact ⟨rfl,hU.then_non hu⟩
set_option maxRecDepth 100000 in
set_option maxHeartbeats 8000000 in
theorem r15fits_c (p:Pt):∀(w:World) (F:Nat→Prop) (KA:Option Addr) (kc g c:Nat) (s m:Int) (vs:List Int),PtK w F p KA kc→¬F g→VBlk w g (0::vs)→p.size≤1000000000000→vs.length≤1000000→0≤m →
  Calls Tryz.prog 87 #[pv p KA kc,.int .i64 s,.slice (some ⟨g,0,none⟩) (vs.length+1) c,.int .i64 m] w fun e w'=>e=.returned (.bool (vPt p s m vs).1)∧VBlk w' g (0::(vPt p s m vs).2)∧Upd (·=g) w w':=by
 induction p using Pt.ind with
 | h p ih =>
  intro w F KA kc g c s m vs hp hFg hg hs hvs hm0;have hle:=Pt.len_le p.kids;have hse:=Pt.size_eq p;have HI:=h_ ih;have HPS:=h_ hs;have HV:=h_ (@vPt_var p);have HO:=h_ (@vPt_op p);obtain ⟨W,HW⟩:=nm (w.alloc (.cells #[.int .i64 p.v,.int .i64 p.op,.int .i64 p.imm,.int .i64 p.iv,.slice KA p.kids.length kc] 38));have hU:Upd Non w W:=by rw [←HW.out];exact Upd.refl.alloc _
  have hb:Blk W w.heap.size 38 #[.int .i64 p.v,.int .i64 p.op,.int .i64 p.imm,.int .i64 p.iv,.slice KA p.kids.length kc]:=by rw [←HW.out];exact Blk.new _ _ _
  have e0:=HW.out;have hgW:VBlk W g (0::vs):=Blk.upd hg hU (fun f=>f);have hpW:=PtK.upd hU (fun _ _ _ f=>f) p KA kc hp;have hUg:Upd (·=g) w W:=hU.mono (fun _ _ f=>f.elim);have hglt:g<w.heap.size:=Blk.lt hg;have hsz:=hU.size;have hn12:p.kids.length≤1000000000000:=by omega
  unfold pv;obtain ⟨R,HR⟩:=nm (vPt p s m vs);rw [HR.out];have HIM:=h_ (@imm_ok p m hm0);obtain ⟨v,Hv⟩:=nm p.v;obtain ⟨op,Hop⟩:=nm p.op;obtain ⟨imm,Him⟩:=nm p.imm;obtain ⟨iv,Hiv⟩:=nm p.iv;obtain ⟨n,Hn⟩:=nm p.kids.length;rw [Hv.out,Hop.out,Him.out,Hiv.out,Hn.out] at hb e0;rw [Hv.out,Hop.out,Him.out,Hiv.out,Hn.out];rw [Hn.out] at hn12;rw [Hop.out,Him.out,Hiv.out] at HIM;have c0:=hb.cell 0;have c1:=hb.cell 1;have c2:=hb.cell 2;have c3:=hb.cell 3;have c4:=hb.cell 4;have hlb:=hb.lt;clear ih hp hse hle hg hs;by_cases hv:v=0
  ·subst hv;obtain ⟨z,Hz⟩:∃z,oSortsF op=z:=⟨_,rfl⟩;obtain ⟨ss,own,ok⟩:=z
   have HO2:Hid (R=if ok=true∧n=ss.length∧(s=0∨s=own)∧pImmF p m=true then vKids p.kids ss m vs else (false,vs)):=by
    show _=_;rw [←HR.out,HO.out Hv.out,Hop.out,Hz,Hn.out]
   have HAO:=h_ (allowed_ok op);have HAP:=h_ (@allowed_parts op);have CA:=h_ (fun w=>arity_c op w);have CB:=h_ (fun w=>r15allowed_c op w);have CS:=h_ (fun w=>pSort_c op w);have CH:=h_ (fun w=>r15HasImm_c op w);have CV:=h_ (fun w=>validImm_c op imm w);have COS:=h_ (fun (k:Int) w=>operandSort_c op k w);rw [HAO.out] at CB;rw [Hz] at CB HAP HIM;dsimp only at CB HAP HIM;obtain ⟨za,Hza⟩:∃z,arityF op=z:=⟨_,rfl⟩;obtain ⟨ar,aok⟩:=za;rw [Hza] at CA HAP;dsimp only at CA HAP;obtain ⟨sr,Hsr⟩:=nm (pSortF op);rw [Hsr.out] at CS HAP;obtain ⟨hi,Hhi⟩:=nm (hasImmF op);obtain ⟨vi,Hvi⟩:=nm (validImmF op imm);rw [Hhi.out] at CH;rw [Hvi.out] at CV;rw [Hhi.out,Hvi.out] at HIM;clear HV HO HR Hz Hza;obtain ⟨bn,f1⟩:∃b,((n:Int) != ar)=b:=⟨_,rfl⟩;obtain ⟨b3,f3⟩:∃b,(s != 0)=b:=⟨_,rfl⟩;obtain ⟨bs,f4⟩:∃b,(sr != s)=b:=⟨_,rfl⟩;obtain ⟨b5,f5⟩:∃b,decide (iv<0)=b:=⟨_,rfl⟩;obtain ⟨b6,f6⟩:∃b,decide (iv > m)=b:=⟨_,rfl⟩;obtain ⟨b7,f7⟩:∃b,decide (iv > 0)=b:=⟨_,rfl⟩;obtain ⟨b8,f8⟩:∃b,(imm != 0)=b:=⟨_,rfl⟩;obtain ⟨b9,f9⟩:∃b,(iv==0)=b:=⟨_,rfl⟩
   have F1:=h_ f1;have F3:=h_ f3;have F4:=h_ f4;have F5:=h_ f5;have F6:=h_ f6;have F7:=h_ f7;have F8:=h_ f8;have F9:=h_ f9;go_enter Tryz.func87,Tryz.ntmps87;go_wp2_with fail
   refine (CA.out W).mono ?_;rintro e w2 ⟨rfl,rfl⟩
   go_upto_region 8 with fail
   go_cut [110] (fun t wx=>t=.bool (!ok || bn || (b3&&bs) || b5 || b6)∧wx=W)
   case first =>
    cases ok with
    | false =>
     go_wp2_with fail
     refine (CB.out W).mono ?_;rintro e w2 ⟨rfl,rfl⟩;go_wp2_with fail
     go_meet;exact ⟨rfl,rfl⟩
    | true=>cases bn with
     | true =>
      go_wp2_with fail
      refine (CB.out W).mono ?_;rintro e w2 ⟨rfl,rfl⟩;go_wp2_with fail
      go_meet;exact ⟨rfl,rfl⟩
     | false=>cases b3 with
      | true=>cases bs with
       | true =>
        go_wp2_with fail
        refine (CB.out W).mono ?_;rintro e w2 ⟨rfl,rfl⟩;go_wp2_with fail
        refine (CS.out W).mono ?_;rintro e w2 ⟨rfl,rfl⟩;go_wp2_with fail
        go_meet;exact ⟨rfl,rfl⟩
       | false =>
        cases b5 <;> cases b6
        all_goals
         go_wp2_with fail
         refine (CB.out W).mono ?_;rintro e w2 ⟨rfl,rfl⟩;go_wp2_with fail
         refine (CS.out W).mono ?_;rintro e w2 ⟨rfl,rfl⟩;go_wp2_with fail
         go_meet;exact ⟨rfl,rfl⟩
      | false =>
       cases b5 <;> cases b6
       all_goals
        go_wp2_with fail
        refine (CB.out W).mono ?_;rintro e w2 ⟨rfl,rfl⟩;go_wp2_with fail
        go_meet;exact ⟨by cases bs <;> rfl,rfl⟩
   case rest =>
   obtain ⟨rfl,ew⟩:=hcut;obtain rfl:W=_:=ew.symm
   have HCond:Hid ((ok=true∧n=ss.length∧(s=0∨s=own)∧pImmF p m=true)↔((!ok || bn || (b3&&bs) || b5 || b6)=false∧(b7&&(b8 || !hi) || b9&&!vi)=false)):=by
    show _↔_;rw [←F1.out,←F3.out,←F4.out,←F5.out,←F6.out,←F7.out,←F8.out,←F9.out]
    cases ok with
    | false=>simp
    | true =>
     obtain ⟨a1,a2,_⟩:=HAP.out rfl;rw [HIM.out rfl,a1,a2];cases hi <;> cases vi <;> simp <;> omega
   cases hT:(!ok || bn || (b3&&bs) || b5 || b6) with
   | true =>
    have HR2:Hid (R=(false,vs)):=by show _=_;rw [HO2.out,if_neg (fun q=>by rw [(HCond.out.1 q).1] at hT;cases hT)]
    clear HO2 hT;go_wp2_with fail
    go_ret;exact ⟨by rw [HR2.out];rfl,by rw [HR2.out];exact hgW,hUg⟩
   | false =>
    have HT:=h_ hT;clear hT
    go_upto_region 10 with fail
    go_cut [137] (fun t wx=>t=.bool (b7&&(b8 || !hi) || b9&&!vi)∧wx=W)
    case first =>
     cases b7 with
     | true =>
      have b9f:b9=false:=by rw [←F9.out,beq_eq_false_iff_ne];have:=of_decide_eq_true F7.out;omega
      subst b9f
      cases b8 with
      | true =>
       go_wp2_with fail
       go_meet;exact ⟨rfl,rfl⟩
      | false =>
       cases hi
       all_goals
        go_wp2_with fail
        refine (CH.out W).mono ?_;rintro e w2 ⟨rfl,rfl⟩;go_wp2_with fail
        go_meet;exact ⟨rfl,rfl⟩
     | false=>cases b9 with
      | true =>
       go_wp2_with fail
       refine (CV.out W).mono ?_;rintro e w2 ⟨rfl,rfl⟩;go_wp2_with fail
       go_meet;exact ⟨by cases vi <;> rfl,rfl⟩
      | false =>
       go_wp2_with fail
       go_meet;exact ⟨rfl,rfl⟩
    case rest =>
    obtain ⟨rfl,ew⟩:=hcut;obtain rfl:W=_:=ew.symm
    cases hT2:(b7&&(b8 || !hi) || b9&&!vi) with
    | true =>
     have HR2:Hid (R=(false,vs)):=by show _=_;rw [HO2.out,if_neg (fun q=>by rw [(HCond.out.1 q).2] at hT2;cases hT2)]
     clear HO2 hT2;go_wp2_with fail
     go_ret;exact ⟨by rw [HR2.out];rfl,by rw [HR2.out];exact hgW,hUg⟩
    | false =>
     have HCd:=h_ (HCond.out.2 ⟨HT.out,hT2⟩);have HR2:Hid (R=vKids (p.kids.drop 0) (ss.drop 0) m vs):=by show _=_;rw [HO2.out,if_pos HCd.out];simp
     have HNS:Hid (n=ss.length):=HCd.out.2.1;have HST:=h_ (fun k (hk:k<p.kids.length) vk=>@vKids_step p.kids ss m vk k hk (by rw [Hn.out];exact HNS.out));have HVL:=h_ (fun (q:Pt) (s m:Int) vs=>vPt_len q s m vs);have HSO:Hid (∀k (hk:k<ss.length),operandSortF op k=ss[k]):=(HAP.out HCd.out.1).2.2;clear HO2 hT2 HCond f1 f3 f4 f5 f6 f7 f8 f9 CA CB CS CH CV;go_wp2_with fail
     go_loopg [11] n (fun gg i wr=>∃(k:Nat) (vk:List Int),Hid (gg=n - k)∧k≤n∧i=.int .i64 k∧VBlk wr g (0::vk)∧vk.length=vs.length∧Hid (R=vKids (p.kids.drop k) (ss.drop k) m vk)∧Upd (·=g) W wr)
     case atStart=>exact ⟨0,vs,rfl,by omega,rfl,hgW,rfl,HR2,Upd.refl⟩
     case round =>
      obtain ⟨k,vk,Hg,hk,rfl,hgk,hvk,HRk,hu⟩:=hrel;have c4r:wr.cell? ⟨w.heap.size,4,none⟩=some (.slice KA n kc):=u_ c4 hu (by omega);have c1r:wr.cell? ⟨w.heap.size,1,none⟩=some (.int .i64 op):=u_ c1 hu (by omega);by_cases hlt:k<n
      ·have hkl:k<p.kids.length:=by rw [Hn.out];exact hlt
       have hks:k<ss.length:=by have:=HNS.out;omega
       obtain ⟨b,o,rfl,hF,hbw,KB,kd,h0,h1,h2,h3,h4,h5⟩:=(PtK.upd hu (fun k _ hF e=>hFg (by rw [←e];exact hF)) p KA kc hpW).at_ hkl;have hmem0:=List.getElem_mem hkl;have hqs:=Pt.kids_lt hmem0;have HRs:=HST.out k hkl vk;have hps:p.size≤1000000000000:=HPS.out;have hos:=HSO.out k hks;have hbg:b≠g:=fun e=>hFg (by rw [←e];exact hF)
       rw [HRs] at HRk;clear HRs;generalize p.kids[k]=q at *;generalize ss[k]=x at *;have i0:(0:Int)≤(k:Int):=by omega
       have i1:(k:Int)<(n:Int):=by omega
       have hg4:VBlk wr.drew g (0::vk):=hgk;have C1:=h_ (HI.out q hmem0 wr.drew F KB kd g c x m vk (PtK.upd (Upd.refl.drew (S:=Non)) (fun _ _ _ f=>f) q KB kd h5) hFg hg4 (by omega) (by omega) hm0)
       unfold pv at C1;rw [hvk] at C1;have HV1:=h_ (HVL.out q x m vk);obtain ⟨r,Hr⟩:=nm (vPt q x m vk);obtain ⟨rb,rv⟩:=r;rw [Hr.out] at C1 HRk HV1;have hrv:rv.length=vs.length:=by rw [←hvk];exact HV1.out
       have COk:=h_ (fun w=>COS.out (k:Int) w);rw [hos] at COk;clear h5 hps hqs;have hS:∀w',Upd (·=g) wr w'→w'.cell? ⟨w.heap.size,4,none⟩=some (.slice (some ⟨b,o,none⟩) n kc)∧w'.cell? ⟨w.heap.size,1,none⟩=some (.int .i64 op)∧w'.cell? ⟨b,o+k * 5,none⟩=some (.int .i64 q.v)∧w'.cell? ⟨b,o+k * 5+1,none⟩=some (.int .i64 q.op)∧w'.cell? ⟨b,o+k * 5+2,none⟩=some (.int .i64 q.imm)∧w'.cell? ⟨b,o+k * 5+3,none⟩=some (.int .i64 q.iv)∧w'.cell? ⟨b,o+k * 5+4,none⟩=some (.slice KB q.kids.length kd):=fun w' u=>⟨u_ c4r u (by omega),u_ c1r u (by omega),u_ h0 u hbg,u_ h1 u hbg,u_ h2 u hbg,u_ h3 u hbg,u_ h4 u hbg⟩
       obtain ⟨w4,e4⟩:∃w4:World,w4=wr:=⟨_,rfl⟩;subst e4;go_wp2_with fail
       refine wp_region_held_drew (S:=fun w'=>w'.cell? ⟨w.heap.size,4,none⟩=some (.slice (some ⟨b,o,none⟩) n kc)∧w'.cell? ⟨w.heap.size,1,none⟩=some (.int .i64 op)∧w'.cell? ⟨b,o+k * 5,none⟩=some (.int .i64 q.v)∧w'.cell? ⟨b,o+k * 5+1,none⟩=some (.int .i64 q.op)∧w'.cell? ⟨b,o+k * 5+2,none⟩=some (.int .i64 q.imm)∧w'.cell? ⟨b,o+k * 5+3,none⟩=some (.int .i64 q.iv)∧w'.cell? ⟨b,o+k * 5+4,none⟩=some (.slice KB q.kids.length kd)) (by kernel_rfl) (hS _ (Upd.refl (S:=(·=g))).drew) (fun hHeld=>?_)
       refine wpT 0 ?_;(try simp only [y_,z_]);refine wpT 1 ?_;(try simp only [y_,z_]);refine wpT 2 ?_;(try simp only [y_,z_]);refine wpT 3 ?_;(try simp only [y_,z_]);refine wpT 4 ?_;(try simp only [y_,z_]);refine wpT 5 ?_;(try simp only [y_,z_]);refine wpT 6 ?_;(try simp only [y_,z_]);refine wpT 7 ?_;(try simp only [y_,z_]);refine wpAnyH_takeC (i:=8) (v:=?v1) rfl (by kernel_rfl) (by kernel_rfl) (by kernel_rfl) (fun _ _ _ h=>h) ⟨by rfl,?f1,?a1,?r1,?c1⟩ (by assumption) ?m1
       case r1=>intro w;go_simp;constructor <;> with_reducible rfl
       case c1=>intro W hSw;refine (COk.out W).mono ?_;rintro e w' ⟨rfl,rfl⟩;constructor <;> with_reducible rfl
       (try simp only [y_,z_]);refine wpT 9 ?_;(try simp only [y_,z_]);refine wpT 10 ?_;(try simp only [y_,z_]);refine aR_ (rs:=[11]) (by kernel_rfl) (by simp) ?_;refine aC_ rfl (fun K hK=>?_) aN_;go_simp;refine C1.out.mono ?_;rintro e w5 ⟨rfl,hg5,hu5'⟩;have hu5:Upd (·=g) w4 w5:=(Upd.refl.drew (S:=(·=g))).trans hu5' (fun _ _ q=>q);go_wp2_with fail
       refine hK.out _ _ ?_ (fun hHeld=>?_)
       ·exact hS _ hu5
       clear hK K;(try simp only [y_,z_]);refine wpT 12 ?_;(try simp only [y_,z_]);refine aD_ (by kernel_rfl) ?_ _
       cases rb with
       | true =>
        have HRn:Hid (R=vKids (p.kids.drop (k+1)) (ss.drop (k+1)) m rv):=by show _=_;rw [HRk.out];rfl
        clear C1 hS;go_wp2_with fail
        go_roundg (n - (k+1))
        case measure=>rw [Hg.out];omega
        case rel=>exact ⟨k+1,rv,rfl,by omega,by go_num,hg5,hrv,HRn,hu.trans hu5 (fun _ _ q=>q)⟩
       | false =>
        have HRn:Hid (R=(false,rv)):=by show _=_;rw [HRk.out];rfl
        clear C1 hS;go_wp2_with fail
        go_ret;exact ⟨by rw [HRn.out];rfl,by rw [HRn.out];exact hg5,(hUg.trans hu (fun _ _ q=>q)).trans hu5 (fun _ _ q=>q)⟩
      ·obtain rfl:n=k:=by omega
       have HRz:Hid (R=(true,vk)):=by
        show _=_;rw [HRk.out,List.drop_eq_nil_of_le (by rw [Hn.out];exact Nat.le_refl _)];rfl
       go_wp2_with fail
       go_ret;exact ⟨by rw [HRz.out];rfl,by rw [HRz.out];exact hgk,hUg.trans hu (fun _ _ q=>q)⟩
  ·have t0:(v != 0)=true:=by simpa using hv
   have HV2:Hid (R=if v<1∨v > vs.length∨op≠0∨imm≠0∨iv≠0∨0<n then (false,vs) else if vs.getD (v - 1).toNat 0=0 then (true,vs.set (v - 1).toNat s) else (decide (s=0∨s=vs.getD (v - 1).toNat 0),vs)):=by
    show _=_;rw [←HR.out,HV.out (by rw [Hv.out];exact hv),Hv.out,Hop.out,Him.out,Hiv.out,Hn.out]
   clear HV HO HI HIM;by_cases hbad:v<1∨v > vs.length∨op≠0∨imm≠0∨iv≠0∨0<n
   ·have HRv:Hid (R=(false,vs)):=by show _=_;rw [HV2.out,if_pos hbad]
    rw [HRv.out];have Hbad:=h_ hbad;obtain ⟨b1,f1⟩:∃b,decide (v<1)=b:=⟨_,rfl⟩;obtain ⟨b2,f2⟩:∃b,decide (v ≥ (vs.length:Int)+1)=b:=⟨_,rfl⟩;obtain ⟨b3,f3⟩:∃b,(op != 0)=b:=⟨_,rfl⟩;obtain ⟨b4,f4⟩:∃b,(imm != 0)=b:=⟨_,rfl⟩;obtain ⟨b5,f5⟩:∃b,(iv != 0)=b:=⟨_,rfl⟩;obtain ⟨b6,f6⟩:∃b,((n:Int) != 0)=b:=⟨_,rfl⟩
    have HB:Hid ((b1 || b2 || b3 || b4 || b5 || b6)=true):=by
     show _=_;rw [←f1,←f2,←f3,←f4,←f5,←f6];simp;omega
    clear hbad
    cases b1 with
    | true =>
     go_enter Tryz.func87,Tryz.ntmps87;go_wp2_with fail
     go_ret;exact ⟨rfl,hgW,hUg⟩
    | false=>cases b2 with
     | true =>
      go_enter Tryz.func87,Tryz.ntmps87;go_wp2_with fail
      go_ret;exact ⟨rfl,hgW,hUg⟩
     | false=>cases b3 with
      | true =>
       go_enter Tryz.func87,Tryz.ntmps87;go_wp2_with fail
       go_ret;exact ⟨rfl,hgW,hUg⟩
      | false=>cases b4 with
       | true =>
        go_enter Tryz.func87,Tryz.ntmps87;go_wp2_with fail
        go_ret;exact ⟨rfl,hgW,hUg⟩
       | false=>cases b5 with
        | true =>
         go_enter Tryz.func87,Tryz.ntmps87;go_wp2_with fail
         go_ret;exact ⟨rfl,hgW,hUg⟩
        | false=>cases b6 with
         | true =>
          have hn0:n≠0:=by intro q;subst q;simp at f6
          have hn1:(n==0)=false:=by simpa using hn0
          go_enter Tryz.func87,Tryz.ntmps87;go_wp2_with fail
          go_ret;exact ⟨rfl,hgW,hUg⟩
         | false=>exact absurd HB.out (by simp)
   ·rw [if_neg hbad] at HV2;obtain ⟨i,hi⟩:=Int.eq_ofNat_of_zero_le (show 0≤v - 1 by omega);have hil:i<vs.length:=by omega
    obtain rfl:op=0:=by omega
    obtain rfl:imm=0:=by omega
    obtain rfl:iv=0:=by omega
    obtain rfl:n=0:=by omega
    rw [hi,Int.toNat_natCast] at HV2;obtain ⟨j,Hj⟩:=nm (i+1);have hj1:=Hj.out;obtain rfl:v=(j:Int):=by omega
    have t1:decide ((j:Int)<1)=false:=dF_ (by omega);have t2:decide ((j:Int) ≥ (vs.length:Int)+1)=false:=dF_ (by omega);have cg:W.cell? ⟨g,j,none⟩=some (.int .i64 (vs.getD i 0)):=by have:=VBlk.cell hgW (i:=i+1) (by simpa using hil);rw [hj1] at this;rw [this,←hj1];simp
    have fg:=Blk.frozen hgW j;have i0:(0:Int)≤(j:Int):=by omega
    have i1:(j:Int)<(vs.length:Int)+1:=by omega
    have hset:VBlk (W.setCell ⟨g,j,none⟩ (.int .i64 s)) g (0::vs.set i s):=by have:=VBlk.set_ hgW (i+1) s;rw [hj1] at this;rw [show (0::vs.set i s)=(0::vs).set j s by rw [←hj1];rfl];exact this
    have uset:=updCell W g j (.int .i64 s);clear hj1 hi;clear hbad HR Hv Hop Him Hiv Hn hpW;by_cases hs0:s=0
    ·subst hs0
     have HV3:Hid (R=(true,vs)):=by
      show _=_;rw [HV2.out];by_cases hy:vs.getD i 0=0
      ·rw [if_pos hy]
       have : vs.set i 0=vs:=by
        apply List.ext_getElem (by simp);intro j h1 h2;rw [List.getElem_set]
        split
        ·rename_i e;subst e;rw [getD_of hil] at hy;exact hy.symm
        ·rfl
       rw [this]
      ·rw [if_neg hy];simp
     rw [HV3.out];clear HV2 HV3;go_enter Tryz.func87,Tryz.ntmps87;go_wp2_with fail
     go_ret;exact ⟨rfl,hgW,hUg⟩
    ·have ts:(s != 0)=true:=by simpa using hs0
     have ts2:(s==0)=false:=by simpa using hs0
     obtain ⟨y,Hy⟩:=nm (vs.getD i 0);rw [Hy.out] at HV2 cg;by_cases hy:y=0
     ·rw [if_pos hy] at HV2;subst hy;rw [HV2.out];clear HV2;have tss:(s==s)=true:=by simp
      go_enter Tryz.func87,Tryz.ntmps87;go_wp2_with fail
      go_ret;exact ⟨rfl,hset,hUg.trans uset (fun _ _ q=>q)⟩
     ·rw [if_neg hy] at HV2;have ty:(y==0)=false:=by simpa using hy
      by_cases hsy:s=y
      ·subst hsy;have tt:(s==s)=true:=by simp
       have HV3:Hid (R=(true,vs)):=by show _=_;rw [HV2.out];simp
       rw [HV3.out];clear HV2 HV3;go_enter Tryz.func87,Tryz.ntmps87;go_wp2_with fail
       go_ret;exact ⟨rfl,hgW,hUg⟩
      ·have tt:(y==s)=false:=by simp;omega
       have HV3:Hid (R=(false,vs)):=by show _=_;rw [HV2.out];simp [hs0,hsy]
       rw [HV3.out];clear HV2 HV3;go_enter Tryz.func87,Tryz.ntmps87;go_wp2_with fail
       go_ret;exact ⟨rfl,hgW,hUg⟩
theorem T_boolsX:SlT Tryz.prog 147 4 1 1:=by
 obtain ⟨i,h1,h2,h3,h4⟩:=info_parts (show (Tryz.prog.info? 4).map (fun i=>(i.zero,i.size,i.bytes))=some (some (.bool false),1,1) from by kernel_rfl)
 exact ⟨Tryz.underlying147,⟨i,_,h1,h2,h3,h4,rfl⟩,by omega⟩
theorem zero_boolX:(Tryz.prog.info? 4).bind (·.zero)=some (.bool false):=by kernel_rfl
theorem VBlk.new0 (w:World) (n:Nat):VBlk (w.alloc (.cells (Array.replicate (n+1) (.int .i64 0)) 3)) w.heap.size (0::List.replicate n 0):=by
 unfold VBlk;rw [show (icells (0::List.replicate n 0)).toArray=Array.replicate (n+1) (Value.int .i64 0) by rw [←List.replicate_succ];simp [icells]];exact Blk.new _ _ _
set_option maxRecDepth 100000 in
set_option maxHeartbeats 4000000 in
theorem validRule_c (r:Rl) (a:RlA) (F:Nat→Prop) (w:World) (hk:RlK w F r a) (hz:RlSz r) :
  Calls Tryz.prog 39 #[rlv r a] w fun e w'=>e=.returned (.bool (refF r))∧Upd Non w w':=by
 obtain ⟨W,HW⟩:=nm (w.alloc (.cells (rlCells r a) 41));have hU:Upd Non w W:=by rw [←HW.out];exact Upd.refl.alloc _
 have hb:Blk W w.heap.size 41 (rlCells r a):=by rw [←HW.out];exact Blk.new _ _ _
 have hsz:W.heap.size=w.heap.size+1:=by rw [←HW.out];simp
 have e0:=HW.out;have hK:=(hk.mono (G:=fun k=>k<w.heap.size) (fun _ h _=>h)).upd hU (fun _ _ _ f=>f);have HC:=h_ (fun (w':World) (u:Upd Non W w')=>rl_cells (hb.upd u (fun f=>f)));obtain ⟨c0,c1,c2,c3,c4,c5,c6,c7,c8,c9,c10,c11,c12,c13⟩:=HC.out W Upd.refl;have CN:=h_ (fun w'=>r15validName_c r.name w' hz.n);have CSL:=h_ (fun (w':World) (u:Upd Non W w')=>r15Size_c r.l w' _ a.la a.lc (PtK.upd u (fun _ _ _ f=>f) _ _ _ hK.l) hz.l);have CSR:=h_ (fun (w':World) (u:Upd Non W w')=>r15Size_c r.r w' _ a.ra a.rc (PtK.upd u (fun _ _ _ f=>f) _ _ _ hK.r) hz.r);have HZ:=h_ hz;have HK:=h_ hK;unfold pv at CSL CSR;unfold rlv;unfold rlCells at e0 ⊢;obtain ⟨R,HR⟩:=nm (refF r);rw [HR.out];have HR1:Hid (R=refF r):=HR.out.symm;unfold refF at HR1;clear hk hz hK HR hb;obtain ⟨vn,Hvn⟩:=nm (nameF r.name);rw [Hvn.out] at CN HR1;obtain ⟨b1,f1⟩:∃b,decide (r.vars<0)=b:=⟨_,rfl⟩;obtain ⟨b2,f2⟩:∃b,decide (6<r.vars)=b:=⟨_,rfl⟩;obtain ⟨b3,f3⟩:∃b,decide (r.imms<0)=b:=⟨_,rfl⟩;obtain ⟨b4,f4⟩:∃b,decide (6<r.imms)=b:=⟨_,rfl⟩
 obtain ⟨b6,f6⟩:∃b,decide ((6:Int)<(r.conds.length:Int))=b:=⟨_,rfl⟩;have F1:=h_ f1;have F2:=h_ f2;have F3:=h_ f3;have F4:=h_ f4;have F6:=h_ f6;go_enter Tryz.func39,Tryz.ntmps39
 go_upto_region 1 with fail
 go_cut [38] (fun t wx=>t=.bool (b1 || b2 || b3 || b4 || !vn || b6)∧Upd Non W wx)
 case first =>
  cases b1 with
  | true=>go_wp2_with fail;go_meet;exact ⟨rfl,Upd.refl⟩
  | false=>cases b2 with
   | true=>go_wp2_with fail;go_meet;exact ⟨rfl,Upd.refl⟩
   | false=>cases b3 with
    | true=>go_wp2_with fail;go_meet;exact ⟨rfl,Upd.refl⟩
    | false=>cases b4 with
     | true=>go_wp2_with fail;go_meet;exact ⟨rfl,Upd.refl⟩
     | false =>
      go_wp2_with fail
      refine (CN.out _).mono ?_;rintro e w3 ⟨rfl,q3,rfl⟩;have u3:Upd Non W (W.drewN q3):=Upd.refl.drewN _
      cases vn with
      | false=>go_wp2_with fail;go_meet;exact ⟨rfl,u3⟩
      | true=>go_wp2_with fail;go_meet;exact ⟨by cases b6 <;> rfl,u3⟩
 case rest =>
 obtain ⟨w1,rfl⟩:∃w1:World,w1=wc:=⟨_,rfl⟩;obtain ⟨rfl,u1⟩:=hcut;clear c0 c1 c2 c3 c4 c5 c6 c7 c8 c9 c10 c11 c12 c13;obtain ⟨c0,c1,c2,c3,c4,c5,c6,c7,c8,c9,c10,c11,c12,c13⟩:=HC.out _ u1;clear f1 f2 f3 f4 f6
 cases hT:(b1 || b2 || b3 || b4 || !vn || b6) with
 | true =>
  have HF:Hid (R=false):=by
   show _=_;rw [HR1.out];rw [show (decide (0≤r.vars∧r.vars≤6∧0≤r.imms∧r.imms≤6)&&vn&&decide (r.conds.length≤6))=false from ?_]
   ·simp
   ·rw [Bool.eq_false_iff];intro q;simp only [Bool.and_eq_true,decide_eq_true_eq] at q;obtain ⟨⟨⟨q1,q2,q3,q4⟩,q5⟩,q6⟩:=q;rw [←F1.out,←F2.out,←F3.out,←F4.out,←F6.out,q5] at hT;simp at hT;omega
  have HU:=hU.then_non u1;clear hT;go_wp2_with fail
  go_ret;exact ⟨by rw [HF.out];rfl,HU⟩
 | false =>
  obtain ⟨hv,h6,hvn⟩:(0≤r.vars∧r.vars≤6∧0≤r.imms∧r.imms≤6)∧r.conds.length≤6∧vn=true:=by
   rw [←F1.out,←F2.out,←F3.out,←F4.out,←F6.out] at hT;simp only [Bool.or_eq_false_iff,decide_eq_false_iff_not,Bool.not_eq_false'] at hT;obtain ⟨⟨⟨⟨⟨q1,q2⟩,q3⟩,q4⟩,q5⟩,q6⟩:=hT;exact ⟨by omega,by omega,q5⟩
  subst hvn;rw [dT_ hv,dT_ h6] at HR1;have H6:=h_ h6;have HT:=h_ hT;clear h6 hT CN F1 F2 F3 F4 F6;obtain ⟨n,Hn⟩:∃n:Nat,Hid (r.vars=(n:Int)):=Int.eq_ofNat_of_zero_le hv.1;obtain ⟨m,Hm⟩:∃m:Nat,Hid (r.imms=(m:Int)):=Int.eq_ofNat_of_zero_le hv.2.2.1;have hn6:n≤6:=by have:=Hn.out;omega
  have hm6:m≤6:=by have:=Hm.out;omega
  have HVN:Hid (r.vars.toNat=n):=by show _=_;rw [Hn.out];rfl
  rw [HVN.out,Hm.out] at HR1;rw [show ((m:Int)).toNat=m from rfl] at HR1;clear hv;obtain ⟨d0,g0⟩:∃b,(r.l.v != 0)=b:=⟨_,rfl⟩;obtain ⟨d1,g1⟩:∃b,decide ((24:Int)<(r.l.size:Int))=b:=⟨_,rfl⟩;obtain ⟨d2,g2⟩:∃b,decide ((24:Int)<(r.r.size:Int))=b:=⟨_,rfl⟩;have G0:=h_ g0;have G1:=h_ g1;have G2:=h_ g2
  go_upto_region 3 with fail
  go_cut [54] (fun t wx=>t=.bool (d0 || d1 || d2)∧Upd Non W wx)
  case first =>
   cases d0 with
   | true=>go_wp2_with fail;go_meet;exact ⟨rfl,u1⟩
   | false =>
    go_wp2_with fail
    refine (CSL.out _ u1).mono ?_;rintro e w2 ⟨rfl,u2⟩;have U2:=u1.then_non u2;obtain ⟨c0,c1,c2,c3,c4,c5,c6,c7,c8,c9,c10,c11,c12,c13⟩:=HC.out _ U2
    cases d1 with
    | true=>go_wp2_with fail;go_meet;exact ⟨rfl,U2⟩
    | false =>
     go_wp2_with fail
     refine (CSR.out _ U2).mono ?_;rintro e w3 ⟨rfl,u3⟩;go_wp2_with fail
     go_meet;exact ⟨by cases d2 <;> rfl,U2.then_non u3⟩
  case rest =>
  obtain ⟨w2,rfl⟩:∃w2:World,w2=wc:=⟨_,rfl⟩;obtain ⟨rfl,u2⟩:=hcut;clear c0 c1 c2 c3 c4 c5 c6 c7 c8 c9 c10 c11 c12 c13 u1 g0 g1 g2;obtain ⟨c0,c1,c2,c3,c4,c5,c6,c7,c8,c9,c10,c11,c12,c13⟩:=HC.out _ u2
  cases hT:(d0 || d1 || d2) with
  | true =>
   have HF:Hid (R=false):=by
    show _=_;rw [HR1.out,dF_]
    ·simp
    ·rintro ⟨q1,q2,q3⟩;rw [←G0.out,←G1.out,←G2.out,q1] at hT;simp at hT;omega
   have HU:=hU.then_non u2;clear hT;go_wp2_with fail
   go_ret;exact ⟨by rw [HF.out];rfl,HU⟩
  | false =>
   have hq:r.l.v=0∧r.l.size≤24∧r.r.size≤24:=by
    rw [←G0.out,←G1.out,←G2.out] at hT;simp only [Bool.or_eq_false_iff,decide_eq_false_iff_not,bne_eq_false_iff_eq] at hT;obtain ⟨⟨q1,q2⟩,q3⟩:=hT;exact ⟨q1,by omega,by omega⟩
   rw [dT_ hq] at HR1;have HT2:=h_ hT;clear hT hq CSL CSR G0 G1 G2;have hmkN:=fun w=>run_mk (P:=Tryz.prog) T_ints' zero_int_ rfl (n+1) (by omega) (by omega) w
   rw [show ((n+1:Nat):Int)=(n:Int)+1 by omega] at hmkN;have hmkB:=fun w=>run_mk (P:=Tryz.prog) T_boolsX zero_boolX rfl (n+1) (by omega) (by omega) w
   rw [show ((n+1:Nat):Int)=(n:Int)+1 by omega] at hmkB;have hmkC:=fun w=>run_mk (P:=Tryz.prog) T_boolsX zero_boolX rfl (m+1) (by omega) (by omega) w
   rw [show ((m+1:Nat):Int)=(m:Int)+1 by omega] at hmkC;rw [Hn.out] at c12;rw [Hm.out] at c13;have HSZ:Hid (r.l.size≤1000000000000∧r.r.size≤1000000000000):=⟨HZ.out.l,HZ.out.r⟩;obtain ⟨w3,Hw3⟩:=nm (w2.alloc (.cells (Array.replicate (n+1) (.int .i64 0)) 3));have ew3:=Hw3.out;have uA:Upd Non w2 w3:=by rw [←ew3];exact Upd.refl.alloc _
   have hgA:VBlk w3 w2.heap.size (0::List.replicate n 0):=by rw [←ew3];exact VBlk.new0 _ _
   have u3:=u2.then_non uA;have hs2:=u2.size;have hsA:w3.heap.size=w2.heap.size+1:=by rw [←ew3];simp
   clear c0 c1 c2 c3 c4 c5 c6 c7 c8 c9 c10 c11;go_wp2_with fail
   obtain ⟨wD,HwD⟩:=nm w3.drew;have uD:Upd Non w3 wD:=by rw [←HwD.out];exact Upd.refl.drew
   have vD:=u3.then_non uD
   have HS:∀w',Upd Non W w'→(w'.cell? ⟨w.heap.size,1,none⟩=some (.int .i64 r.l.v)∧w'.cell? ⟨w.heap.size,2,none⟩=some (.int .i64 r.l.op)∧w'.cell? ⟨w.heap.size,3,none⟩=some (.int .i64 r.l.imm)∧w'.cell? ⟨w.heap.size,4,none⟩=some (.int .i64 r.l.iv)∧w'.cell? ⟨w.heap.size,5,none⟩=some (.slice a.la r.l.kids.length a.lc)∧w'.cell? ⟨w.heap.size,6,none⟩=some (.int .i64 r.r.v)∧w'.cell? ⟨w.heap.size,7,none⟩=some (.int .i64 r.r.op)∧w'.cell? ⟨w.heap.size,8,none⟩=some (.int .i64 r.r.imm)∧w'.cell? ⟨w.heap.size,9,none⟩=some (.int .i64 r.r.iv)∧w'.cell? ⟨w.heap.size,10,none⟩=some (.slice a.ra r.r.kids.length a.rc)∧w'.cell? ⟨w.heap.size,13,none⟩=some (.int .i64 m)):=fun w' u=>by
    obtain ⟨c0,c1,c2,c3,c4,c5,c6,c7,c8,c9,c10,c11,c12,c13⟩:=HC.out w' u;rw [Hm.out] at c13;exact ⟨c1,c2,c3,c4,c5,c6,c7,c8,c9,c10,c13⟩
   have HS:=h_ HS;have hFg:¬(fun k=>k<w.heap.size) w2.heap.size:=by show ¬w2.heap.size<w.heap.size;omega
   have C2:=h_ (r15fits_c r.l wD _ a.la a.lc w2.heap.size (n+1) 0 m (List.replicate n 0) (PtK.upd vD (fun _ _ _ f=>f) _ _ _ HK.out.l) hFg (Blk.upd hgA uD (fun f=>f)) HSZ.out.1 (by simp;omega) (by omega))
   rw [List.length_replicate] at C2;have hl1:(vPt r.l 0 m (List.replicate n 0)).2.length=n:=by rw [vPt_len,List.length_replicate]
   obtain ⟨p1,Hp1⟩:=nm (vPt r.l 0 m (List.replicate n 0)).1;obtain ⟨v1,Hv1⟩:=nm (vPt r.l 0 m (List.replicate n 0)).2;rw [Hp1.out,Hv1.out] at C2 HR1;rw [Hv1.out] at hl1;have HL1:=h_ hl1;unfold pv at C2;clear hl1 hgA;go_wp2_with fail
   refine wp_region_held_drew (S:=fun w'=>w'.cell? ⟨w.heap.size,1,none⟩=some (.int .i64 r.l.v)∧w'.cell? ⟨w.heap.size,2,none⟩=some (.int .i64 r.l.op)∧w'.cell? ⟨w.heap.size,3,none⟩=some (.int .i64 r.l.imm)∧w'.cell? ⟨w.heap.size,4,none⟩=some (.int .i64 r.l.iv)∧w'.cell? ⟨w.heap.size,5,none⟩=some (.slice a.la r.l.kids.length a.lc)∧w'.cell? ⟨w.heap.size,6,none⟩=some (.int .i64 r.r.v)∧w'.cell? ⟨w.heap.size,7,none⟩=some (.int .i64 r.r.op)∧w'.cell? ⟨w.heap.size,8,none⟩=some (.int .i64 r.r.imm)∧w'.cell? ⟨w.heap.size,9,none⟩=some (.int .i64 r.r.iv)∧w'.cell? ⟨w.heap.size,10,none⟩=some (.slice a.ra r.r.kids.length a.rc)∧w'.cell? ⟨w.heap.size,13,none⟩=some (.int .i64 m)) (by kernel_rfl) (by rw [HwD.out];exact HS.out _ vD) (fun hHeld=>?_)
   rw [HwD.out] at hHeld ⊢;refine wpT 0 ?_;(try simp only [y_,z_]);refine wpT 1 ?_;(try simp only [y_,z_]);refine wpT 2 ?_;(try simp only [y_,z_]);refine wpT 3 ?_;(try simp only [y_,z_]);refine wpT 4 ?_;(try simp only [y_,z_]);refine aR_ (rs:=[5]) (by kernel_rfl) (by simp) ?_;refine aC_ rfl (fun K hK=>?_) aN_;go_simp;refine C2.out.mono ?_;rintro e w5 ⟨rfl,hg5,u5⟩;have U5:Upd Non W w5:=vD.trans u5 (fun i hi h=>by omega);have HG5:=h_ hg5;clear hg5 C2;go_wp2_with fail
   refine hK.out _ _ ?_ (fun hHeld=>?_)
   ·exact HS.out _ U5
   clear hK K;(try simp only [y_,z_])
   cases p1 with
   | false =>
    refine wpT 6 ?_;(try simp only [y_,z_]);refine wpT 7 ?_;(try simp only [y_,z_]);refine wpU 8 ?_;(try simp only [y_,z_]);refine wpU 9 ?_;(try simp only [y_,z_]);refine wpU 10 ?_;(try simp only [y_,z_]);refine wpU 11 ?_;(try simp only [y_,z_]);refine wpU 12 ?_;(try simp only [y_,z_]);refine wpU 13 ?_;(try simp only [y_,z_]);refine wpU 14 ?_;(try simp only [y_,z_]);refine wpU 15 ?_;(try simp only [y_,z_]);refine wpU 16 ?_;(try simp only [y_,z_]);refine wpU 17 ?_;(try simp only [y_,z_]);refine wpU 18 ?_;(try simp only [y_,z_]);refine wpT 19 ?_;(try simp only [y_,z_]);refine aD_ (by kernel_rfl) ?_ _;have HF:Hid (R=false):=by show _=_;rw [HR1.out];simp
    have HU:=hU.then_non U5;go_wp2_with fail
    go_ret;exact ⟨by rw [HF.out];rfl,HU⟩
   | true =>
    have C3:=h_ (fun (w':World) (u:Upd Non w5 w')=>r15fits_c r.r w' _ a.ra a.rc w2.heap.size (n+1) (pSortF r.l.op) m v1 (PtK.upd (U5.then_non u) (fun _ _ _ f=>f) _ _ _ HK.out.r) hFg (Blk.upd HG5.out u (fun f=>f)) HSZ.out.2 (by rw [HL1.out];omega) (by omega))
    rw [HL1.out] at C3;have CP:=h_ (fun (w':World)=>pSort_c r.l.op w');obtain ⟨so,Hso⟩:=nm (pSortF r.l.op);rw [Hso.out] at C3 HR1 CP;have hl2:(vPt r.r so m v1).2.length=n:=by rw [vPt_len,HL1.out]
    obtain ⟨p2,Hp2⟩:=nm (vPt r.r so m v1).1;obtain ⟨v2,Hv2⟩:=nm (vPt r.r so m v1).2;rw [Hp2.out,Hv2.out] at C3 HR1;rw [Hv2.out] at hl2;have HL2:=h_ hl2;unfold pv at C3;clear hl2;refine wpT 6 ?_;(try simp only [y_,z_]);refine wpT 7 ?_;(try simp only [y_,z_]);refine wpT 8 ?_;(try simp only [y_,z_]);refine wpT 9 ?_;(try simp only [y_,z_]);refine wpT 10 ?_;(try simp only [y_,z_]);refine wpT 11 ?_;(try simp only [y_,z_]);refine wpT 12 ?_;(try simp only [y_,z_]);refine wpAnyH_takeC (i:=13) (v:=?v1) rfl (by kernel_rfl) (by kernel_rfl) (by kernel_rfl) (fun _ _ _ h=>h) ⟨by rfl,?f1,?a1,?r1,?c1⟩ (by assumption) ?m1
    case r1=>intro w;go_simp;constructor <;> with_reducible rfl
    case c1=>intro W hSw;refine (CP.out W).mono ?_;rintro e w' ⟨rfl,rfl⟩;constructor <;> with_reducible rfl
    (try simp only [y_,z_]);refine wpT 14 ?_;(try simp only [y_,z_]);refine wpT 15 ?_;(try simp only [y_,z_]);refine wpT 16 ?_;(try simp only [y_,z_]);refine aR_ (rs:=[17]) (by kernel_rfl) (by simp) ?_;refine aC_ rfl (fun K hK=>?_) aN_;go_simp;refine (C3.out _ Upd.refl).mono ?_;rintro e w7 ⟨rfl,hg7,u7⟩;have U7:Upd Non W w7:=U5.trans u7 (fun i hi h=>by omega);have HG7:=h_ hg7;clear hg7 C3;go_wp2_with fail
    refine hK.out _ _ ?_ (fun hHeld=>?_)
    ·exact HS.out _ U7
    clear hK K;(try simp only [y_,z_]);refine wpT 18 ?_;(try simp only [y_,z_]);refine wpT 19 ?_;(try simp only [y_,z_]);refine aD_ (by kernel_rfl) ?_ _
    cases p2 with
    | false =>
     have HF:Hid (R=false):=by show _=_;rw [HR1.out];simp
     have HU:=hU.then_non U7;go_wp2_with fail
     go_ret;exact ⟨by rw [HF.out];rfl,HU⟩
    | true =>
     obtain ⟨x1,Hx1⟩:=nm (((markV (nodes r.l) (List.replicate (n+1) false)).drop 1).all id);obtain ⟨x2,Hx2⟩:=nm (((markI (nodes r.l) (List.replicate (m+1) false)).drop 1).all id);obtain ⟨x3,Hx3⟩:=nm (r.conds.all fun c=>condF c (0::v2) (m:Int));rw [Hx1.out,Hx2.out,Hx3.out] at HR1;have HR2:Hid (R=(x1&&(x2&&x3))):=by show _=_;rw [HR1.out];simp [Bool.and_assoc]
     have HVL1:Hid ((markV (nodes r.l) (List.replicate (n+1) false)).length=n+1):=by show _=_;rw [Go.Proofs.YtifhejahbbnkiaaGreat.markV_len,List.length_replicate]
     have HIL1:Hid ((markI (nodes r.l) (List.replicate (m+1) false)).length=m+1):=by show _=_;rw [Go.Proofs.YtifhejahbbnkiaaGreat.markI_len,List.length_replicate]
     have HB1:Hid (x1=true↔∀i:Nat,1≤i→i≤n→(markV (nodes r.l) (List.replicate (n+1) false)).getD i false=true):=by
      show _↔_;rw [←Hx1.out,all_drop (d:=false) HVL1.out];rfl
     have HB2:Hid (x2=true↔∀i:Nat,1≤i→i≤m→(markI (nodes r.l) (List.replicate (m+1) false)).getD i false=true):=by
      show _↔_;rw [←Hx2.out,all_drop (d:=false) HIL1.out];rfl
     obtain ⟨w8,Hw8⟩:=nm (w7.alloc (.cells (Array.replicate (n+1) (.bool false)) 4));have ew8:=Hw8.out;have u8:Upd Non w7 w8:=by rw [←ew8];exact Upd.refl.alloc _
     have hgp:BBlk w8 w7.heap.size (List.replicate (n+1) false):=by rw [←ew8];exact BBlk.new _ _
     have hs8:w8.heap.size=w7.heap.size+1:=by rw [←ew8];simp
     obtain ⟨w9,Hw9⟩:=nm (w8.alloc (.cells (Array.replicate (m+1) (.bool false)) 4));have ew9:=Hw9.out;have u9:Upd Non w8 w9:=by rw [←ew9];exact Upd.refl.alloc _
     have hgi:BBlk w9 (w7.heap.size+1) (List.replicate (m+1) false):=by rw [←ew9,←hs8];exact BBlk.new _ _
     have hgp9:BBlk w9 w7.heap.size (List.replicate (n+1) false):=Blk.upd hgp u9 (fun f=>f);have U8:=U7.then_non u8;have U9:=U8.then_non u9;have hs7:=U7.size;have hFp:¬(fun k=>k<w.heap.size) w7.heap.size:=by show ¬w7.heap.size<w.heap.size;omega
     have hFi:¬(fun k=>k<w.heap.size) (w7.heap.size+1):=by show ¬w7.heap.size+1<w.heap.size;omega
     have C4:=h_ (r15occurring_c r.l w9 _ a.la a.lc w7.heap.size (n+1) (w7.heap.size+1) (m+1) (List.replicate (n+1) false) (List.replicate (m+1) false) (PtK.upd U9 (fun _ _ _ f=>f) _ _ _ HK.out.l) hFp hFi (by omega) hgp9 hgi HSZ.out.1)
     rw [List.length_replicate,List.length_replicate] at C4;obtain ⟨V1,HV1⟩:=nm (markV (nodes r.l) (List.replicate (n+1) false));obtain ⟨I1,HI1⟩:=nm (markI (nodes r.l) (List.replicate (m+1) false));rw [HV1.out] at C4 HVL1 HB1;rw [HI1.out] at C4 HIL1 HB2;unfold pv at C4;obtain ⟨_,_,_,_,_,_,_,_,_,_,_,_,d12,_⟩:=HC.out _ U7;rw [Hn.out] at d12;obtain ⟨_,_,_,_,_,_,_,_,_,_,_,_,_,d13⟩:=HC.out _ U8;rw [Hm.out] at d13;obtain ⟨_,f1,f2,f3,f4,f5,_,_,_,_,_,_,_,_⟩:=HC.out _ U9;clear hgp hgi hgp9 HR1 c12 c13;go_wp2_with fail
     refine C4.out.mono ?_;rintro e wA ⟨rfl,hgp,hgi,uA⟩;have UA:Upd Non W wA:=U9.trans uA (fun i hi h=>by omega);have HU:=hU.then_non UA
     have HGA:Hid (VBlk wA w2.heap.size (0::v2)):=by
      have h1:=Blk.upd HG7.out u8 (fun f=>f);have h2:=Blk.upd h1 u9 (fun f=>f);exact Blk.upd h2 uA (by have:=Blk.lt HG7.out;omega)
     clear C4 d12 d13 f1 f2 f3 f4 f5 hmkN hmkB hmkC;go_wp2_with fail
     go_loopg [6] n (fun g i wr=>∃k:Nat,Hid (g=n+1 - k)∧1≤k∧k≤n+1∧i=.int .i64 k∧Hid (∀j:Nat,1≤j→j<k→V1.getD j false=true)∧wA=wr)
     case atStart=>exact ⟨1,by show _=_;omega,by omega,by omega,rfl,fun j h1 h2=>by omega,rfl⟩
     case round =>
      obtain ⟨k,Hg,hk1,hk2,rfl,HA,rfl⟩:=hrel;by_cases hlt:k<n+1
      ·have t3:decide ((k:Int)<(n:Int)+1)=true:=dT_ (by omega);have hkN:(k:Int)<(n:Int)+1:=by omega
       have hk0:(0:Int)≤(k:Int):=by omega
       have z1:=BBlk.cell hgp (i:=k) (by rw [HVL1.out];omega);obtain ⟨z,Hz⟩:=nm (V1.getD k false);rw [Hz.out] at z1
       cases z with
       | false =>
        have hb:x1=false:=by
         rw [Bool.eq_false_iff];intro q;have:=HB1.out.1 q k hk1 (by omega);rw [Hz.out] at this;cases this
        have HF:Hid (R=false):=by show _=_;rw [HR2.out,hb];simp
        clear hb;go_wp2_with fail
        go_ret;exact ⟨by rw [HF.out];rfl,HU⟩
       | true =>
        have HA2:Hid (∀j:Nat,1≤j→j<k+1→V1.getD j false=true):=by
         intro j j1 j2;by_cases e:j=k
         ·rw [e];exact Hz.out
         ·exact HA.out j j1 (by omega)
        go_wp2_with fail
        go_roundg (n+1 - (k+1))
        case measure=>rw [Hg.out];omega
        case rel=>exact ⟨k+1,rfl,by omega,by omega,by go_num,HA2,rfl⟩
      ·have t3:decide ((k:Int)<(n:Int)+1)=false:=dF_ (by omega);have hb1:x1=true:=HB1.out.2 (fun i i1 i2=>HA.out i i1 (by omega));subst hb1;have HR3:Hid (R=(x2&&x3)):=by show _=_;rw [HR2.out];rfl
       clear HA Hg hk1 hk2 hlt;go_wp2_with fail
       go_loopg [7] m (fun g i wr=>∃k:Nat,Hid (g=m+1 - k)∧1≤k∧k≤m+1∧i=.int .i64 k∧Hid (∀j:Nat,1≤j→j<k→I1.getD j false=true)∧wA=wr)
       case atStart=>exact ⟨1,by show _=_;omega,by omega,by omega,rfl,fun j h1 h2=>by omega,rfl⟩
       case round =>
        obtain ⟨k,Hg,hk1,hk2,rfl,HA,rfl⟩:=hrel;by_cases hlt:k<m+1
        ·have t3:decide ((k:Int)<(m:Int)+1)=true:=dT_ (by omega);have hkN:(k:Int)<(m:Int)+1:=by omega
         have hk0:(0:Int)≤(k:Int):=by omega
         have z1:=BBlk.cell hgi (i:=k) (by rw [HIL1.out];omega);obtain ⟨z,Hz⟩:=nm (I1.getD k false);rw [Hz.out] at z1
         cases z with
         | false =>
          have hb:x2=false:=by
           rw [Bool.eq_false_iff];intro q;have:=HB2.out.1 q k hk1 (by omega);rw [Hz.out] at this;cases this
          have HF:Hid (R=false):=by show _=_;rw [HR3.out,hb];simp
          clear hb;go_wp2_with fail
          go_ret;exact ⟨by rw [HF.out];rfl,HU⟩
         | true =>
          have HA2:Hid (∀j:Nat,1≤j→j<k+1→I1.getD j false=true):=by
           intro j j1 j2;by_cases e:j=k
           ·rw [e];exact Hz.out
           ·exact HA.out j j1 (by omega)
          go_wp2_with fail
          go_roundg (m+1 - (k+1))
          case measure=>rw [Hg.out];omega
          case rel=>exact ⟨k+1,rfl,by omega,by omega,by go_num,HA2,rfl⟩
        ·have t3:decide ((k:Int)<(m:Int)+1)=false:=dF_ (by omega);have hb1:x2=true:=HB2.out.2 (fun i i1 i2=>HA.out i i1 (by omega));subst hb1;have HR4:Hid (R=(x3)):=by show _=_;rw [HR3.out];rfl
         clear HA Hg hk1 hk2 hlt;obtain ⟨cn,Hcn⟩:=nm r.conds.length;have hcn:=H6.out;rw [Hcn.out] at hcn;go_wp2_with fail
         go_loopg [8] cn (fun g i wr=>∃q:Nat,Hid (g=cn - q)∧q≤cn∧i=.int .i64 q∧Hid (∀j (h:j<r.conds.length),j<q→condF r.conds[j] (0::v2) (m:Int)=true)∧Upd Non wA wr)
         case atStart=>exact ⟨0,rfl,by omega,rfl,fun j h1 h2=>by omega,Upd.refl⟩
         case round =>
          obtain ⟨q,Hg,hq,rfl,HA,hu⟩:=hrel;have HUC:=UA.then_non hu;by_cases hlt:q<cn
          ·have hql:q<r.conds.length:=by rw [Hcn.out];exact hlt
           have hcv:=HK.out.c.upd HUC (fun _ _ _ f=>f);obtain ⟨cb,co,ecA,hF,hcb,k0,k1,k2,k3⟩:=hcv.at_ hql
           have hcond:Hid (∀b,condF r.conds[q] (0::v2) (m:Int)=b→(b=false→R=false)∧(b=true→∀j (h:j<r.conds.length),j<q+1→condF r.conds[j] (0::v2) (m:Int)=true)):=by
            intro b hb;refine ⟨fun h=>?_,fun h j hj1 hj2=>?_⟩
            ·rw [HR4.out,←Hx3.out,Bool.eq_false_iff];intro h2;rw [List.all_eq_true] at h2;have:=h2 _ (List.getElem_mem hql);rw [hb,h] at this;cases this
            ·by_cases e:j=q
             ·subst e;rw [hb,h]
             ·exact HA.out j hj1 (by omega)
           generalize r.conds[q]=x at *;obtain ⟨wE,HwE⟩:=nm wr.drew;have uE:Upd Non wr wE:=by rw [←HwE.out];exact Upd.refl.drew
           have UE:=HUC.then_non uE
           have HS3:Hid (∀w',Upd Non wr w'→(w'.cell? ⟨w.heap.size,11,none⟩=some (.slice (some ⟨cb,co,none⟩) cn a.cc)∧w'.cell? ⟨w.heap.size,13,none⟩=some (.int .i64 m)∧w'.cell? ⟨cb,co+q * 4,none⟩=some (.int .i64 x.kind)∧w'.cell? ⟨cb,co+q * 4+1,none⟩=some (.int .i64 x.a)∧w'.cell? ⟨cb,co+q * 4+2,none⟩=some (.int .i64 x.b)∧w'.cell? ⟨cb,co+q * 4+3,none⟩=some (.int .i64 x.n))):=fun w' u=>by
            obtain ⟨_,_,_,_,_,_,_,_,_,_,_,d11,_,d13⟩:=HC.out _ (HUC.then_non u);rw [ecA,Hcn.out] at d11;rw [Hm.out] at d13;exact ⟨d11,d13,u_ k0 u (fun f=>f),u_ k1 u (fun f=>f),u_ k2 u (fun f=>f),u_ k3 u (fun f=>f)⟩
           have CC:=h_ (r15validCond_c x (0::v2) (m:Int) (some ⟨w2.heap.size,0,none⟩) (n+1) (fun _=>True) wE (VBlk.ints (Blk.upd (Blk.upd HGA.out hu (fun f=>f)) uE (fun f=>f))))
           rw [List.length_cons,HL2.out] at CC;obtain ⟨cr,Hcr⟩:=nm (condF x (0::v2) (m:Int));rw [Hcr.out] at CC hcond;have HCD:=h_ (hcond.out cr rfl);have hq0:(0:Int)≤(q:Int):=by omega
           have hqn:(q:Int)<(cn:Int):=by omega
           obtain ⟨d11,d13,_⟩:=HS3.out wr Upd.refl;have t5:decide (q<cn)=true:=dT_ hlt;clear hcv hcond k0 k1 k2 k3 HA;go_wp2_with fail
           refine wp_region_held_drew (S:=fun w'=>w'.cell? ⟨w.heap.size,11,none⟩=some (.slice (some ⟨cb,co,none⟩) cn a.cc)∧w'.cell? ⟨w.heap.size,13,none⟩=some (.int .i64 m)∧w'.cell? ⟨cb,co+q * 4,none⟩=some (.int .i64 x.kind)∧w'.cell? ⟨cb,co+q * 4+1,none⟩=some (.int .i64 x.a)∧w'.cell? ⟨cb,co+q * 4+2,none⟩=some (.int .i64 x.b)∧w'.cell? ⟨cb,co+q * 4+3,none⟩=some (.int .i64 x.n)) (by kernel_rfl) (by rw [HwE.out];exact HS3.out _ uE) (fun hHeld=>?_)
           rw [HwE.out] at hHeld ⊢;refine wpT 0 ?_;(try simp only [y_,z_]);refine wpT 1 ?_;(try simp only [y_,z_]);refine wpT 2 ?_;(try simp only [y_,z_]);refine wpT 3 ?_;(try simp only [y_,z_]);refine wpT 4 ?_;(try simp only [y_,z_]);refine wpT 5 ?_;(try simp only [y_,z_]);refine wpT 6 ?_;(try simp only [y_,z_]);refine wpT 7 ?_;(try simp only [y_,z_]);refine aR_ (rs:=[8]) (by kernel_rfl) (by simp) ?_;refine aC_ rfl (fun K hK=>?_) aN_;go_simp;refine CC.out.mono ?_;rintro e wG ⟨rfl,uG⟩;go_wp2_with fail
           refine hK.out _ _ ?_ (fun hHeld=>?_)
           ·exact HS3.out _ (uE.then_non uG)
           clear hK K;(try simp only [y_,z_]);refine wpT 9 ?_;(try simp only [y_,z_]);refine aD_ (by kernel_rfl) ?_ _;have HU11:=(hu.then_non uE).then_non uG;have HU:=HU.then_non HU11
           cases cr with
           | false =>
            have HF:Hid (R=false):=HCD.out.1 rfl;go_wp2_with fail
            go_ret;exact ⟨by rw [HF.out];rfl,HU⟩
           | true =>
            have HA2:=h_ (HCD.out.2 rfl);go_wp2_with fail
            simp only [←ecA]
            go_roundg (cn - (q+1))
            case measure=>rw [Hg.out];omega
            case rel=>exact ⟨q+1,rfl,by omega,by go_num,HA2.out,HU11⟩
          ·obtain rfl:cn=q:=by omega
           have HF:Hid (R=true):=by
            show _=_;rw [HR4.out,←Hx3.out,List.all_eq_true];intro c hc;obtain ⟨j,hj,rfl⟩:=List.mem_iff_getElem.1 hc;exact HA.out j hj (by rw [←Hcn.out];exact hj)
           have HU:=HU.then_non hu;obtain ⟨_,_,_,_,_,_,_,_,_,_,_,d11,_,_⟩:=HC.out _ HUC;rw [Hcn.out] at d11;have t5:decide (cn<cn)=false:=by simp
           go_wp2_with fail
           go_ret;exact ⟨by rw [HF.out];rfl,HU⟩
set_option maxRecDepth 100000 in
set_option maxHeartbeats 16000000 in
theorem rApplicable_c (r:Rl) (a:RlA) (F:Nat→Prop) (w:World) (hk:RlK w F r a) (hz:RlSz r) :
  Calls Tryz.prog 23 #[rlv r a] w fun e w'=>e=.returned (.bool (applF r))∧Upd Non w w':=by
 obtain ⟨W,HW⟩:=nm (w.alloc (.cells (rlCells r a) 41));have hU:Upd Non w W:=by rw [←HW.out];exact Upd.refl.alloc _
 obtain ⟨rb,hrb⟩:∃b,w.heap.size=b:=⟨_,rfl⟩;have hb:Blk W rb 41 (rlCells r a):=by rw [←HW.out,←hrb];exact Blk.new _ _ _
 have e0:=HW.out;have hK:=(hk.mono (G:=fun k=>k<w.heap.size) (fun _ h _=>h)).upd hU (fun _ _ _ f=>f);have HC:=h_ (fun (w':World) (u:Upd Non W w')=>rl_cells (hb.upd u (fun f=>f)));obtain ⟨c0,c1,c2,c3,c4,c5,c6,c7,c8,c9,c10,c11,c12,c13⟩:=HC.out W Upd.refl;have CV:=h_ (validRule_c r a _ W hK hz);rw [←imp_ref] at CV;have HK:=h_ hK;have HU:=h_ hU;clear hk hz hK hb hU;unfold rlv at CV ⊢;unfold rlCells at CV e0 ⊢;by_cases hv:implF r=true
 ·have hi:=imok_of hv;have hvo:=applF_vo hv;rw [hv] at CV;have HV:=h_ hv;by_cases him:r.imms > 0
  ·have tim:decide (r.imms > 0)=true:=dT_ him;have HR:Hid (applF r=false):=by show _=_;unfold applF;rw [hv,dF_ (show ¬r.imms=0 by omega)];rfl
   clear him hi hvo hv;go_enter Tryz.func23,Tryz.ntmps23;go_wp2_with fail
   refine CV.out.mono ?_;rintro e w1 ⟨rfl,u1⟩;clear c0 c1 c2 c3 c4 c5 c6 c7 c8 c9 c10 c11 c12 c13;obtain ⟨c0,c1,c2,c3,c4,c5,c6,c7,c8,c9,c10,c11,c12,c13⟩:=HC.out w1 u1;go_wp2_with fail
   go_ret;exact ⟨by rw [HR.out];rfl,HU.out.then_non u1⟩
  ·have him0:r.imms=0:=by
    have h:=hv;rw [imp_ref] at h;unfold refF at h;simp only [Bool.and_eq_true,decide_eq_true_eq] at h;omega
   have tim:decide (r.imms > 0)=false:=dF_ him;have HAP:Hid (applF r=(supF r.l&&supF r.r&&decide (gR r≤6)&&r.conds.all fun c=>decide (1≤c.kind∧c.kind≤4))):=by show _=_;unfold applF;rw [hv,dT_ him0];rfl
   have CL:=h_ (fun (w':World) (u:Upd Non W w')=>rSupported_c 64 r.l w' _ a.la a.lc (PtK.upd u (fun _ _ _ f=>f) _ _ _ HK.out.l) hi.wl hvo.1 (by have:=hi.sl;omega))
   have CR:=h_ (fun (w':World) (u:Upd Non W w')=>rSupported_c 64 r.r w' _ a.ra a.rc (PtK.upd u (fun _ _ _ f=>f) _ _ _ HK.out.r) hi.wr hvo.2 (by have:=hi.sr;omega))
   unfold pv at CL CR;have hgl:=gN_le r.l;have hgr:=gN_le r.r;have hsl:=hi.sl;have hsr:=hi.sr;have HI:=h_ hi;have HG:Hid (gR r=gN r.l+gN r.r):=rfl;obtain ⟨gl,Hgl⟩:=nm (gN r.l);obtain ⟨gr,Hgr⟩:=nm (gN r.r);rw [Hgl.out] at hgl HG;rw [Hgr.out] at hgr HG;have hglb:gl≤24:=by omega
   have hgrb:gr≤24:=by omega
   clear hi hvo him0 him hv hgl hgr hsl hsr;obtain ⟨sl,Hsl⟩:=nm (supF r.l);obtain ⟨sr,Hsr⟩:=nm (supF r.r);unfold spR at CL CR;rw [Hsl.out,Hgl.out] at CL;rw [Hsr.out,Hgr.out] at CR;rw [Hsl.out,Hsr.out] at HAP;obtain ⟨nl,Hnl⟩:=nm (if sl=true then (gl:Int) else 0);obtain ⟨nr,Hnr⟩:=nm (if sr=true then (gr:Int) else 0);rw [Hnl.out] at CL;rw [Hnr.out] at CR;go_enter Tryz.func23,Tryz.ntmps23;go_wp2_with fail
   refine CV.out.mono ?_;rintro e w1 ⟨rfl,u1⟩;clear c0 c1 c2 c3 c4 c5 c6 c7 c8 c9 c10 c11 c12 c13;obtain ⟨c0,c1,c2,c3,c4,c5,c6,c7,c8,c9,c10,c11,c12,c13⟩:=HC.out w1 u1;go_wp2_with fail
   refine (CL.out w1 u1).mono ?_;rintro e w2 ⟨rfl,u2'⟩;have u2:=u1.then_non u2';clear c0 c1 c2 c3 c4 c5 c6 c7 c8 c9 c10 c11 c12 c13 u1 u2';obtain ⟨c0,c1,c2,c3,c4,c5,c6,c7,c8,c9,c10,c11,c12,c13⟩:=HC.out w2 u2;go_wp2_with fail
   refine (CR.out w2 u2).mono ?_;rintro e w3 ⟨rfl,u3'⟩;have u3:=u2.then_non u3';clear c0 c1 c2 c3 c4 c5 c6 c7 c8 c9 c10 c11 c12 c13 u2 u3';obtain ⟨c0,c1,c2,c3,c4,c5,c6,c7,c8,c9,c10,c11,c12,c13⟩:=HC.out w3 u3
   cases sl with
   | false =>
    have HR:Hid (applF r=false):=by show _=_;rw [HAP.out];rfl
    go_wp2_with fail
    go_ret;exact ⟨by rw [HR.out];rfl,HU.out.then_non u3⟩
   | true =>
    cases sr with
    | false =>
     have HR:Hid (applF r=false):=by show _=_;rw [HAP.out];rfl
     go_wp2_with fail
     go_ret;exact ⟨by rw [HR.out];rfl,HU.out.then_non u3⟩
    | true =>
     obtain rfl:(gl:Int)=nl:=by have:=Hnl.out;rwa [if_pos rfl] at this
     obtain rfl:(gr:Int)=nr:=by have:=Hnr.out;rwa [if_pos rfl] at this
     by_cases h6:gl+gr≤6
     ·have t6:decide (gl+gr > 6)=false:=dF_ (by omega);have t6':decide ((gl:Int)+(gr:Int) > 6)=false:=dF_ (by omega);have HAP2:Hid (applF r=r.conds.all fun c=>decide (1≤c.kind∧c.kind≤4)):=by show _=_;rw [HAP.out,HG.out,dT_ h6];rfl
      obtain ⟨CA,hCA⟩:∃x,a.ca=x:=⟨_,rfl⟩;have HCV:Hid (CondsV w3 (fun k=>k<w.heap.size) CA r.conds):=by rw [←hCA];exact HK.out.c.upd u3 (fun _ _ _ f=>f)
      rw [hCA] at c11;obtain ⟨nc,Hnc⟩:=nm r.conds.length;rw [Hnc.out] at c11;have hnc6:nc≤6:=by rw [←Hnc.out];exact HI.out.cn
      have HU3:=h_ (HU.out.then_non u3);clear hCA c0 c1 c2 c3 c4 c5 c6 c7 c8 c9 c10 c12 c13 u3 h6;go_wp2_with fail
      go_loopg [7] nc (fun gg i wr=>∃j:Nat,Hid (gg=nc - j)∧j≤nc∧i=.int .i64 j∧Hid ((r.conds.take j).all (fun c=>decide (1≤c.kind∧c.kind≤4))=true)∧wr=w3)
      case atStart=>exact ⟨0,rfl,by omega,rfl,by rw [List.take_zero];rfl,rfl⟩
      case round =>
       obtain ⟨j,Hg,hj,rfl,HT,rfl⟩:=hrel;by_cases hlt:j<nc
       ·have hjl:j<r.conds.length:=by rw [Hnc.out];exact hlt
        obtain ⟨b,o,rfl,_,hbw,k0,k1,k2,k3⟩:=HCV.out.at_ hjl;have hmem:=List.getElem_mem hjl;have htk:=List.take_succ_eq_append_getElem hjl;generalize r.conds[j]=cd at *;have hj0:(0:Int)≤(j:Int):=by omega
        have hjn:(j:Int)<(nc:Int):=by omega
        obtain ⟨kind,Hkind⟩:=nm cd.kind;rw [Hkind.out] at k0;by_cases hkk:1≤kind∧kind≤4
        ·have HT2:Hid ((r.conds.take (j+1)).all (fun c=>decide (1≤c.kind∧c.kind≤4))=true):=by show _=_;rw [htk,List.all_append,HT.out,List.all_cons,Hkind.out,dT_ hkk];rfl
         have h4:kind=1∨kind=2∨kind=3∨kind=4:=by omega
         clear hmem htk hkk;rcases h4 with h | h | h | h <;>
         ·subst h;go_wp2_with fail
          go_roundg (nc - (j+1))
          case measure=>rw [Hg.out];omega
          case rel=>exact ⟨j+1,rfl,by omega,by go_num,HT2.out,rfl⟩
        ·have HR:Hid (applF r=false):=by
          show _=_;rw [HAP2.out,Bool.eq_false_iff];intro q;have:=of_decide_eq_true (List.all_eq_true.1 q cd hmem);rw [Hkind.out] at this;exact hkk this
         obtain ⟨n1,n2,n3,n4⟩:(kind != 1)=true∧(kind != 2)=true∧(kind != 3)=true∧(kind != 4)=true:=by simp;omega
         clear hmem htk hkk;go_wp2_with fail
         go_ret;exact ⟨by rw [HR.out];rfl,HU3.out⟩
       ·obtain rfl:nc=j:=by omega
        have HR:Hid (applF r=true):=by show _=_;rw [HAP2.out];have:=HT.out;rwa [List.take_of_length_le (by rw [Hnc.out];exact Nat.le_refl _)] at this
        go_wp2_with fail
        go_ret;exact ⟨by rw [HR.out];rfl,HU3.out⟩
     ·have t6:decide (gl+gr > 6)=true:=dT_ (by omega);have t6':decide ((gl:Int)+(gr:Int) > 6)=true:=dT_ (by omega);have HR:Hid (applF r=false):=by show _=_;rw [HAP.out,HG.out,dF_ h6];rfl
      clear h6;go_wp2_with fail
      go_ret;exact ⟨by rw [HR.out];rfl,HU.out.then_non u3⟩
 ·have hv:implF r=false:=by simpa using hv
  rw [hv] at CV;have HR:Hid (applF r=false):=by show _=_;unfold applF;rw [hv];rfl
  clear hv;go_enter Tryz.func23,Tryz.ntmps23;go_wp2_with fail
  refine CV.out.mono ?_;rintro e w1 ⟨rfl,u1⟩;go_wp2_with fail
  go_ret;exact ⟨by rw [HR.out];rfl,HU.out.then_non u1⟩
set_option maxRecDepth 100000 in
set_option maxHeartbeats 16000000 in
theorem auApplicable_c (w:World) (F1 F2 G:Nat→Prop) (R0:Rl) (a0:RlA) (A1 A2:Option Addr) (c1 c2:Nat) (xs ys:List Int) (hk0:RlK w G R0 a0) (hz0:RlSz R0)
  (hx:Ints w F1 A1 xs) (hxc:xs.length≤c1) (hxI:∀x∈xs,I64 x) (hxn:xs.length≤100000000000000) (hy:Ints w F2 A2 ys) (hyc:ys.length≤c2) (hyI:∀x∈ys,I64 x) (hyn:ys.length≤100000000000000) :
  Calls Tryz.prog 4 #[rlv R0 a0,.slice A1 xs.length c1,.slice A2 ys.length c2] w fun e w'=>e=.returned (.bool true)∧Upd Non w w':=by
 obtain ⟨W0,HW0⟩:=nm (w.alloc (.cells (rlCells R0 a0) 41));have hU0:Upd Non w W0:=by rw [←HW0.out];exact Upd.refl.alloc _
 obtain ⟨b0,hb0⟩:∃b,w.heap.size=b:=⟨_,rfl⟩;have hbk0:Blk W0 b0 41 (rlCells R0 a0):=by rw [←HW0.out,←hb0];exact Blk.new _ _ _
 have e0:=HW0.out;have CR:=h_ (fun (w':World) (u:Upd Non W0 w')=>aRule_c w' F1 A1 c1 xs (hx.upd (hU0.then_non u) (fun _ _ _ f=>f)) hxc hxI hxn);have CK:=h_ (fun (w':World) (u:Upd Non W0 w')=>kRule_c w' F2 A2 c2 ys (kstr [97]) (hy.upd (hU0.then_non u) (fun _ _ _ f=>f)) hyc hyI hyn);have HK0:=h_ (fun (w':World) (u:Upd Non W0 w')=>((hk0.mono (G:=fun i=>i<w.heap.size) (fun i hi _=>hi)).upd (hU0.then_non u) (fun _ _ _ f=>f)))
 have HR0:=h_ (fun (w':World) (u:Upd Non W0 w')=>rl_cells (hbk0.upd u (fun f=>f)));have HZ0:=h_ hz0;have HU0:=h_ hU0;have HZ1:Hid (RlSz (aRuleF (xs.take 16))):=aRuleF_sz (xs.take 16);have HZ2:Hid (RlSz (kRuleF (kstr [97]) (ys.take 40))):=kRule_sz _ (by rw [kstr_size];decide) _;obtain ⟨R1,HR1⟩:=nm (aRuleF (xs.take 16));obtain ⟨R2,HR2⟩:=nm (kRuleF (kstr [97]) (ys.take 40));rw [HR1.out] at CR HZ1;rw [HR2.out] at CK HZ2;obtain ⟨l1,Hl1⟩:=nm xs.length;obtain ⟨l2,Hl2⟩:=nm ys.length;rw [Hl1.out] at CR ⊢;rw [Hl2.out] at CK ⊢
 have HSZ:Hid (∀r∈[R0,R1,R2],RlSz r):=fun r hr=>by
  simp only [List.mem_cons,List.not_mem_nil,or_false] at hr;rcases hr with rfl | rfl | rfl
  ·exact HZ0.out
  ·exact HZ1.out
  ·exact HZ2.out
 have hs0:=hU0.size;clear hx hxc hxI hxn hy hyc hyI hyn hk0 hz0 hU0 hbk0;unfold rlv;unfold rlCells at e0 ⊢;go_enter Tryz.func4,Tryz.ntmps4
 go_upto_region 1 with fail
 have hkk:({ data:=#[97] }:ByteArray)=kstr [97]:=rfl;clear e0 hb0;obtain ⟨W9,HW9⟩:=nm W0.drew;have HU9:Hid (Upd Non W0 W9):=by show Upd Non W0 W9;rw [←HW9.out];exact Upd.refl.drew
 have hS9:=HR0.out W9 HU9.out;refine wp_region_held_drew (S:=fun w'=>w'.cell? ⟨b0,0,none⟩=some (.string R0.name)∧w'.cell? ⟨b0,1,none⟩=some (.int .i64 R0.l.v)∧w'.cell? ⟨b0,2,none⟩=some (.int .i64 R0.l.op)∧w'.cell? ⟨b0,3,none⟩=some (.int .i64 R0.l.imm)∧w'.cell? ⟨b0,4,none⟩=some (.int .i64 R0.l.iv)∧w'.cell? ⟨b0,5,none⟩=some (.slice a0.la R0.l.kids.length a0.lc)∧w'.cell? ⟨b0,6,none⟩=some (.int .i64 R0.r.v)∧w'.cell? ⟨b0,7,none⟩=some (.int .i64 R0.r.op)∧w'.cell? ⟨b0,8,none⟩=some (.int .i64 R0.r.imm)∧w'.cell? ⟨b0,9,none⟩=some (.int .i64 R0.r.iv)∧w'.cell? ⟨b0,10,none⟩=some (.slice a0.ra R0.r.kids.length a0.rc)∧w'.cell? ⟨b0,11,none⟩=some (.slice a0.ca R0.conds.length a0.cc)∧w'.cell? ⟨b0,12,none⟩=some (.int .i64 R0.vars)∧w'.cell? ⟨b0,13,none⟩=some (.int .i64 R0.imms)) (by kernel_rfl) (by rw [HW9.out];exact hS9) (fun hHeld=>?_)
 rw [HW9.out] at hHeld ⊢;refine wpT 0 ?_;(try simp only [y_,z_]);refine wpT 1 ?_;(try simp only [y_,z_]);refine wpT 3 ?_;(try simp only [y_,z_]);refine wpT 7 ?_;(try simp only [y_,z_]);refine aR_ (rs:=[2]) (by kernel_rfl) (by simp) ?_;refine aC_ rfl (fun K hK=>?_) aN_;go_simp;refine (CR.out W9 HU9.out).mono ?_;rintro e y1 ⟨a1,rfl,hk1,z1⟩;have V1:=h_ (HU9.out.then_non z1);unfold rlv rlCells;refine hK.out _ _ ?_ (fun hHeld=>?_)
 ·exact HR0.out y1 V1.out
 clear hK K;(try simp only [y_,z_]);refine aR_ (rs:=[4]) (by kernel_rfl) (by simp) ?_;refine aC_ rfl (fun K hK=>?_) aN_;go_simp;refine (CK.out y1 V1.out).mono ?_;rintro e y2 ⟨a2,rfl,hk2,z2⟩;have V2:=h_ (V1.out.then_non z2);unfold rlv rlCells;refine hK.out _ _ ?_ (fun hHeld=>?_)
 ·exact HR0.out y2 V2.out
 clear hK K;(try simp only [y_,z_]);refine aR_ (rs:=[5]) (by kernel_rfl) (by simp) ?_;refine aC_ rfl (fun K hK=>?_) aN_;go_simp
 have e3:y2.alloc (.cells #[.string R0.name,.int .i64 R0.l.v,.int .i64 R0.l.op,.int .i64 R0.l.imm,.int .i64 R0.l.iv,.slice a0.la R0.l.kids.length a0.lc,.int .i64 R0.r.v,.int .i64 R0.r.op,.int .i64 R0.r.imm,.int .i64 R0.r.iv,.slice a0.ra R0.r.kids.length a0.rc,.slice a0.ca R0.conds.length a0.cc,.int .i64 R0.vars,.int .i64 R0.imms,.string R1.name,.int .i64 R1.l.v,.int .i64 R1.l.op,.int .i64 R1.l.imm,.int .i64 R1.l.iv,.slice a1.la R1.l.kids.length a1.lc,.int .i64 R1.r.v,.int .i64 R1.r.op,.int .i64 R1.r.imm,.int .i64 R1.r.iv,.slice a1.ra R1.r.kids.length a1.rc,.slice a1.ca R1.conds.length a1.cc,.int .i64 R1.vars,.int .i64 R1.imms,.string R2.name,.int .i64 R2.l.v,.int .i64 R2.l.op,.int .i64 R2.l.imm,.int .i64 R2.l.iv,.slice a2.la R2.l.kids.length a2.lc,.int .i64 R2.r.v,.int .i64 R2.r.op,.int .i64 R2.r.imm,.int .i64 R2.r.iv,.slice a2.ra R2.r.kids.length a2.rc,.slice a2.ca R2.conds.length a2.cc,.int .i64 R2.vars,.int .i64 R2.imms] 41)=y2.alloc (.cells ((([]++(rlCells R0 a0).toList)++(rlCells R1 a1).toList)++(rlCells R2 a2).toList).toArray 41):=rfl
 obtain ⟨W3,HW3⟩:=nm (y2.alloc (.cells ((([]++(rlCells R0 a0).toList)++(rlCells R1 a1).toList)++(rlCells R2 a2).toList).toArray 41));rw [HW3.out] at e3;have u3:Upd Non y2 W3:=by rw [←HW3.out];exact Upd.refl.alloc _
 have b3:Blk W3 y2.heap.size 41 ((([]++(rlCells R0 a0).toList)++(rlCells R1 a1).toList)++(rlCells R2 a2).toList).toArray:=by rw [←HW3.out];exact Blk.new _ _ _
 obtain ⟨ab,Hab⟩:=nm y2.heap.size;rw [Hab.out] at b3;have V3:=h_ (V2.out.then_non u3)
 have hss:w.heap.size≤ab∧y1.heap.size≤ab:=by
  have h1:=HU0.out.size;have h2:=V1.out.size;have h3:=z2.size;have h4:=Hab.out;omega
 have h4:=Hab.out
 have HV:Hid (RlsV W3 (fun _=>True) (some ⟨ab,0,none⟩) [R0,R1,R2]):=by
  have hcs:RsCells W3 (fun k=>k<ab∧¬At (some ⟨ab,0,none⟩) k) ((([]++(rlCells R0 a0).toList)++(rlCells R1 a1).toList)++(rlCells R2 a2).toList) ((([]++[R0])++[R1])++[R2]) :=
   ((RsCells.nil.snoc ((HK0.out W3 V3.out).mono (fun i hi h=>⟨by omega,fun e=>by rw [At.some_] at e;omega⟩))).snoc ((hk1.mono (G:=fun k=>k<ab∧¬At (some ⟨ab,0,none⟩) k) (fun i hi h=>⟨by omega,fun e=>by rw [At.some_] at e;omega⟩)).upd (z2.then_non u3) (fun _ _ _ f=>f))).snoc ((hk2.mono (G:=fun k=>k<ab∧¬At (some ⟨ab,0,none⟩) k) (fun i hi h=>⟨by omega,fun e=>by rw [At.some_] at e;omega⟩)).upd u3 (fun _ _ _ f=>f))
  have hro:RlO W3 (fun k=>k<ab) (some ⟨ab,0,none⟩) 3 3 ((([]++[R0])++[R1])++[R2]):=⟨rfl,_,Own.mk_ b3 (Nat.le_refl _) (by decide) rfl rfl,hcs⟩
  exact hro.view (fun _ _=>trivial) (fun _ _ _=>trivial)
 clear h4 hss b3 u3 hk1 hk2 z1 z2;rw [e3,Hab.out];obtain ⟨SA,HSA⟩:=nm (some (⟨ab,0,none⟩:Addr));rw [HSA.out] at HV ⊢;have HCR0:=HR0.out W3 V3.out;refine hK.out _ _ ?_ (fun hHeld=>?_)
 ·exact HCR0
 clear hK K;(try simp only [y_,z_]);refine wpT 6 ?_;(try simp only [y_,z_]);refine aD_ (by kernel_rfl) ?_ _;clear hHeld e3 HW3 HCR0 CR CK hS9 hkk HSA Hab;have CX:=h_ (fun W=>xAxioms_c W);go_wp2_with fail
 go_loopg [20] 3 (fun gg i wr=>∃(j:Nat),Hid (gg=3 - j)∧j≤3∧i=.int .i64 j∧Hid (Upd Non W3 wr))
 case atStart=>exact ⟨0,rfl,Nat.zero_le _,rfl,Upd.refl⟩
 case round =>
  obtain ⟨j,Hg,hj,rfl,HU⟩:=hrel;by_cases hlt:j<3
  ·have ti:decide ((j:Int)<3)=true:=dT_ (by omega);have hlt3:j < [R0,R1,R2].length:=hlt;obtain ⟨b,o,a,rfl,_,hbw,hat,hrk⟩:=(HV.out.upd HU.out (fun _ _ _ f=>f)).at_ hlt3;have HRZ:Hid (RlSz ([R0,R1,R2][j])):=HSZ.out _ (List.getElem_mem hlt3);generalize [R0,R1,R2][j]=r at *;unfold RlAt at hat;obtain ⟨x0,x1,x2,x3,x4,x5,x6,x7,x8,x9,x10,x11,x12,x13⟩:=hat;obtain ⟨W4,HW4⟩:=nm (wr.alloc (.cells (rlCells r a) 41));have u4:Upd Non wr W4:=by rw [←HW4.out];exact Upd.refl.alloc _
   obtain ⟨rb,hrb⟩:∃q,wr.heap.size=q:=⟨_,rfl⟩;have b4:Blk W4 rb 41 (rlCells r a):=by rw [←HW4.out,←hrb];exact Blk.new _ _ _
   obtain ⟨W5,HW5⟩:=nm W4.drew;have u5:Upd Non W4 W5:=by rw [←HW5.out];exact Upd.refl.drew
   have HBX:=h_ (fun (w':World) (u:Upd Non W5 w')=>rl_cells (b4.upd (u5.then_non u) (fun f=>f)));have HRK:=h_ (hrk.upd (u4.then_non u5) (fun _ _ _ f=>f));have HU5:=h_ ((HU.out.then_non u4).then_non u5);have e4:=HW4.out;unfold rlCells at e4;clear hrk u4 u5 b4
   go_upto_region 4 with fail
   clear e4 hrb x0 x1 x2 x3 x4 x5 x6 x7 x8 x9 x10 x11 x12 x13;have CA:=h_ (aApplicable_c r a _ W5 HRK.out HRZ.out);have CB:=h_ (fun (w':World) (u:Upd Non W5 w')=>rApplicable_c r a _ w' (HRK.out.upd u (fun _ _ _ f=>f)) HRZ.out);obtain ⟨ap,Hap⟩:=nm (applF r);rw [Hap.out] at CA CB;unfold rlv at CA CB;unfold rlCells at CA CB;have hS5:=HBX.out W5 Upd.refl
   refine wp_region_held_drew (S:=fun w'=>w'.cell? ⟨rb,0,none⟩=some (.string r.name)∧w'.cell? ⟨rb,1,none⟩=some (.int .i64 r.l.v)∧w'.cell? ⟨rb,2,none⟩=some (.int .i64 r.l.op)∧w'.cell? ⟨rb,3,none⟩=some (.int .i64 r.l.imm)∧w'.cell? ⟨rb,4,none⟩=some (.int .i64 r.l.iv)∧w'.cell? ⟨rb,5,none⟩=some (.slice a.la r.l.kids.length a.lc)∧w'.cell? ⟨rb,6,none⟩=some (.int .i64 r.r.v)∧w'.cell? ⟨rb,7,none⟩=some (.int .i64 r.r.op)∧w'.cell? ⟨rb,8,none⟩=some (.int .i64 r.r.imm)∧w'.cell? ⟨rb,9,none⟩=some (.int .i64 r.r.iv)∧w'.cell? ⟨rb,10,none⟩=some (.slice a.ra r.r.kids.length a.rc)∧w'.cell? ⟨rb,11,none⟩=some (.slice a.ca r.conds.length a.cc)∧w'.cell? ⟨rb,12,none⟩=some (.int .i64 r.vars)∧w'.cell? ⟨rb,13,none⟩=some (.int .i64 r.imms)) (by kernel_rfl) (by rw [HW5.out];exact hS5) (fun hHeld=>?_)
   rw [HW5.out] at hHeld ⊢;refine wpT 0 ?_;(try simp only [y_,z_]);refine wpT 2 ?_;(try simp only [y_,z_]);refine aR_ (rs:=[1]) (by kernel_rfl) (by simp) ?_;refine aC_ rfl (fun K hK=>?_) aN_;go_simp;refine CA.out.mono ?_;rintro e z1 ⟨rfl,v1⟩;have VV1:=h_ v1;refine hK.out _ _ ?_ (fun hHeld=>?_)
   ·exact HBX.out z1 VV1.out
   clear hK K;(try simp only [y_,z_]);refine aR_ (rs:=[3]) (by kernel_rfl) (by simp) ?_;refine aC_ rfl (fun K hK=>?_) aN_;go_simp;refine (CB.out z1 VV1.out).mono ?_;rintro e z2 ⟨rfl,v2⟩;have VV2:=h_ (VV1.out.then_non v2);refine hK.out _ _ ?_ (fun hHeld=>?_)
   ·exact HBX.out z2 VV2.out
   clear hK K;(try simp only [y_,z_]);refine wpT 4 ?_;(try simp only [y_,z_]);refine aD_ (by kernel_rfl) ?_ _;clear hHeld hS5 v1 v2 CA CB;go_wp2_with fail
   go_roundg (3 - (j+1))
   case measure=>rw [Hg.out];omega
   case rel=>exact ⟨j+1,rfl,by omega,by go_num,HU5.out.then_non VV2.out⟩
  ·have ti:decide ((j:Int)<3)=false:=dF_ (by omega);have CX1:=h_ (CX.out wr);have HU6:=h_ ((HU0.out.then_non V3.out).then_non HU.out);clear Hg HU HV CX HR0 HK0 HSZ;go_wp2_with fail
   refine CX1.out.mono ?_;rintro e w6 ⟨AN,cn,rfl,hoN,hAN,u6⟩;obtain ⟨gN,rfl⟩:=hoN.some_ (by omega);have hcn:(22:Nat)≤cn:=hoN.le;have HON:=h_ hoN;have HU7:=h_ (HU6.out.then_non u6);have CA:=h_ (fun (x:Bs×Bs) W=>xAxiom_c x.1 W);clear CX1 hoN hAN u6 HU6;go_wp2_with fail
   go_loopg [32] 22 (fun gg i wr=>∃(j:Nat),Hid (gg=22 - j)∧j≤22∧i=.int .i64 j∧Hid (Upd Non w6 wr))
   case atStart=>exact ⟨0,rfl,Nat.zero_le _,rfl,Upd.refl⟩
   case round =>
    obtain ⟨j2,Hg,hj2,rfl,HU⟩:=hrel;by_cases hl2:j2<22
    ·have ti2:decide ((j2:Int)<22)=true:=dT_ (by omega);have hal:j2<axL.length:=hl2
     have hcell:wr.cell? ⟨gN,j2,none⟩=some (.string (kstr axL[j2].1)):=by
      rw [(HON.out.upd HU.out (fun _ _ f=>f)).cell_ (i:=j2) (by simpa [nmCs] using hal)];simp [nmCs]
     have HMEM:Hid (axL[j2]∈axL):=List.getElem_mem hal;generalize axL[j2]=xx at *;obtain ⟨ra,hax⟩:=ax_rule HMEM.out;have HAX:=h_ hax;have CA1:=h_ (CA.out xx wr);obtain ⟨nx,Hnx⟩:=nm (kstr xx.1);rw [Hnx.out] at hcell CA1;have HRZ:Hid (RlSz ra):=hax.sz;clear hax;go_wp2_with fail
     refine CA1.out.mono ?_;rintro e w3 ⟨r,a,bb,rfl,hk3,v3,hb1,hb0⟩
     have hb:bb=true:=by
      cases bb with
      | true=>rfl
      | false=>have:=hb0 rfl;rw [HAX.out.eq] at this;cases this
     subst hb;have hrl:r=ra:=by have:=hb1 rfl;rw [HAX.out.eq] at this;injection this with this;exact this.symm
     subst hrl;clear hb0 hb1 CA1 hcell;obtain ⟨W4,HW4⟩:=nm (w3.alloc (.cells (rlCells r a) 41));have u4:Upd Non w3 W4:=by rw [←HW4.out];exact Upd.refl.alloc _
     obtain ⟨rb,hrb⟩:∃q,w3.heap.size=q:=⟨_,rfl⟩;have b4:Blk W4 rb 41 (rlCells r a):=by rw [←HW4.out,←hrb];exact Blk.new _ _ _
     obtain ⟨W5,HW5⟩:=nm W4.drew;have u5:Upd Non W4 W5:=by rw [←HW5.out];exact Upd.refl.drew
     have HBX:=h_ (fun (w':World) (u:Upd Non W5 w')=>rl_cells (b4.upd (u5.then_non u) (fun f=>f)));have HRK:=h_ (hk3.upd (u4.then_non u5) (fun _ _ _ f=>f));have HU5:=h_ (((HU.out.then_non v3).then_non u4).then_non u5);have e4:=HW4.out;unfold rlCells at e4;unfold rlv rlCells;clear hk3 u4 u5 b4 v3
     go_upto_region 11 with fail
     clear e4 hrb;have CA:=h_ (aApplicable_c r a _ W5 HRK.out HRZ.out);have CB:=h_ (fun (w':World) (u:Upd Non W5 w')=>rApplicable_c r a _ w' (HRK.out.upd u (fun _ _ _ f=>f)) HRZ.out);obtain ⟨ap,Hap⟩:=nm (applF r);rw [Hap.out] at CA CB;unfold rlv at CA CB;unfold rlCells at CA CB;have hS5:=HBX.out W5 Upd.refl
     refine wp_region_held_drew (S:=fun w'=>w'.cell? ⟨rb,0,none⟩=some (.string r.name)∧w'.cell? ⟨rb,1,none⟩=some (.int .i64 r.l.v)∧w'.cell? ⟨rb,2,none⟩=some (.int .i64 r.l.op)∧w'.cell? ⟨rb,3,none⟩=some (.int .i64 r.l.imm)∧w'.cell? ⟨rb,4,none⟩=some (.int .i64 r.l.iv)∧w'.cell? ⟨rb,5,none⟩=some (.slice a.la r.l.kids.length a.lc)∧w'.cell? ⟨rb,6,none⟩=some (.int .i64 r.r.v)∧w'.cell? ⟨rb,7,none⟩=some (.int .i64 r.r.op)∧w'.cell? ⟨rb,8,none⟩=some (.int .i64 r.r.imm)∧w'.cell? ⟨rb,9,none⟩=some (.int .i64 r.r.iv)∧w'.cell? ⟨rb,10,none⟩=some (.slice a.ra r.r.kids.length a.rc)∧w'.cell? ⟨rb,11,none⟩=some (.slice a.ca r.conds.length a.cc)∧w'.cell? ⟨rb,12,none⟩=some (.int .i64 r.vars)∧w'.cell? ⟨rb,13,none⟩=some (.int .i64 r.imms)) (by kernel_rfl) (by rw [HW5.out];exact hS5) (fun hHeld=>?_)
     rw [HW5.out] at hHeld ⊢;refine wpT 0 ?_;(try simp only [y_,z_]);refine wpT 2 ?_;(try simp only [y_,z_]);refine aR_ (rs:=[1]) (by kernel_rfl) (by simp) ?_;refine aC_ rfl (fun K hK=>?_) aN_;go_simp;refine CA.out.mono ?_;rintro e z1 ⟨rfl,v1⟩;have VV1:=h_ v1;refine hK.out _ _ ?_ (fun hHeld=>?_)
     ·exact HBX.out z1 VV1.out
     clear hK K;(try simp only [y_,z_]);refine aR_ (rs:=[3]) (by kernel_rfl) (by simp) ?_;refine aC_ rfl (fun K hK=>?_) aN_;go_simp;refine (CB.out z1 VV1.out).mono ?_;rintro e z2 ⟨rfl,v2⟩;have VV2:=h_ (VV1.out.then_non v2);refine hK.out _ _ ?_ (fun hHeld=>?_)
     ·exact HBX.out z2 VV2.out
     clear hK K;(try simp only [y_,z_]);refine wpT 4 ?_;(try simp only [y_,z_]);refine aD_ (by kernel_rfl) ?_ _;clear hHeld hS5 v1 v2 CA CB;go_wp2_with fail
     go_roundg (22 - (j2+1))
     case measure=>rw [Hg.out];omega
     case rel=>exact ⟨j2+1,rfl,by omega,by go_num,HU5.out.then_non VV2.out⟩
    ·have ti2:decide ((j2:Int)<22)=false:=dF_ (by omega);go_wp2_with fail
     refine (auExamples_c _).mono ?_;rintro e w9 ⟨rfl,u9⟩;go_wp2_with fail
     go_ret;exact ⟨rfl,(HU7.out.then_non HU.out).then_non u9⟩
end Go.Proofs.YtifhejahbbnkiaaGreat
namespace Go.Proofs.YtifhejahbbnkiaaGreat
open Go.RowKit Go.WideShapes Go.ChangeShapes
section
variable {H:Type} {enc:TypeId×Value→H} {P:Program}
theorem post_of_below {f:Func} {s:ChangeSpec} {apart fresh handsOn again:Bool} {W W':World} {args:Array Value} {v:Value} {ds gs:List (DataW H)} {before pa pv:List MemPlace}
  (hW:DataW.Whole enc P f.params.toList s.vars apart W args.toList ds gs before)
  (hres:∀(b:Nat) (sp:Nat→Bool) (hd:Bool),DataW.TrodAll enc P W' b sp hd f.resultTypes.toList (v.resultList f.resultTypes.size) (s.fn H (ds++gs)).results [])
  (hargs:∀sp:Nat→Bool,(∀p∈before,sp p.block=true)→DataW.TrodAll enc P W' 0 sp true f.params.toList args.toList (s.fn H (ds++gs)).args pa)
  (hvars:∀sp:Nat→Bool,(∀p∈before,sp p.block=true)→DataW.TrodVars enc P W' sp s.vars (s.fn H (ds++gs)).vars pv)
  (hps:before=pa++pv) (hb:Below W.heap.size W W')
  (hok:∀(j:Nat) (t:TypeId) (r:Value),f.resultTypes[j]?=some t→(v.resultList f.resultTypes.size)[j]?=some r→Value.okWide P W' .any 0 t r) :
  s.post enc P f apart fresh handsOn again W args v W':=by
 have hlt:∀p∈before,p.block<W.heap.size:=fun p hp=>hW.lt p hp
 have hold:∀p∈before,(fun b=>decide (b<W.heap.size)) p.block=true:=fun p hp=>by simpa using hlt p hp
 refine ⟨ds,gs,before,[],pa,pv,hW,hres _ _ _,hargs _ hold,hvars _ hold,World.keptBut_mono (fun p hp=>⟨hp,?_⟩) (hb.frame (·∈before)),fun _=>?_⟩
 ·rw [hps,List.mem_append] at hp;exact Or.inr hp
 ·obtain ⟨_,_,_,_,_,hz,hn⟩:=hW;refine ⟨hok,_,_,([]++pa)++pv,⟨[]++pa,pv,trodAll_append (hargs _ (fun _ _=>rfl)) (hres _ _ _),hvars _ (fun _ _=>rfl),rfl,?_,?_⟩,?_⟩
  ·intro b off hp;have hin:MemPlace.cell b off∈before:=by rw [hps];simpa using hp
   rw [hb.frozen (hlt _ hin)];exact hz b off hin
  ·intro ha;have:=hn ha;rw [hps] at this;simpa using this
  ·intro p hp _;rw [hps];simpa using hp
theorem trodAll_stays (hl:laidOutB P=true) {W W':World} {sp:Nat→Bool}:∀{ts:List TypeId} {vs:List Value} {ds:List (DataW H)} {ps:List MemPlace},
  (ts.all fun t=>P.readableRec t&&decide (t<P.types.size))=true→DataW.TrodAll enc P W 0 (fun _=>true) true ts vs ds ps→(∀p∈ps,W.sameAt W' p)→(∀p∈ps,sp p.block=true)→DataW.TrodAll enc P W' 0 sp true ts vs ds ps
 | [],vs,ds,ps,_,h,_,_=>by
  obtain ⟨rfl,rfl,rfl⟩:=trodAll_nil h;exact trodAll_mk0
 | t::ts,vs,ds,ps,ht,h,h1,h2=>by
  obtain ⟨v,vs',d,ds',p,q,rfl,rfl,rfl,hp,hq⟩:=trodAll_cons h;simp only [List.all_cons,Bool.and_eq_true,decide_eq_true_eq] at ht
  exact trodAll_cons_mk (WideElems.Trod_stays hl ht.1.1 ht.1.2 hp (fun x hx=>h1 x (by simp [hx])) (fun x hx=>h2 x (by simp [hx])))
   (trodAll_stays hl ht.2 hq (fun x hx=>h1 x (by simp [hx])) (fun x hx=>h2 x (by simp [hx])))
theorem law_post {f:Func} {s:ChangeSpec} {apart fresh handsOn again:Bool} {W W':World} {args:Array Value} {ds gs:List (DataW H)} {before:List MemPlace} {tb:TypeId}
  (hW:DataW.Whole enc P f.params.toList s.vars apart W args.toList ds gs before) (hl:laidOutB P=true) (hts:(f.params.toList.all fun t=>P.readableRec t&&decide (t<P.types.size))=true) (hv:s.vars=[])
  (hrt:f.resultTypes=#[tb]) (hbool:P.underlying tb=some .bool) (hs:s.fn H (ds++gs)={ results:=[.lit (.bool true)],args:=ds }) (hb:Below W.heap.size W W') :
  s.post enc P f apart fresh handsOn again W args (.bool true) W':=by
 have hW2:=hW;obtain ⟨p,q,hA,hV,rfl,hz,hn⟩:=hW;rw [hv] at hV;obtain ⟨rfl,rfl⟩:=trodVars_none hV;have hlt:∀x∈p,x.block<W.heap.size:=fun x hx=>hW2.lt x (by simpa using hx)
 refine post_of_below (pa:=p) (pv:=[]) hW2 (fun b sp hd=>?_) (fun sp hsp=>?_) (fun sp hsp=>?_) rfl hb ?_
 ·rw [hs,hrt];exact trodAll_mk1 (shut_bool hbool true)
 ·rw [hs];exact trodAll_stays hl hts hA (fun x hx=>hb.same (hlt x hx)) (fun x hx=>hsp x (by simpa using hx))
 ·rw [hs,hv];rfl
 ·intro j t r h1 h2;rw [hrt] at h1 h2
  match j,h1 with
  | 0,h1 =>
   simp at h1;subst h1;simp [Value.resultList] at h2;subst h2;exact okWide_bool_mk hbool true
end
theorem own_:ownKnob Tryz.prog.godebug=none:=by kernel_rfl
theorem laidOut_:laidOutB Tryz.prog=true:=by kernel_rfl
end Go.Proofs.YtifhejahbbnkiaaGreat
namespace Go.Proofs.YtifhejahbbnkiaaGreat
open Go.RowKit Go.WideShapes Go.ChangeShapes Go.ChangeAt
section
variable {H:Type} {enc:TypeId×Value→H} {P:Program} {w:World}
theorem i64_of_wf {n:Int} (h:(Lit.int .i64 n).wf=true):I64 n:=by
 have h1:IntKind.i64.min = -9223372036854775808:=rfl;have h2:IntKind.i64.max=9223372036854775807:=rfl;simp only [Lit.wf,Bool.and_eq_true,decide_eq_true_eq] at h;unfold I64;omega
theorem open_intsV {r:Reach} {b0 base:Nat} {sp:Nat→Bool} {held:Bool} {t e:TypeId} {v:Value} {d:DataW H} {ps:List MemPlace} (ht:P.underlying t=some (.slice e)) (he:P.underlying e=some (.int .i64)) (hc:P.cellsOf e=1) (hby:P.bytesOf e=8)
  (hval:Value.okWide P w r b0 t v) (hd:DataW.Trod enc P w base sp held t v d ps)
  {ts:List TypeId} {ds:List (DataW H)} (hsz:(DataW.weightsEach P ts ds).all (·≤reachBytes)=true) {j:Nat} (htj:ts[j]?=some t) (hdj:ds[j]?=some d) :
  ∃A c xs,v=.slice A xs.length c∧xs.length≤c∧Ints w (fun _=>True) A xs∧(∀x∈xs,I64 x)∧xs.length≤20000000000000:=by
 obtain ⟨a0,len,cap,rfl⟩:=okWide_slice ht hval;obtain ⟨fuel,hf⟩:=hd;rcases open_ints ht he hc hf with ⟨hcs,hx⟩ | ⟨a,len',cap',zs,hcs,_,hl,hm,hz,hx,hcell,hwz⟩
 ·simp [Value.cells] at hcs;obtain ⟨rfl,rfl,rfl⟩:=hcs;exact ⟨none,0,[],rfl,by simp,.inl rfl,by simp,by simp⟩
 ·simp [Value.cells] at hcs;obtain ⟨rfl,rfl,rfl⟩:=hcs;simp only [Prod.mk.injEq] at hx;obtain ⟨rfl,rfl⟩:=hx;have hzl:len≤zs.length:=by rw [hz];split <;> omega
  have hlen:(zs.take len).length=len:=by simp;omega
  refine ⟨some a,cap,zs.take len,by rw [hlen],by omega,?_,fun x hx=>i64_of_wf (hwz x (List.mem_of_mem_take hx)),?_⟩
  ·by_cases h0:len=0
   ·subst h0;exact .inl (by simp)
   ·obtain ⟨b,off,spot⟩:=a;have hspot:spot=none:=by simpa [Addr.add] using World.cell?_spot (hcell 0 (by omega))
    subst hspot;refine .inr ⟨b,off,rfl,trivial,fun k hk=>?_⟩;have hk':k<zs.length:=by simp at hk;omega
    have:=hcell k hk';rw [Addr.add_lit] at this;rw [this];simp [List.getD,hk']
  ·have:=sized_slice hsz htj hdj ht;rw [hby] at this;simp only [lits,List.length_map,List.length_take,List.length_drop,reachBytes] at this;rw [hlen];omega
end
theorem cells_int:Tryz.prog.cellsOf 3=1:=by kernel_rfl
theorem bytes_int:Tryz.prog.bytesOf 3=8:=by kernel_rfl
end Go.Proofs.YtifhejahbbnkiaaGreat
namespace Go.Proofs.YtifhejahbbnkiaaGreat
open Go.RowKit Go.WideShapes Go.ChangeShapes Go.ChangeAt
section
variable {H:Type} {enc:TypeId×Value→H} {P:Program} {w:World}
theorem open_intT {base:Nat} {sp:Nat→Bool} {held:Bool} {t:TypeId} {fuel:Nat} {cs:List Value} {x:DataW H×List MemPlace} (ht:P.underlying t=some (.int .i64)) (h:DataW.trod enc P w base sp held fuel t cs=some x):∃n,cs=[.int .i64 n]∧I64 n:=by
 obtain ⟨n,h1,_,h2⟩:=DataW.trod_int ht h;exact ⟨n,h1,i64_of_wf h2⟩
theorem spot_none {b off:Nat} {spot:Option Nat} {v:Value} (h:w.cell? ((⟨b,off,spot⟩:Addr).add 0)=some v):spot=none:=by simpa [Addr.add] using World.cell?_spot h
end
theorem list_of {α:Type} {p:Nat→α→Prop}:∀(n:Nat),(∀i,i<n→∃a,p i a)→∃l:List α,l.length=n∧∀i (h:i<l.length),p i l[i]
 | 0,_=>⟨[],rfl,by simp⟩
 | n+1,h=>by
  obtain ⟨l,hl,hp⟩:=list_of n (fun i hi=>h i (by omega));obtain ⟨a,ha⟩:=h n (by omega);refine ⟨l++[a],by simp [hl],fun i hi=>?_⟩;by_cases e:i<l.length
  ·rw [List.getElem_append_left e];exact hp i e
  ·have : i=l.length:=by simp at hi;omega
   subst this;simp;rw [hl];exact ha
theorem cells_int64:Tryz.prog.cellsOf 2=1:=by kernel_rfl
end Go.Proofs.YtifhejahbbnkiaaGreat
namespace Go.Proofs.YtifhejahbbnkiaaGreat
open Go.RowKit Go.WideShapes Go.ChangeShapes Go.ChangeAt
section
variable {H:Type}
theorem bulk_slice (elems spare:List (DataW H)):Rows.uptoBulkAll elems+1≤Rows.uptoBulk (.slice elems spare):=by
 simp only [Rows.uptoBulk];omega
theorem bulk_agg (l:List (DataW H)):Rows.uptoBulk (.agg l)=Rows.uptoBulkAll l+1:=by simp only [Rows.uptoBulk]
theorem bulk_string (bytes:List UInt8):Rows.uptoBulk (DataW.lit (H:=H) (.string bytes))=bytes.length+1:=by simp [Rows.uptoBulk]
theorem sizeL_bulk:∀(L:List Pt) (D:List (DataW H)),L.length=D.length→(∀i (h:i<L.length) (g:i<D.length),L[i].size≤Rows.uptoBulk D[i])→Pt.sizeL L≤Rows.uptoBulkAll D
 | [],[],_,_=>by simp [Pt.sizeL,Rows.uptoBulkAll]
 | p::L,d::D,hl,h=>by
  have h0:=h 0 (by simp) (by simp)
  have h1:=sizeL_bulk L D (by simpa using hl) (fun i hi gi=>by
   have:=h (i+1) (by simpa using hi) (by simpa using gi)
   simpa using this)
  simp only [Pt.sizeL,Rows.uptoBulkAll];simp at h0;omega
 | [],_::_,hl,_=>by simp at hl
 | _::_,[],hl,_=>by simp at hl
theorem len_bulk {α:Type} (L:List α) (D:List (DataW H)) (hl:L.length=D.length):L.length≤Rows.uptoBulkAll D:=by
 rw [hl];clear hl
 induction D with
 | nil=>simp
 | cons d D ih =>
  have : 1≤Rows.uptoBulk d:=by
   cases d with
   | lit l=>cases l <;> simp [Rows.uptoBulk]
   | nil=>simp [Rows.uptoBulk]
   | ptr d=>simp [Rows.uptoBulk]
   | slice elems spare=>simp [Rows.uptoBulk]
   | agg parts=>simp [Rows.uptoBulk]
   | iface t d=>simp [Rows.uptoBulk]
   | map entries=>simp [Rows.uptoBulk]
   | held h=>simp [Rows.uptoBulk]
  simp only [List.length_cons,Rows.uptoBulkAll];omega
end
section
variable {H:Type} {enc:TypeId×Value→H} {P:Program} {w:World} {base fuel:Nat} {sp:Nat→Bool} {held:Bool} {t e:TypeId} {cs:List Value} {x:DataW H×List MemPlace}
theorem open_slice_lt (ht:P.underlying t=some (.slice e)) (h:DataW.trod enc P w base sp held fuel t cs=some x) :
  (cs=[.slice none 0 0]∧x=(.nil,[])) ∨
  ∃(a:Addr) (len cap n:Nat) (D Sp:List (DataW H)) (ps:List MemPlace),fuel=n+1∧cs=[.slice (some a) len cap]∧len≤cap∧x=(.slice D Sp,ps)∧D.length=len ∧
   ∀i (hi:i<D.length),∃cs' Pl,w.cells? base (a.add (i * P.cellsOf e)) (P.cellsOf e)=some cs'∧DataW.trod enc P w base sp held n e cs'=some (D[i],Pl):=by
 rcases DataW.trod_slice ht h with h0 | ⟨a,len,cap,elems,rest,n,hn,rfl,rfl,hb,hl,hm,hlen,hel,_,_⟩
 ·exact .inl h0
 ·refine .inr ⟨a,len,cap,n,elems.map (·.1),rest.map (·.1),_,hn,rfl,hl,rfl,by simp [hlen],fun i hi=>?_⟩;have hi':i<elems.length:=by simpa using hi
  have:=hel i (by omega);rw [List.getElem?_eq_getElem hi',Option.bind_eq_some_iff] at this;obtain ⟨cs',h1,h2⟩:=this;exact ⟨cs',elems[i].2,h1,by rw [h2];simp⟩
end
theorem cells_Pattern:Tryz.prog.cellsOf 38=5:=by kernel_rfl
theorem cells_Patterns:Tryz.prog.cellsOf 36=1:=by kernel_rfl
theorem und_Pattern:∃f0 f1 f2 f3 f4:Field,Tryz.prog.underlying 38=some (.struct #[f0,f1,f2,f3,f4])∧f0.type=3∧f0.offset=0∧f1.type=3∧f1.offset=1∧f2.type=2∧f2.offset=2∧f3.type=3∧f3.offset=3∧f4.type=36∧f4.offset=4:=⟨_,_,_,_,_,Tryz.underlying38,rfl,rfl,rfl,rfl,rfl,rfl,rfl,rfl,rfl,rfl⟩
section
variable {H:Type} {enc:TypeId×Value→H} {w:World} {base:Nat} {sp:Nat→Bool} {held:Bool}
set_option maxRecDepth 100000 in
theorem open_ptT:∀(fuel:Nat) {cs:List Value} {x:DataW H×List MemPlace},DataW.trod enc Tryz.prog w base sp held fuel 38 cs=some x →
  ∃(p:Pt) (KA:Option Addr) (kc:Nat),cs=[.int .i64 p.v,.int .i64 p.op,.int .i64 p.imm,.int .i64 p.iv,.slice KA p.kids.length kc]∧PtK w (fun _=>True) p KA kc∧p.size≤Rows.uptoBulk x.1:=by
 intro fuel
 induction fuel using Nat.strongRecOn with
 | ind fuel ih =>
  intro cs x h;obtain ⟨f0,f1,f2,f3,f4,hu,t0,o0,t1,o1,t2,o2,t3,o3,t4,o4⟩:=und_Pattern;obtain ⟨xs,n,hn,rfl,hl,hlen,hf⟩:=DataW.trod_struct hu h;rw [cells_Pattern] at hl
  match cs,hl with
  | [v0,v1,v2,v3,v4],_ =>
   match xs,hlen with
   | [y0,y1,y2,y3,y4],_ =>
    have g0:=hf 0 f0 rfl;have g1:=hf 1 f1 rfl;have g2:=hf 2 f2 rfl;have g3:=hf 3 f3 rfl;have g4:=hf 4 f4 rfl;rw [t0,o0,cells_int] at g0;rw [t1,o1,cells_int] at g1;rw [t2,o2,cells_int64] at g2;rw [t3,o3,cells_int] at g3;rw [t4,o4,cells_Patterns] at g4;simp at g0 g1 g2 g3 g4;obtain ⟨a,e0,i0⟩:=open_intT Tryz.underlying3 g0;obtain ⟨b,e1,i1⟩:=open_intT Tryz.underlying3 g1;obtain ⟨c,e2,i2⟩:=open_intT Tryz.underlying2 g2;obtain ⟨d,e3,i3⟩:=open_intT Tryz.underlying3 g3;simp at e0 e1 e2 e3;subst e0;subst e1;subst e2;subst e3;rcases open_slice_lt Tryz.underlying36 g4 with ⟨hcs,hx⟩ | ⟨A,len,cap,n',D,Sp,ps,hn',hcs,hl,hx,hD,hcell⟩
    ·simp at hcs;subst hcs;refine ⟨.mk a b c d [],none,0,rfl,?_,?_⟩
     ·rw [PtK.iff];exact ⟨Nat.le_refl _,.inl rfl⟩
     ·rw [Pt.size_eq,bulk_agg];simp [Pt.kids,Pt.sizeL]
    ·simp at hcs;subst hcs
     have each:∀i,i<len→∃p:Pt,(∃KA kc,(∀j,j<5→w.cell? ((A.add (i * 5)).add j)=[Value.int .i64 p.v,.int .i64 p.op,.int .i64 p.imm,.int .i64 p.iv,.slice KA p.kids.length kc][j]?)∧PtK w (fun _=>True) p KA kc)∧∀g:i<D.length,p.size≤Rows.uptoBulk D[i]:=fun i hi=>by
      obtain ⟨cs',Pl,h1,h2⟩:=hcell i (by omega);rw [cells_Pattern] at h1;obtain ⟨_,_,h3⟩:=World.cells?_some h1;obtain ⟨p,KA,kc,rfl,h4,h5⟩:=ih n' (by omega) h2;exact ⟨p,⟨KA,kc,h3,h4⟩,fun _=>h5⟩
     obtain ⟨L,hL,hp⟩:=list_of len each;subst hL;refine ⟨.mk a b c d L,some A,cap,rfl,?_,?_⟩
     ·rw [PtK.iff];refine ⟨hl,?_⟩;by_cases h0:L.length=0
      ·exact .inl (List.eq_nil_of_length_eq_zero h0)
      ·obtain ⟨blk,off,spot⟩:=A;obtain ⟨⟨KA,kc,hh,_⟩,_⟩:=hp 0 (by omega);have h1:=hh 0 (by omega);have hspot:spot=none:=spot_none (by simpa [Addr.add] using h1);subst hspot;refine .inr ⟨blk,off,rfl,trivial,PtL.of fun i hi=>?_⟩;obtain ⟨⟨KA,kc,hh,h4⟩,_⟩:=hp i hi;have c0:=hh 0 (by omega);have c1:=hh 1 (by omega);have c2:=hh 2 (by omega);have c3:=hh 3 (by omega);have c4:=hh 4 (by omega);simp only [Addr.add_lit] at c0 c1 c2 c3 c4;exact ⟨KA,kc,c0,c1,c2,c3,c4,h4⟩
     ·rw [Pt.size_eq,bulk_agg];rw [hx];have h1:=bulk_slice D Sp;have h2:=sizeL_bulk L D hD.symm (fun i hi gi=>(hp i hi).2 gi);simp only [List.map_cons,List.map_nil,Rows.uptoBulkAll];show 1+Pt.sizeL L≤_;omega
end
end Go.Proofs.YtifhejahbbnkiaaGreat
namespace Go.Proofs.YtifhejahbbnkiaaGreat
open Go.RowKit Go.WideShapes Go.ChangeShapes Go.ChangeAt
theorem cells_Cond:Tryz.prog.cellsOf 102=4:=by kernel_rfl
theorem cells_Conds:Tryz.prog.cellsOf 39=1:=by kernel_rfl
theorem cells_string:Tryz.prog.cellsOf 9=1:=by kernel_rfl
theorem cells_Rule:Tryz.prog.cellsOf 41=14:=by kernel_rfl
theorem und_Cond:∃f0 f1 f2 f3:Field,Tryz.prog.underlying 102=some (.struct #[f0,f1,f2,f3])∧f0.type=3∧f0.offset=0∧f1.type=3∧f1.offset=1∧f2.type=3∧f2.offset=2∧f3.type=2∧f3.offset=3:=⟨_,_,_,_,Tryz.underlying102,rfl,rfl,rfl,rfl,rfl,rfl,rfl,rfl⟩
theorem und_Rule:∃f0 f1 f2 f3 f4 f5:Field,Tryz.prog.underlying 41=some (.struct #[f0,f1,f2,f3,f4,f5])∧f0.type=9∧f0.offset=0∧f1.type=38∧f1.offset=1∧f2.type=38∧f2.offset=6∧f3.type=39∧f3.offset=11∧f4.type=3∧f4.offset=12∧f5.type=3∧f5.offset=13:=⟨_,_,_,_,_,_,Tryz.underlying41,rfl,rfl,rfl,rfl,rfl,rfl,rfl,rfl,rfl,rfl,rfl,rfl⟩
section
variable {H:Type} {enc:TypeId×Value→H} {w:World} {base:Nat} {sp:Nat→Bool} {held:Bool}
set_option maxRecDepth 100000 in
theorem open_condT {fuel:Nat} {cs:List Value} {x:DataW H×List MemPlace} (h:DataW.trod enc Tryz.prog w base sp held fuel 102 cs=some x) :
  ∃c:Cd,cs=[.int .i64 c.kind,.int .i64 c.a,.int .i64 c.b,.int .i64 c.n]:=by
 obtain ⟨f0,f1,f2,f3,hu,t0,o0,t1,o1,t2,o2,t3,o3⟩:=und_Cond;obtain ⟨xs,n,hn,rfl,hl,hlen,hf⟩:=DataW.trod_struct hu h;rw [cells_Cond] at hl
 match cs,hl with
 | [v0,v1,v2,v3],_ =>
  match xs,hlen with
  | [y0,y1,y2,y3],_ =>
   have g0:=hf 0 f0 rfl;have g1:=hf 1 f1 rfl;have g2:=hf 2 f2 rfl;have g3:=hf 3 f3 rfl;rw [t0,o0,cells_int] at g0;rw [t1,o1,cells_int] at g1;rw [t2,o2,cells_int] at g2;rw [t3,o3,cells_int64] at g3;simp at g0 g1 g2 g3;obtain ⟨a,e0,_⟩:=open_intT Tryz.underlying3 g0;obtain ⟨b,e1,_⟩:=open_intT Tryz.underlying3 g1;obtain ⟨c,e2,_⟩:=open_intT Tryz.underlying3 g2;obtain ⟨d,e3,_⟩:=open_intT Tryz.underlying2 g3;simp at e0 e1 e2 e3;subst e0;subst e1;subst e2;subst e3;exact ⟨⟨a,b,c,d⟩,rfl⟩
set_option maxRecDepth 100000 in
theorem open_condsT {fuel:Nat} {cs:List Value} {x:DataW H×List MemPlace} (h:DataW.trod enc Tryz.prog w base sp held fuel 39 cs=some x) :
  ∃(A:Option Addr) (c:Nat) (L:List Cd),cs=[.slice A L.length c]∧L.length≤c∧CondsV w (fun _=>True) A L∧L.length≤Rows.uptoBulk x.1:=by
 rcases open_slice_lt Tryz.underlying39 h with ⟨hcs,hx⟩ | ⟨A,len,cap,n',D,Sp,ps,hn',hcs,hl,hx,hD,hcell⟩
 ·exact ⟨none,0,[],hcs,by simp,.inl rfl,by simp⟩
 ·have each:∀i,i<len→∃c:Cd,∀j,j<4→w.cell? ((A.add (i * 4)).add j)=[Value.int .i64 c.kind,.int .i64 c.a,.int .i64 c.b,.int .i64 c.n][j]?:=fun i hi=>by
   obtain ⟨cs',Pl,h1,h2⟩:=hcell i (by omega);rw [cells_Cond] at h1;obtain ⟨_,_,h3⟩:=World.cells?_some h1;obtain ⟨c,rfl⟩:=open_condT h2;exact ⟨c,h3⟩
  obtain ⟨L,hL,hp⟩:=list_of len each;subst hL;refine ⟨some A,cap,L,hcs,hl,?_,?_⟩
  ·by_cases h0:L.length=0
   ·exact .inl (List.eq_nil_of_length_eq_zero h0)
   ·obtain ⟨blk,off,spot⟩:=A;have h1:=hp 0 (by omega) 0 (by omega);have hspot:spot=none:=spot_none (by simpa [Addr.add] using h1);subst hspot;refine .inr ⟨blk,off,rfl,trivial,fun i hi=>?_⟩;have c0:=hp i hi 0 (by omega);have c1:=hp i hi 1 (by omega);have c2:=hp i hi 2 (by omega);have c3:=hp i hi 3 (by omega);simp only [Addr.add_lit] at c0 c1 c2 c3;exact ⟨c0,c1,c2,c3⟩
  ·rw [hx];have h1:=bulk_slice D Sp;have h2:=len_bulk L D hD.symm;show L.length≤Rows.uptoBulk (.slice D Sp);omega
theorem open_strT {fuel:Nat} {cs:List Value} {x:DataW H×List MemPlace} (h:DataW.trod enc Tryz.prog w base sp held fuel 9 cs=some x):∃s:ByteArray,cs=[.string s]∧s.size≤Rows.uptoBulk x.1:=by
 obtain ⟨s,h1,h2,_⟩:=DataW.trod_string Tryz.underlying9 h;refine ⟨s,h1,?_⟩;rw [h2];show s.size≤Rows.uptoBulk (DataW.lit (H:=H) (.string s.data.toList));rw [bulk_string,Array.length_toList];exact Nat.le_succ _
set_option maxRecDepth 100000 in
theorem open_rlT {fuel:Nat} {cs:List Value} {x:DataW H×List MemPlace} (h:DataW.trod enc Tryz.prog w base sp held fuel 41 cs=some x) :
  ∃(r:Rl) (a:RlA),cs=(rlCells r a).toList∧RlK w (fun _=>True) r a∧r.l.size+r.r.size+r.conds.length+r.name.size≤Rows.uptoBulk x.1:=by
 obtain ⟨f0,f1,f2,f3,f4,f5,hu,t0,o0,t1,o1,t2,o2,t3,o3,t4,o4,t5,o5⟩:=und_Rule;obtain ⟨xs,n,hn,rfl,hl,hlen,hf⟩:=DataW.trod_struct hu h;rw [cells_Rule] at hl
 match cs,hl with
 | [v0,v1,v2,v3,v4,v5,v6,v7,v8,v9,v10,v11,v12,v13],_ =>
  match xs,hlen with
  | [y0,y1,y2,y3,y4,y5],_ =>
   have g0:=hf 0 f0 rfl;have g1:=hf 1 f1 rfl;have g2:=hf 2 f2 rfl;have g3:=hf 3 f3 rfl;have g4:=hf 4 f4 rfl;have g5:=hf 5 f5 rfl;rw [t0,o0,cells_string] at g0;rw [t1,o1,cells_Pattern] at g1;rw [t2,o2,cells_Pattern] at g2;rw [t3,o3,cells_Conds] at g3;rw [t4,o4,cells_int] at g4;rw [t5,o5,cells_int] at g5;simp at g0 g1 g2 g3 g4 g5;obtain ⟨s,e0,b0⟩:=open_strT g0;obtain ⟨p,KA,kc,e1,k1,b1⟩:=open_ptT _ g1;obtain ⟨q,KB,kd,e2,k2,b2⟩:=open_ptT _ g2;obtain ⟨A,c,L,e3,l3,k3,b3⟩:=open_condsT g3;obtain ⟨a,e4,_⟩:=open_intT Tryz.underlying3 g4;obtain ⟨b,e5,_⟩:=open_intT Tryz.underlying3 g5;simp at e0 e1 e2 e3 e4 e5;obtain ⟨rfl,rfl,rfl,rfl,rfl⟩:=e1;obtain ⟨rfl,rfl,rfl,rfl,rfl⟩:=e2;subst e0;subst e3;subst e4;subst e5;refine ⟨⟨s,p,q,L,a,b⟩,⟨KA,kc,KB,kd,A,c⟩,rfl,⟨k1,k2,k3,l3⟩,?_⟩;rw [bulk_agg];simp only [List.map_cons,List.map_nil,Rows.uptoBulkAll];show p.size+q.size+L.length+s.size≤_;omega
set_option maxRecDepth 100000 in
theorem open_rlV {r:Reach} {b0:Nat} {v:Value} {d:DataW H} {ps:List MemPlace} (hval:Value.okWide Tryz.prog w r b0 41 v) (hd:DataW.Trod enc Tryz.prog w base sp held 41 v d ps) :
  ∃(x:Rl) (a:RlA),v=rlv x a∧RlK w (fun _=>True) x a∧x.l.size+x.r.size+x.conds.length+x.name.size≤Rows.uptoBulk d:=by
 obtain ⟨cs,rfl,_⟩:=okWide_struct Tryz.underlying41 hval;obtain ⟨fuel,hf⟩:=hd;obtain ⟨x,a,e,k,b⟩:=open_rlT hf;have ec:cs=rlCells x a:=Array.ext' (by simpa [Value.cells] using e);subst ec;exact ⟨x,a,rfl,k,b⟩
end
end Go.Proofs.YtifhejahbbnkiaaGreat
