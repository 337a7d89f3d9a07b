/-
  Lemmas and walks that the claim rests on, part 13 (packed by a program).
-/
import Derived.Test.YtifhejahbbnkiaaGreatC4
import Derived.Test.YtifhejahbbnkiaaGreatC2
import Derived.IntWalk
import Derived.Test.YtifhejahbbnkiaaGreatC7
import Derived.Test.YtifhejahbbnkiaaGreatC15
namespace Go.Proofs.YtifhejahbbnkiaaGreat
open Go.RowKit
set_option maxRecDepth 100000 in
set_option maxHeartbeats 8000000 in
theorem satisfies_c (r:Rl) (a:RlA) (F:Nat→Prop) (w:World) (hk:RlK w F r a) (hcn:r.conds.length≤1000000000000) {G:Nat→Prop} {AI:Option Addr} {ci:Nat} {ins:List Int} (hin:Ints w G AI ins) (hil:ins.length≤1000000) (hcs:∀c∈r.conds,1≤c.a∧c.a≤ins.length∧(c.kind=4→1≤c.b∧c.b≤ins.length)) :
  Calls Tryz.prog 33 #[rlv r a,.slice AI ins.length ci] w fun e w'=>e=.returned (.bool (r.conds.all (satC ins)))∧Upd Non w w':=by
 obtain ⟨W,HW⟩:=nm (w.alloc (.cells (rlCells r a) 41));have hU:Upd Non w W:=by rw [←HW.out];exact Upd.refl.alloc _
 have hb:Blk W w.heap.size 41 (rlCells r a):=by rw [←HW.out];exact Blk.new _ _ _
 have e0:=HW.out;have hC:=(hk.c.mono (G:=fun k=>k<w.heap.size) (fun _ h _=>h)).upd hU (fun _ _ _ f=>f);have hin1:=(hin.mono (G:=fun k=>k<w.heap.size) (fun _ h _=>h)).upd hU (fun _ _ _ f=>f);have hc0:=rl_cells hb;obtain ⟨c0,c1,c2,c3,c4,c5,c6,c7,c8,c9,c10,c11,c12,c13⟩:=hc0;obtain ⟨CA,hCA⟩:∃x,a.ca=x:=⟨_,rfl⟩;rw [hCA] at hC c11;obtain ⟨nc,Hnc⟩:=nm r.conds.length;obtain ⟨ni,Hni⟩:=nm ins.length;rw [Hnc.out] at c11 hcn;rw [Hni.out] at hcs hil;rw [Hni.out];have HCS:=h_ hcs;have HC:=h_ hC;have HIN:=h_ hin1;have HU:=h_ hU;clear hk hin hcs hC hin1 hU hb;unfold rlv;unfold rlCells at e0 ⊢;rw [hCA,Hnc.out] at e0 ⊢;clear hCA;go_enter Tryz.func33,Tryz.ntmps33;go_wp2_with fail
 go_loopg [11] nc (fun gg i wr=>∃j:Nat,Hid (gg=nc - j)∧j≤nc∧i=.int .i64 j∧Hid ((r.conds.take j).all (satC ins)=true)∧Hid (Upd Non W wr))
 case atStart=>exact ⟨0,rfl,by omega,rfl,by rw [List.take_zero];rfl,Upd.refl⟩
 case round =>
  obtain ⟨j,Hg,hj,rfl,HT,HUr⟩:=hrel;by_cases hlt:j<nc
  ·have hjl:j<r.conds.length:=by rw [Hnc.out];exact hlt
   obtain ⟨b,o,rfl,_,hbw,k0,k1,k2,k3⟩:=(HC.out.upd HUr.out (fun _ _ _ f=>f)).at_ hjl;have hmem:=List.getElem_mem hjl;have htk:=List.take_succ_eq_append_getElem hjl;generalize r.conds[j]=cd at *;have hj0:(0:Int)≤(j:Int):=by omega
   have hjn:(j:Int)<(nc:Int):=by omega
   obtain ⟨ha1,ha2,hb12⟩:=HCS.out cd hmem;obtain ⟨kind,a_,b_,n_⟩:=cd;simp only at k0 k1 k2 k3 ha1 ha2 hb12;obtain ⟨an,rfl⟩:∃an:Nat,a_=((an+1:Nat):Int):=⟨(a_ - 1).toNat,by omega⟩;have hanl:an<ins.length:=by rw [Hni.out];omega
   obtain ⟨bi,oi,rfl,_,hbi,ki⟩:=(HIN.out.upd HUr.out (fun _ _ _ f=>f)).at_ hanl;obtain ⟨v,Hv⟩:=nm ins[an];rw [Hv.out] at ki;have q1:wrap64 (((an+1:Nat):Int) - 1)=(an:Int):=by rw [wrap64_of (by unfold I64;omega)];omega
   have q2:(0:Int)≤(an:Int):=by omega
   have q3:(an:Int)<(ni:Int):=by omega
   have hgd:ins.getD an 0=v:=by rw [getD_of hanl];exact Hv.out
   have HSC:Hid (satC ins ⟨kind,((an+1:Nat):Int),b_,n_⟩=!(decide (kind=1)&&decide (v=0) || decide (kind=2)&&decide (v<n_) || decide (kind=3)&&decide (v > n_) || decide (kind=4)&&decide (v=ins.getD (b_ - 1).toNat 0))):=by
    show _=_;unfold satC;rw [show (((an+1:Nat):Int) - 1).toNat=an by omega,hgd]
   have HT2:Hid (satC ins ⟨kind,((an+1:Nat):Int),b_,n_⟩=true→(r.conds.take (j+1)).all (satC ins)=true):=fun h=>by rw [htk,List.all_append,HT.out,List.all_cons,h];rfl
   have HF2:Hid (satC ins ⟨kind,((an+1:Nat):Int),b_,n_⟩=false→r.conds.all (satC ins)=false):=fun h=>by
    rw [Bool.eq_false_iff];intro q;rw [List.all_eq_true.1 q _ hmem] at h;cases h
   obtain ⟨AN,HAN⟩:=nm (((an+1:Nat):Int));rw [HAN.out] at k1 q1;clear hmem htk hgd Hv hanl hjl;by_cases e1:kind=1
   ·subst e1;rw [HSC.out] at HT2 HF2;by_cases hv:v=0
    ·have t1:decide (v=0)=true:=dT_ hv;have t1':(v==0)=true:=beq_iff_eq.2 hv;have HT3:Hid (r.conds.all (satC ins)=false):=HF2.out (by rw [t1];rfl);clear HT2 HF2 HSC hv hb12;go_wp2_with fail
     go_ret;exact ⟨by rw [HT3.out];rfl,HU.out.then_non (HUr.out.alloc _)⟩
    ·have t1:decide (v=0)=false:=dF_ hv;have t1':(v==0)=false:=beq_eq_false_iff_ne.2 hv;have HT3:Hid ((r.conds.take (j+1)).all (satC ins)=true):=HT2.out (by rw [t1];simp);clear HT2 HF2 HSC hv hb12;go_wp2_with fail
     go_roundg (nc - (j+1))
     case measure=>rw [Hg.out];omega
     case rel=>exact ⟨j+1,rfl,by omega,by go_num,HT3.out,HUr.out.alloc _⟩
   ·by_cases e2:kind=2
    ·subst e2;rw [HSC.out] at HT2 HF2;by_cases hv:v<n_
     ·have t1:decide (v<n_)=true:=dT_ hv;have HT3:Hid (r.conds.all (satC ins)=false):=HF2.out (by rw [t1];rfl);clear HT2 HF2 HSC hv hb12 e1;go_wp2_with fail
      go_ret;exact ⟨by rw [HT3.out];rfl,HU.out.then_non (HUr.out.alloc _)⟩
     ·have t1:decide (v<n_)=false:=dF_ hv;have HT3:Hid ((r.conds.take (j+1)).all (satC ins)=true):=HT2.out (by rw [t1];simp);clear HT2 HF2 HSC hv hb12 e1;go_wp2_with fail
      go_roundg (nc - (j+1))
      case measure=>rw [Hg.out];omega
      case rel=>exact ⟨j+1,rfl,by omega,by go_num,HT3.out,HUr.out.alloc _⟩
    ·by_cases e3:kind=3
     ·subst e3;rw [HSC.out] at HT2 HF2;by_cases hv:v > n_
      ·have t1:decide (v > n_)=true:=dT_ hv;have HT3:Hid (r.conds.all (satC ins)=false):=HF2.out (by rw [t1];rfl);clear HT2 HF2 HSC hv hb12 e1 e2;go_wp2_with fail
       go_ret;exact ⟨by rw [HT3.out];rfl,HU.out.then_non (HUr.out.alloc _)⟩
      ·have t1:decide (v > n_)=false:=dF_ hv;have HT3:Hid ((r.conds.take (j+1)).all (satC ins)=true):=HT2.out (by rw [t1];simp);clear HT2 HF2 HSC hv hb12 e1 e2;go_wp2_with fail
       go_roundg (nc - (j+1))
       case measure=>rw [Hg.out];omega
       case rel=>exact ⟨j+1,rfl,by omega,by go_num,HT3.out,HUr.out.alloc _⟩
     ·have t1:decide (kind=1)=false:=dF_ e1;have t1':(kind==1)=false:=beq_eq_false_iff_ne.2 e1;have t2:decide (kind=2)=false:=dF_ e2;have t2':(kind==2)=false:=beq_eq_false_iff_ne.2 e2;have t3:decide (kind=3)=false:=dF_ e3;have t3':(kind==3)=false:=beq_eq_false_iff_ne.2 e3;rw [HSC.out] at HT2 HF2;by_cases e4:kind=4
      ·obtain ⟨hb1,hb2⟩:=hb12 e4;subst e4;obtain ⟨bn,rfl⟩:∃bn:Nat,b_=((bn+1:Nat):Int):=⟨(b_ - 1).toNat,by omega⟩;have hbnl:bn<ins.length:=by rw [Hni.out];omega
       obtain ⟨bi2,oi2,hA2,_,_,kj⟩:=(HIN.out.upd HUr.out (fun _ _ _ f=>f)).at_ hbnl;injection hA2 with hA2
       injection hA2 with hA2 hA3
       subst hA2 hA3;obtain ⟨v2,Hv2⟩:=nm ins[bn];rw [Hv2.out] at kj;have hgd:ins.getD bn 0=v2:=by rw [getD_of hbnl];exact Hv2.out
       rw [show (((bn+1:Nat):Int) - 1).toNat=bn by omega,hgd] at HT2 HF2;have p1:wrap64 (((bn+1:Nat):Int) - 1)=(bn:Int):=by rw [wrap64_of (by unfold I64;omega)];omega
       have p2:(0:Int)≤(bn:Int):=by omega
       have p3:(bn:Int)<(ni:Int):=by omega
       obtain ⟨BN,HBN⟩:=nm (((bn+1:Nat):Int));rw [HBN.out] at k2 p1;clear hgd Hv2 hbnl hb1 hb2 hb12 e1 e2 e3 t1 t2 t3 t1' t2' t3';by_cases hv:v=v2
       ·have t1:decide (v=v2)=true:=dT_ hv;have t1':(v==v2)=true:=beq_iff_eq.2 hv;have HT3:Hid (r.conds.all (satC ins)=false):=HF2.out (by rw [t1];simp);clear HT2 HF2 HSC hv;go_wp2_with fail
        go_ret;exact ⟨by rw [HT3.out];rfl,HU.out.then_non (HUr.out.alloc _)⟩
       ·have t1:decide (v=v2)=false:=dF_ hv;have t1':(v==v2)=false:=beq_eq_false_iff_ne.2 hv;have HT3:Hid ((r.conds.take (j+1)).all (satC ins)=true):=HT2.out (by rw [t1];simp);clear HT2 HF2 HSC hv;go_wp2_with fail
        go_roundg (nc - (j+1))
        case measure=>rw [Hg.out];omega
        case rel=>exact ⟨j+1,rfl,by omega,by go_num,HT3.out,HUr.out.alloc _⟩
      ·have t4:decide (kind=4)=false:=dF_ e4;have t4':(kind==4)=false:=beq_eq_false_iff_ne.2 e4;have HT3:Hid ((r.conds.take (j+1)).all (satC ins)=true):=HT2.out (by rw [t1,t2,t3,t4];rfl);clear HT2 HF2 HSC e1 e2 e3 e4 hb12;go_wp2_with fail
       go_roundg (nc - (j+1))
       case measure=>rw [Hg.out];omega
       case rel=>exact ⟨j+1,rfl,by omega,by go_num,HT3.out,HUr.out.alloc _⟩
  ·obtain rfl:nc=j:=by omega
   have HT2:Hid (r.conds.all (satC ins)=true):=by show _=_;have:=HT.out;rwa [List.take_of_length_le (by rw [Hnc.out];exact Nat.le_refl _)] at this
   go_wp2_with fail
   go_ret;exact ⟨by rw [HT2.out];rfl,HU.out.then_non HUr.out⟩
set_option maxHeartbeats 400000 in
theorem div_c (a b:Int) (w:World):Calls Tryz.prog 136 #[.int .i64 a,.int .i64 b] w fun e w'=>e=.returned (.int .i64 (divF a b))∧w=w':=by
 by_cases h0:b=0
 ·subst h0;go_enter Tryz.func136,Tryz.ntmps136;go_wp2_with fail
  go_ret;exact ⟨rfl,rfl⟩
 ·have d0:(b==0)=false:=by simpa using h0
  by_cases h1:b = -1
  ·subst h1;go_enter Tryz.func136,Tryz.ntmps136;go_wp2_with fail
   go_ret;exact ⟨rfl,rfl⟩
  ·have d1:(b == -1)=false:=by simpa using h1
   have HD:Hid (divF a b=wrap64 (a.tdiv b)):=by show _=_;unfold divF;rw [if_neg h0,if_neg h1]
   clear h1;go_enter Tryz.func136,Tryz.ntmps136;go_wp2_with fail
   go_ret;exact ⟨by rw [HD.out];rfl,rfl⟩
theorem boolWord_c (b:Bool) (w:World):Calls Tryz.prog 137 #[.bool b] w fun e w'=>e=.returned (.int .i64 (bW b))∧w=w':=by
 cases b
 all_goals
  go_enter Tryz.func137,Tryz.ntmps137
  go_wp2
  go_ret;exact ⟨rfl,rfl⟩
set_option maxHeartbeats 400000 in
theorem unary_c (op a:Int) (w:World):Calls Tryz.prog 74 #[.int .i64 op,.int .i64 a] w fun e w'=>e=.returned (.int .i64 (unF op a))∧w=w':=by
 by_cases h0:op=20
 ·subst h0;go_enter Tryz.func74,Tryz.ntmps74;go_wp2_with fail
  go_ret;exact ⟨rfl,rfl⟩
 ·by_cases h1:op=21
  ·subst h1;go_enter Tryz.func74,Tryz.ntmps74;go_wp2_with fail
   go_ret;exact ⟨rfl,rfl⟩
  ·have HU:Hid (unF op a=0):=by show _=_;unfold unF;rw [if_neg h0,if_neg h1]
   have d0:(op==20)=false:=by simpa using h0
   have d1:(op==21)=false:=by simpa using h1
   go_enter Tryz.func74,Tryz.ntmps74;go_wp2_with fail
   go_ret;exact ⟨by rw [HU.out];rfl,rfl⟩
set_option maxHeartbeats 4000000 in
theorem binary_c (op a b:Int) (w:World) (h:4≤op) (h':op≤19):Calls Tryz.prog 75 #[.int .i64 op,.int .i64 a,.int .i64 b] w fun e w'=>e=.returned (.int .i64 (binF op a b))∧w=w':=by
 have hop:op=4∨op=5∨op=6∨op=7∨op=8∨op=9∨op=10∨op=11∨op=12∨op=13∨op=14∨op=15∨op=16∨op=17∨op=18∨op=19:=by omega
 clear h h';have CD:=h_ (div_c a b w);rcases hop with rfl | rfl | rfl | rfl | rfl | rfl | rfl | rfl | rfl | rfl | rfl | rfl | rfl | rfl | rfl | rfl
 case inr.inr.inr.inr.inl =>
  by_cases h0:b=0
  ·subst h0;go_enter Tryz.func75,Tryz.ntmps75;go_wp2_with fail
   go_ret;exact ⟨rfl,rfl⟩
  ·have HR:Hid (binF 8 a b=wrap64 (a - wrap64 (divF a b * b))):=by show remF a b=_;unfold remF;rw [if_neg h0]
   have d0:(b==0)=false:=by simpa using h0
   clear h0;obtain ⟨q,Hq⟩:=nm (divF a b);rw [Hq.out] at CD HR;go_enter Tryz.func75,Tryz.ntmps75;go_wp2_with fail
   refine CD.out.mono ?_;rintro e w1 ⟨rfl,rfl⟩;go_wp2_with fail
   go_ret;exact ⟨by rw [HR.out];rfl,rfl⟩
 case inr.inr.inr.inl =>
  obtain ⟨q,Hq⟩:=nm (divF a b);rw [Hq.out] at CD;have HR:Hid (binF 7 a b=q):=Hq.out;go_enter Tryz.func75,Tryz.ntmps75;go_wp2_with fail
  refine CD.out.mono ?_;rintro e w1 ⟨rfl,rfl⟩;go_wp2_with fail
  go_ret;exact ⟨by rw [HR.out];rfl,rfl⟩
 all_goals
  go_enter Tryz.func75,Tryz.ntmps75
  go_wp2_with (go_at_call 137;refine (boolWord_c _ _).mono ?_;rintro e w1 ⟨rfl,rfl⟩)
  go_ret;exact ⟨rfl,rfl⟩
theorem T_i64s:SlT Tryz.prog 56 2 1 8:=by
 obtain ⟨i,h1,h2,h3,h4⟩:=info_parts (show (Tryz.prog.info? 2).map (fun i=>(i.zero,i.size,i.bytes))=some (some (.int .i64 0),1,8) from by kernel_rfl)
 exact ⟨Tryz.underlying56,⟨i,_,h1,h2,h3,h4,rfl⟩,by omega⟩
set_option maxRecDepth 100000 in
set_option maxHeartbeats 8000000 in
theorem r18Evaluate_c (ins:List Int) (G:Nat→Prop) (AI:Option Addr) (ci:Nat) (hn:ins.length≤1000000) (p:Pt):∀(w:World) (F:Nat→Prop) (KA:Option Addr) (kc:Nat),PtK w F p KA kc→Ints w G AI ins→WfP ins.length p→p.size≤1000000000000 →
  Calls Tryz.prog 32 #[pv p KA kc,.slice AI ins.length ci] w fun e w'=>e=evR (evF ins p)∧Upd Non w w':=by
 induction p using Pt.ind with
 | h p ih =>
  intro w F KA kc hp hin hwf hs;have hse:=Pt.size_eq p;have hle:=Pt.len_le p.kids;rw [WfP.iff] at hwf;obtain ⟨hv0,hvn,har,hkw⟩:=hwf;have HI:=h_ ih;have HKW:=h_ hkw;have HT:=h_ (evF_eq ins p);have HPS:=h_ hs;obtain ⟨W,HW⟩:=nm (w.alloc (.cells #[.int .i64 p.v,.int .i64 p.op,.int .i64 p.imm,.int .i64 p.iv,.slice KA p.kids.length kc] 38));have hU:Upd Non w W:=by rw [←HW.out];exact Upd.refl.alloc _
  have hb:Blk W w.heap.size 38 #[.int .i64 p.v,.int .i64 p.op,.int .i64 p.imm,.int .i64 p.iv,.slice KA p.kids.length kc]:=by rw [←HW.out];exact Blk.new _ _ _
  have hsz:W.heap.size=w.heap.size+1:=by rw [←HW.out];simp
  have e0:=HW.out;have c0:=hb.cell 0;have c1:=hb.cell 1;have c2:=hb.cell 2;have c3:=hb.cell 3;have c4:=hb.cell 4;have hpW:=PtK.upd hU (fun _ _ _ f=>f) p KA kc hp;have hinW:=hin.upd hU (fun _ _ _ f=>f);unfold pv;obtain ⟨R,HR⟩:=nm (evF ins p);rw [HR.out] at HT;rw [HR.out];obtain ⟨v,Hv⟩:=nm p.v;obtain ⟨op,Hop⟩:=nm p.op;obtain ⟨imm,Him⟩:=nm p.imm;obtain ⟨iv,Hiv⟩:=nm p.iv;obtain ⟨m,Hm⟩:=nm p.kids.length;obtain ⟨ni,Hni⟩:=nm ins.length;rw [Hv.out] at c0 e0 hv0 hvn har HT hb;rw [Hop.out] at c1 e0 har HT hb;rw [Him.out] at c2 e0 HT hb;rw [Hiv.out] at c3 e0 HT hb;rw [Hm.out] at c4 e0 hle har hb;rw [Hni.out] at hvn hn HKW;rw [Hv.out,Hop.out,Him.out,Hiv.out,Hm.out,Hni.out];have hm12:m≤1000000000000:=by omega
  have CU:=h_ unary_c;have CB:=h_ binary_c;clear ih hse hp hs hkw hin;by_cases hv:0<v
  ·have hvi:(v - 1).toNat<ins.length:=by rw [Hni.out];omega
   obtain ⟨b,o,rfl,hG,hbw,hcell⟩:=hinW.at_ hvi;have HR2:Hid (R=some ins[(v - 1).toNat]):=by show _=_;rw [HT.out,if_pos hv,getD_of hvi]
   generalize ins[(v - 1).toNat]=x at *;obtain ⟨u,hu⟩:∃u:Nat,v=u+1:=⟨(v - 1).toNat,by omega⟩;have hun:((v - 1).toNat)=u:=by omega
   rw [hun] at hcell;clear hun hvi;subst hu;have hw1:wrap64 ((u:Int)+1 - 1)=u:=by unfold wrap64;omega
   have t0:decide ((u:Int)+1 > 0)=true:=dT_ (by omega);go_enter Tryz.func32,Tryz.ntmps32;go_wp2_with fail
   go_ret2;exact ⟨by rw [HR2.out];rfl,hU⟩
  ·obtain rfl:v=0:=by omega
   have har2:=har rfl;have hnp:p.kids.length=m:=Hm.out;have HT2:Hid (R=match allS (p.kids.map (evF ins)) with | none=>none | some k=>evOp op imm iv k):=by have:=HT.out;rw [if_neg (by omega)] at this;exact this
   have HAR:=h_ har2;clear HT har har2 hnp;go_enter Tryz.func32,Tryz.ntmps32;go_wp2_with fail
   go_loopg [6,7,8,9] m (fun g v i _ _ wr=>∃(k:Nat) (A:Option Addr) (c:Nat) (xs:List Int),Hid (g=m - k)∧k≤m∧i=.int .i64 k∧v=.slice A k c∧Hid (xs.length=k)∧Own wr 2 1 A k c (icells xs)∧Hid (∀j,At A j→w.heap.size<j)∧Hid (allS ((p.kids.take k).map (evF ins))=some xs)∧Upd Non W wr)
   case atStart=>exact ⟨0,none,0,[],rfl,by omega,rfl,rfl,rfl,Own.none_,fun j hj=>(At.none_ hj).elim,by show _=_;simp [allS],Upd.refl⟩
   case round =>
    obtain ⟨k,A,c,xs,Hg,hk,rfl,rfl,HL,ho,HA,HS,hu⟩:=hrel;have c4:=u_ c4 hu (fun f=>f);by_cases hlt:k<m
    ·have hkl:k<p.kids.length:=by rw [Hm.out];exact hlt
     obtain ⟨b,o,rfl,hF,hbw,KB,kd,h0,h1,h2,h3,h4,h5⟩:=(PtK.upd hu (fun _ _ _ f=>f) p KA kc hpW).at_ hkl
     have HTK:Hid ((p.kids.take (k+1)).map (evF ins)=(p.kids.take k).map (evF ins)++[evF ins p.kids[k]]):=by
      show _=_;rw [List.take_add_one,List.getElem?_eq_getElem hkl,List.map_append];rfl
     have hmem:=List.getElem_mem hkl;generalize p.kids[k]=q at *;have hqs:q.size≤1000000000000:=by have:=Pt.kids_lt hmem;have:=HPS.out;omega
     have C1:=h_ (HI.out q hmem wr F KB kd h5 (hinW.upd hu (fun _ _ _ f=>f)) (by rw [Hni.out];exact HKW.out q hmem) hqs);unfold pv at C1;rw [Hni.out] at C1;clear h5;go_wp2_with fail
     refine C1.out.mono ?_;rintro e w4 ⟨rfl,hu4⟩;have HU4:Upd Non W w4:=hu.then_non hu4;unfold evR
     cases hq:evF ins q with
     | none =>
      have HR2:Hid (R=none):=by
       have:=HT2.out;rw [allS_none (List.mem_map.2 ⟨q,hmem,hq⟩)] at this;exact this
      clear hq;go_wp2_with fail
      go_ret2;exact ⟨by rw [HR2.out];rfl,hU.then_non HU4⟩
     | some x =>
      have HS5:Hid (allS ((p.kids.take (k+1)).map (evF ins))=some (xs++[x])):=by
       show _=_;rw [HTK.out,allS_snoc,HS.out,hq]
      clear hq;have ho4:=ho.upd hu4 (fun _ _ f=>f);have hsw:=hu.size;have hs4:=hu4.size
      go_wp2_with (at_builtin;refine wpList_app rfl rfl T_i64s rfl (ho4.alloc _) rfl (Sl.new _ _ _) rfl (by simp [Value.oneCell']) (by simp only [maxLen];omega) (by omega) ?_;intro A5 c5 w5 ho5 hu5 hat5)
      have HU5:Upd Non W w5:=(HU4.alloc (.cells #[.int .i64 x] 2)).trans hu5 (fun i hi h=>by have:=HA.out i h;omega)
      have HAt:Hid (∀j,At A5 j→w.heap.size<j):=fun j hj=>by
       rcases hat5 j hj with h | h
       ·exact HA.out j h
       ·rw [h];simp;omega
      have ho6:Own w5 2 1 A5 (k+1) c5 (icells (xs++[x])):=by rw [icells_snoc];exact ho5
      clear ho4 ho5 ho hu4 hu5 hat5;go_wp2_with fail
      go_roundg (m - (k+1))
      case measure=>rw [Hg.out];omega
      case rel=>exact ⟨k+1,A5,c5,xs++[x],rfl,by omega,by go_num,rfl,by show _=_;simp [HL.out],ho6,HAt,HS5,HU5⟩
    ·obtain rfl:m=k:=by omega
     have HT4:Hid (R=evOp op imm iv xs):=by
      have:=HT2.out;have h2:=HS.out;rw [←Hm.out,List.take_length] at h2;rw [h2] at this;exact this
     have hHU:=hU.then_non hu;have c1:=u_ c1 hu (fun f=>f);have c2:=u_ c2 hu (fun f=>f);have c3:=u_ c3 hu (fun f=>f);clear HT2 HS hpW HI HKW hinW hle;by_cases hiv:0<iv
     ·have HR2:Hid (R=none):=by show _=_;rw [HT4.out];unfold evOp;rw [if_pos hiv]
      have t0:decide (iv > 0)=true:=dT_ hiv;go_wp2_with fail
      go_ret2;exact ⟨by rw [HR2.out];rfl,hHU⟩
     ·have t0:decide (iv > 0)=false:=dF_ hiv;by_cases h1:op=1
      ·subst h1;have HR2:Hid (R=some imm):=by show _=_;rw [HT4.out];unfold evOp;rw [if_neg hiv,if_pos rfl]
       go_wp2_with fail
       go_ret2;exact ⟨by rw [HR2.out];rfl,hHU⟩
      ·have t1:(op==1)=false:=by simpa using h1
       have HLN:=h_ (oSorts_len op)
       have HC:Hid (∀i (h:i<xs.length),∃g,A=some ⟨g,0,none⟩∧wr.cell? ⟨g,i,none⟩=some (.int .i64 xs[i])∧∀w',Upd Non wr w'→w'.cell? ⟨g,i,none⟩=some (.int .i64 xs[i])∧w'.cell? ⟨w.heap.size,1,none⟩=some (.int .i64 op)):=by
        intro i h;obtain ⟨g,rfl⟩:=ho.some_ (by have:=HL.out;omega);have hcc:=ho.cell_ (i:=i) (by simpa [icells] using h);rw [show (icells xs)[i]'(by simpa [icells] using h)=.int .i64 xs[i] by simp [icells]] at hcc;exact ⟨g,rfl,hcc,fun w' u=>⟨u_ hcc u (fun f=>f),u_ c1 u (fun f=>f)⟩⟩
       clear ho HA;by_cases h20:op=20
       ·subst h20;have hm1:m=1:=HAR.out.trans (HLN.out.1 (.inl rfl));subst hm1;have HR2:Hid (R=some (unF 20 (xs.getD 0 0))):=by show _=_;rw [HT4.out];unfold evOp;rw [if_neg hiv,if_neg h1,if_pos (.inl rfl)]
        clear HLN
        obtain ⟨x,rfl⟩:∃x,xs=[x]:=by
         have h:=HL.out
         match xs,h with
         | [x],_=>exact ⟨x,rfl⟩
        obtain ⟨g,rfl,hg,hS⟩:=HC.out 0 (by simp);simp only [List.getElem_cons_zero] at hg hS;have HSS:=h_ hS;clear hS HC;go_wp2_with fail
        obtain ⟨wD,HwD⟩:=nm wr.drew;have uD:Upd Non wr wD:=by rw [←HwD.out];exact Upd.refl.drew
        refine wp_region_held_drew (S:=fun w'=>w'.cell? ⟨g,0,none⟩=some (.int .i64 x)∧w'.cell? ⟨w.heap.size,1,none⟩=some (.int .i64 20)) (by kernel_rfl) (by rw [HwD.out];exact HSS.out _ uD) (fun hHeld=>?_)
        rw [HwD.out] at hHeld ⊢;refine wpT 0 ?_;(try simp only [y_,z_]);refine wpT 1 ?_;(try simp only [y_,z_]);refine wpT 2 ?_;(try simp only [y_,z_]);refine wpT 3 ?_;(try simp only [y_,z_]);refine wpT 4 ?_;(try simp only [y_,z_]);refine wpAnyH_takeC (i:=5) (v:=?v1) rfl (by kernel_rfl) (by kernel_rfl) (by kernel_rfl) (fun _ _ _ h=>h) ⟨by rfl,?f1,?a1,?r1,?c1⟩ (by assumption) ?m1
        case r1=>intro w;go_simp;constructor <;> with_reducible rfl
        case c1=>intro W hSw;refine (CU.out _ _ _).mono ?_;rintro e w' ⟨rfl,rfl⟩;constructor <;> with_reducible rfl
        (try simp only [y_,z_]);refine wpT 6 ?_;(try simp only [y_,z_]);refine wpT 7 ?_;(try simp only [y_,z_]);refine aD_ (by kernel_rfl) ?_ _;go_wp2_with fail
        go_ret2;exact ⟨by rw [HR2.out];rfl,hHU.then_non uD⟩
       ·have t2:(op==20)=false:=by simpa using h20
        by_cases h21:op=21
        ·subst h21;have hm1:m=1:=HAR.out.trans (HLN.out.1 (.inr rfl));subst hm1;have HR2:Hid (R=some (unF 21 (xs.getD 0 0))):=by show _=_;rw [HT4.out];unfold evOp;rw [if_neg hiv,if_neg h1,if_pos (.inr rfl)]
         clear HLN
         obtain ⟨x,rfl⟩:∃x,xs=[x]:=by
          have h:=HL.out
          match xs,h with
          | [x],_=>exact ⟨x,rfl⟩
         obtain ⟨g,rfl,hg,hS⟩:=HC.out 0 (by simp);simp only [List.getElem_cons_zero] at hg hS;have HSS:=h_ hS;clear hS HC;go_wp2_with fail
         obtain ⟨wD,HwD⟩:=nm wr.drew;have uD:Upd Non wr wD:=by rw [←HwD.out];exact Upd.refl.drew
         refine wp_region_held_drew (S:=fun w'=>w'.cell? ⟨g,0,none⟩=some (.int .i64 x)∧w'.cell? ⟨w.heap.size,1,none⟩=some (.int .i64 21)) (by kernel_rfl) (by rw [HwD.out];exact HSS.out _ uD) (fun hHeld=>?_)
         rw [HwD.out] at hHeld ⊢;refine wpT 0 ?_;(try simp only [y_,z_]);refine wpT 1 ?_;(try simp only [y_,z_]);refine wpT 2 ?_;(try simp only [y_,z_]);refine wpT 3 ?_;(try simp only [y_,z_]);refine wpT 4 ?_;(try simp only [y_,z_]);refine wpAnyH_takeC (i:=5) (v:=?v2) rfl (by kernel_rfl) (by kernel_rfl) (by kernel_rfl) (fun _ _ _ h=>h) ⟨by rfl,?f2,?a2,?r2,?c2⟩ (by assumption) ?m2
         case r2=>intro w;go_simp;constructor <;> with_reducible rfl
         case c2=>intro W hSw;refine (CU.out _ _ _).mono ?_;rintro e w' ⟨rfl,rfl⟩;constructor <;> with_reducible rfl
         (try simp only [y_,z_]);refine wpT 6 ?_;(try simp only [y_,z_]);refine wpT 7 ?_;(try simp only [y_,z_]);refine aD_ (by kernel_rfl) ?_ _;go_wp2_with fail
         go_ret2;exact ⟨by rw [HR2.out];rfl,hHU.then_non uD⟩
        ·have t3:(op==21)=false:=by simpa using h21
         by_cases hb2:4≤op∧op≤19
         ·have hm1:m=2:=HAR.out.trans (HLN.out.2.1 hb2);subst hm1
          obtain ⟨x,y,rfl⟩:∃x y,xs=[x,y]:=by
           have h:=HL.out
           match xs,h with
           | [x,y],_=>exact ⟨x,y,rfl⟩
          obtain ⟨g,rfl,hg,hS⟩:=HC.out 0 (by simp);obtain ⟨g',e',hg',hS'⟩:=HC.out 1 (by simp);injection e' with e'
          injection e' with e'
          subst e';simp only [List.getElem_cons_zero,List.getElem_cons_succ] at hg hS hg' hS';have HSS:Hid (∀w',Upd Non wr w'→w'.cell? ⟨g,0,none⟩=some (.int .i64 x)∧w'.cell? ⟨g,1,none⟩=some (.int .i64 y)∧w'.cell? ⟨w.heap.size,1,none⟩=some (.int .i64 op)):=fun w' u=>⟨(hS w' u).1,(hS' w' u).1,(hS w' u).2⟩
          have HR2:Hid (R=some (binF op x y)):=by show _=_;rw [HT4.out];unfold evOp;rw [if_neg hiv,if_neg h1,if_neg (by omega),if_pos hb2];rfl
          have t4:decide (op ≥ 4)=true:=dT_ hb2.1;have t5:decide (op≤19)=true:=dT_ hb2.2;have CB2:=h_ (fun w'=>CB.out op x y w' hb2.1 hb2.2);clear hS hS' HC HLN h20 h21 hb2 CB;go_wp2_with fail
          obtain ⟨wD,HwD⟩:=nm wr.drew;have uD:Upd Non wr wD:=by rw [←HwD.out];exact Upd.refl.drew
          refine wp_region_held_drew (S:=fun w'=>w'.cell? ⟨g,0,none⟩=some (.int .i64 x)∧w'.cell? ⟨g,1,none⟩=some (.int .i64 y)∧w'.cell? ⟨w.heap.size,1,none⟩=some (.int .i64 op)) (by kernel_rfl) (by rw [HwD.out];exact HSS.out _ uD) (fun hHeld=>?_)
          rw [HwD.out] at hHeld ⊢;refine wpT 0 ?_;(try simp only [y_,z_]);refine wpT 1 ?_;(try simp only [y_,z_]);refine wpT 2 ?_;(try simp only [y_,z_]);refine wpT 3 ?_;(try simp only [y_,z_]);refine wpT 4 ?_;(try simp only [y_,z_]);refine wpT 5 ?_;(try simp only [y_,z_]);refine wpT 6 ?_;(try simp only [y_,z_]);refine wpT 7 ?_;(try simp only [y_,z_]);refine wpAnyH_takeC (i:=8) (v:=?v3) rfl (by kernel_rfl) (by kernel_rfl) (by kernel_rfl) (fun _ _ _ h=>h) ⟨by rfl,?f3,?a3,?r3,?c3⟩ (by assumption) ?m3
          case r3=>intro w;go_simp;constructor <;> with_reducible rfl
          case c3=>intro W hSw;refine (CB2.out _).mono ?_;rintro e w' ⟨rfl,rfl⟩;constructor <;> with_reducible rfl
          (try simp only [y_,z_]);refine wpT 9 ?_;(try simp only [y_,z_]);refine wpT 10 ?_;(try simp only [y_,z_]);refine aD_ (by kernel_rfl) ?_ _;go_wp2_with fail
          go_ret2;exact ⟨by rw [HR2.out];rfl,hHU.then_non uD⟩
         ·have HT5:Hid (R=if op=22 then some (if xs.getD 0 0≠0 then xs.getD 1 0 else xs.getD 2 0) else none):=by show _=_;rw [HT4.out];unfold evOp;rw [if_neg hiv,if_neg h1,if_neg (by omega),if_neg hb2]
          have t4:(decide (op ≥ 4)&&decide (op≤19))=false:=by simp;omega
          have t6:op<4∧decide (op ≥ 4)=false∨decide (op ≥ 4)=true∧decide (op≤19)=false:=by
           rcases (show op<4∨4≤op by omega) with h | h
           ·exact .inl ⟨h,dF_ (by omega)⟩
           ·exact .inr ⟨dT_ h,dF_ (by omega)⟩
          by_cases h22:op=22
          ·subst h22;have hm1:m=3:=HAR.out.trans (HLN.out.2.2 rfl);subst hm1
           obtain ⟨x,y,z,rfl⟩:∃x y z,xs=[x,y,z]:=by
            have h:=HL.out
            match xs,h with
            | [x,y,z],_=>exact ⟨x,y,z,rfl⟩
           obtain ⟨g,rfl,hg,_⟩:=HC.out 0 (by simp);obtain ⟨g',e',hg',_⟩:=HC.out 1 (by simp);injection e' with e'
           injection e' with e'
           subst e';obtain ⟨g',e',hg'',_⟩:=HC.out 2 (by simp);injection e' with e'
           injection e' with e'
           subst e';simp only [List.getElem_cons_zero,List.getElem_cons_succ] at hg hg' hg'';have HR2:Hid (R=some (if x≠0 then y else z)):=HT5.out;clear HC HLN h20 h21 hb2 HT5 HT4;by_cases hx:x=0
           ·subst hx;have HR3:Hid (R=some z):=HR2.out;go_wp2_with fail
            go_ret2;exact ⟨by rw [HR3.out];rfl,hHU⟩
           ·have HR3:Hid (R=some y):=by show _=_;rw [HR2.out,if_pos hx]
            have t7:(x != 0)=true:=by simpa using hx
            go_wp2_with fail
            go_ret2;exact ⟨by rw [HR3.out];rfl,hHU⟩
          ·have t5:(op==22)=false:=by simpa using h22
           have HR2:Hid (R=none):=by show _=_;rw [HT5.out,if_neg h22]
           clear HC HLN h20 h21 hb2 HT5 HT4;rcases t6 with ⟨_,t6⟩ | ⟨t6,t7⟩
           ·go_wp2_with fail
            go_ret2;exact ⟨by rw [HR2.out];rfl,hHU⟩
           ·go_wp2_with fail
            go_ret2;exact ⟨by rw [HR2.out];rfl,hHU⟩
def rlxF (R:Rl):Rl:=⟨R.name,R.l,R.l,R.conds,R.vars,R.imms⟩
def rlxA (a:RlA):RlA:=⟨a.la,a.lc,a.la,a.lc,a.ca,a.cc⟩
theorem rlx_k {w:World} {F:Nat→Prop} {R:Rl} {a:RlA} (h:RlK w F R a):RlK w F (rlxF R) (rlxA a):=⟨h.l,h.l,h.c,h.le⟩
theorem rlx_sz {R:Rl} (h:RlSz R):RlSz (rlxF R):=⟨h.l,h.l,h.c,h.n⟩
theorem rlx_i {R:Rl} (h:RlI R):RlI (rlxF R):=⟨h.l,h.l,h.c⟩
def setRl (w:World) (g:Nat) (a b c d e:Value):World:=((((w.setCell ⟨g,6,none⟩ a).setCell ⟨g,7,none⟩ b).setCell ⟨g,8,none⟩ c).setCell ⟨g,9,none⟩ d).setCell ⟨g,10,none⟩ e
theorem setRl_blk {w:World} {g:Nat} {t:TypeId} {x0 x1 x2 x3 x4 x5 x6 x7 x8 x9 x10 x11 x12 x13:Value} (h:Blk w g t #[x0,x1,x2,x3,x4,x5,x6,x7,x8,x9,x10,x11,x12,x13]) (a b c d e:Value):Blk (setRl w g a b c d e) g t #[x0,x1,x2,x3,x4,x5,a,b,c,d,e,x11,x12,x13]:=by
 have:=((((h.set_ 6 a).set_ 7 b).set_ 8 c).set_ 9 d).set_ 10 e;simpa [setRl] using this
theorem setRl_upd (w:World) (g:Nat) (a b c d e:Value):Upd (·=g) w (setRl w g a b c d e):=by
 unfold setRl;exact ((((updCell _ _ _ _).trans (updCell _ _ _ _) (fun _ _ h=>h)).trans (updCell _ _ _ _) (fun _ _ h=>h)).trans (updCell _ _ _ _) (fun _ _ h=>h)).trans (updCell _ _ _ _) (fun _ _ h=>h)
theorem setRl_eq (w:World) (g:Nat) (a b c d e:Value):((((w.setCell ⟨g,6,none⟩ a).setCell ⟨g,7,none⟩ b).setCell ⟨g,8,none⟩ c).setCell ⟨g,9,none⟩ d).setCell ⟨g,10,none⟩ e=setRl w g a b c d e:=rfl
set_option maxRecDepth 100000 in
set_option maxHeartbeats 16000000 in
theorem auRejects_c (w:World) (F:Nat→Prop) (A:Option Addr) (c:Nat) (xs:List Int) (a b p q how at_:Int) (hx:Ints w F A xs) (hc:xs.length≤c) (hI:∀x∈xs,I64 x) (hn:xs.length≤100000000000000) (ha:I64 a) (hb:I64 b) (hp:I64 p) (hq:I64 q) (hh:I64 how) :
  Calls Tryz.prog 6 #[.slice A xs.length c,.int .i64 a,.int .i64 b,.int .i64 p,.int .i64 q,.int .i64 how,.int .i64 at_] w fun e w'=>e=.returned (.bool true)∧Upd Non w w':=by
 obtain ⟨m,hm⟩:∃m:Nat,(xs.take 7).length=m:=⟨_,rfl⟩;have hxi:∀x∈(xs.take 7).take 16,I64 x:=fun x h=>hI x (List.mem_of_mem_take (List.mem_of_mem_take h))
 have CR:=h_ (aRule_c w F A c (xs.take 7) (hx.take_ 7) (by rw [List.length_take];omega) (fun x h=>hI x (List.mem_of_mem_take h)) (by rw [List.length_take];omega))
 have hz:=aRuleF_sz ((xs.take 7).take 16);have hri:=aRuleF_i (xs:=(xs.take 7).take 16) hxi;have hwl:WfP 2 (aRuleF ((xs.take 7).take 16)).l:=(aLeftF_ga hxi).wf (by omega);have hwr:WfP 2 (aRuleF ((xs.take 7).take 16)).r:=(aRightF_ga hxi).wf (by omega);have hvr:(aRuleF ((xs.take 7).take 16)).vars≤2:=by have:=aNumF_len ((xs.take 7).take 16);show ((aNumF ((xs.take 7).take 16)).2.1.length:Int)≤2;omega
 obtain ⟨R,HR⟩:=nm (aRuleF ((xs.take 7).take 16));rw [HR.out] at hz hri hwl hwr hvr;rw [hm,HR.out] at CR;have HZ:=h_ hz;have HRI:=h_ hri;have HWF:=h_ (And.intro hwl hwr);have HV2:=h_ hvr;have HH:=h_ hh;obtain ⟨l,Hl⟩:=nm xs.length;have hlm:min (l:Int) 7=(m:Int):=by rw [←hm,←Hl.out,List.length_take];omega
 have hle:m≤l:=by rw [←hm,←Hl.out,List.length_take];omega
 rw [Hl.out] at hc;rw [Hl.out];have hwx:=wordF_i64 a hp;have hwy:=wordF_i64 b hq;have CW1:=h_ (fun w'=>word_c w' a p ha);have CW2:=h_ (fun w'=>word_c w' b q hb);obtain ⟨x,Hx⟩:=nm (wordF a p);obtain ⟨y,Hy⟩:=nm (wordF b q);rw [Hx.out] at hwx CW1;rw [Hy.out] at hwy CW2
 have HIN:Hid (∀z∈[x,y],I64 z):=fun z hz=>by
  simp only [List.mem_cons,List.not_mem_nil,or_false] at hz;rcases hz with rfl | rfl
  ·exact hwx
  ·exact hwy
 clear hx hI hn hm hz hri hwl hwr hvr hh ha hb hp hq hwx hwy hxi;go_enter Tryz.func6,Tryz.ntmps6;go_wp2_with fail
 refine CR.out.mono ?_;rintro e w1 ⟨a,rfl,hk,u1⟩;obtain ⟨W1,HW1⟩:=nm (w1.alloc (.cells (rlCells R a) 41));have uW:Upd Non w1 W1:=by rw [←HW1.out];exact Upd.refl.alloc _
 obtain ⟨rb,hrb⟩:∃b,w1.heap.size=b:=⟨_,rfl⟩;have hb:Blk W1 rb 41 (rlCells R a):=by rw [←HW1.out,←hrb];exact Blk.new _ _ _
 have hk1:=(hk.mono (G:=fun k=>k<w1.heap.size) (fun _ h _=>h)).upd uW (fun _ _ _ f=>f);have HU:=h_ (u1.then_non uW);have HKW:=h_ (fun (w':World) (u:Upd Non W1 w')=>hk1.upd u (fun _ _ _ f=>f));have HBW:=h_ (fun (w':World) (u:Upd Non W1 w')=>hb.upd u (fun f=>f));have HRB:=h_ hrb;have HSZ1:Hid (w.heap.size≤w1.heap.size):=u1.size;have e1:=HW1.out;unfold rlCells at e1;unfold rlv rlCells;clear hk hk1 u1 uW hb CR
 go_upto_region 2 with fail
 clear e1 hrb;go_wp2_with fail
 refine (CW1.out _).mono ?_;rintro e w3 ⟨rfl,u3⟩;go_wp2_with fail
 refine (CW2.out _).mono ?_;rintro e w4 ⟨rfl,u4⟩;obtain ⟨W5,HW5⟩:=nm (w4.alloc (.cells #[.int .i64 x,.int .i64 y] 2));have u5:Upd Non w4 W5:=by rw [←HW5.out];exact Upd.refl.alloc _
 have HI5:Hid (Ints W5 (fun _=>True) (some ⟨w4.heap.size,0,none⟩) [x,y]):=by rw [←HW5.out];exact Ints.new [x,y] rfl rfl
 have HU5:=h_ ((u3.then_non u4).then_non u5);clear u3 u4 u5
 go_upto_region 3 with fail
 rw [HW5.out];obtain ⟨ib,hib⟩:∃b,w4.heap.size=b:=⟨_,rfl⟩;rw [hib] at HI5 ⊢;clear hib;have CEL:=h_ (r18Evaluate_c [x,y] _ _ 2 (by simp) R.l W5 _ _ _ (HKW.out W5 HU5.out).l HI5.out HWF.out.1 (by have:=HZ.out.l;omega));unfold pv at CEL;obtain ⟨c0,c1,c2,c3,c4,c5,c6,c7,c8,c9,c10,c11,c12,c13⟩:=rl_cells (HBW.out W5 HU5.out);go_wp2_with fail
 refine CEL.out.mono ?_;rintro e w6 ⟨rfl,u6⟩;have HI6:=h_ (HI5.out.upd u6 (fun _ _ _ f=>f));have HU6:=h_ (HU5.out.then_non u6);clear u6 CEL c0 c1 c2 c3 c4 c5 c6 c7 c8 c9 c10 c11 c12 c13;have CER:=h_ (r18Evaluate_c [x,y] _ _ 2 (by simp) R.r w6 _ _ _ (HKW.out w6 HU6.out).r HI6.out HWF.out.2 (by have:=HZ.out.r;omega));unfold pv at CER;obtain ⟨c0,c1,c2,c3,c4,c5,c6,c7,c8,c9,c10,c11,c12,c13⟩:=rl_cells (HBW.out w6 HU6.out);obtain ⟨el,Hel⟩:=nm (evF [x,y] R.l);obtain ⟨er,Her⟩:=nm (evF [x,y] R.r);rw [Her.out] at CER;rw [Hel.out]
 cases el with
 | none =>
  unfold evR;go_wp2_with fail
  refine CER.out.mono ?_;rintro e w7 ⟨rfl,u7⟩;have HI7:=h_ (HI6.out.upd u7 (fun _ _ _ f=>f));have HU7:=h_ (HU6.out.then_non u7);clear u7 CER c0 c1 c2 c3 c4 c5 c6 c7 c8 c9 c10 c11 c12 c13
  cases er with
  | none =>
   unfold evR;go_wp2_with fail
   refine (auExamples_c _).mono ?_;rintro e w9 ⟨rfl,u9⟩;go_wp2_with fail
   go_ret;exact ⟨rfl,HU.out.then_non (HU7.out.then_non u9)⟩
  | some vr =>
   unfold evR;go_wp2_with fail
   refine (auExamples_c _).mono ?_;rintro e w9 ⟨rfl,u9⟩;go_wp2_with fail
   go_ret;exact ⟨rfl,HU.out.then_non (HU7.out.then_non u9)⟩
 | some vl =>
  unfold evR;go_wp2_with fail
  refine CER.out.mono ?_;rintro e w7 ⟨rfl,u7⟩;have HI7:=h_ (HI6.out.upd u7 (fun _ _ _ f=>f));have HU7:=h_ (HU6.out.then_non u7);clear u7 CER c0 c1 c2 c3 c4 c5 c6 c7 c8 c9 c10 c11 c12 c13
  cases er with
  | none =>
   unfold evR;go_wp2_with fail
   refine (auExamples_c _).mono ?_;rintro e w9 ⟨rfl,u9⟩;go_wp2_with fail
   go_ret;exact ⟨rfl,HU.out.then_non (HU7.out.then_non u9)⟩
  | some vr =>
   unfold evR;by_cases hvv:vl=vr
   ·have tv:(vl==vr)=true:=by simpa using hvv
    have HVV:=h_ hvv;clear hvv;go_wp2_with fail
    refine (auExamples_c _).mono ?_;rintro e w9 ⟨rfl,u9⟩;go_wp2_with fail
    go_ret;exact ⟨rfl,HU.out.then_non (HU7.out.then_non u9)⟩
   ·have tv:(vl==vr)=false:=by simpa using hvv
    have HVV:=h_ hvv;clear hvv;have CA:=h_ (rApplicable_c R a _ w7 (HKW.out w7 HU7.out) HZ.out);unfold rlv rlCells at CA;obtain ⟨c0,c1,c2,c3,c4,c5,c6,c7,c8,c9,c10,c11,c12,c13⟩:=rl_cells (HBW.out w7 HU7.out);go_wp2_with fail
    refine CA.out.mono ?_;rintro e w8 ⟨rfl,u8⟩;have HI8:=h_ (HI7.out.upd u8 (fun _ _ _ f=>f));have HU8:=h_ (HU7.out.then_non u8);clear u8 CA c0 c1 c2 c3 c4 c5 c6 c7 c8 c9 c10 c11 c12 c13;obtain ⟨ap,Hap⟩:=nm (applF R);rw [Hap.out]
    cases ap with
    | false =>
     go_wp2_with fail
     refine (auExamples_c _).mono ?_;rintro e w9 ⟨rfl,u9⟩;go_wp2_with fail
     go_ret;exact ⟨rfl,HU.out.then_non (HU8.out.then_non u9)⟩
    | true =>
     have hrok:=rok_of Hap.out HRI.out
     have hcs:∀c∈R.conds,1≤c.a∧c.a≤([x,y].length:Int)∧(c.kind=4→1≤c.b∧c.b≤([x,y].length:Int)):=fun c hc=>by
      obtain ⟨_,_,h1,h2,h3⟩:=hrok.hc c hc;have:=HV2.out;simp only [List.length_cons,List.length_nil];exact ⟨h1,by omega,fun q=>by have:=h3 q;omega⟩
     have CSAT:=h_ (satisfies_c (ci:=2) R a _ w8 (HKW.out w8 HU8.out) (by have:=HZ.out.c;omega) HI8.out (by simp) hcs);obtain ⟨sb,Hsb⟩:=nm (R.conds.all (satC [x,y]));rw [Hsb.out] at CSAT;unfold rlv rlCells at CSAT;clear hrok hcs;obtain ⟨c0,c1,c2,c3,c4,c5,c6,c7,c8,c9,c10,c11,c12,c13⟩:=rl_cells (HBW.out w8 HU8.out);go_wp2_with fail
     refine CSAT.out.mono ?_;rintro e v1 ⟨rfl,u8⟩;have HV1:=h_ (HU8.out.then_non u8);clear u8 CSAT c0 c1 c2 c3 c4 c5 c6 c7 c8 c9 c10 c11 c12 c13
     cases sb with
     | false =>
      go_wp2_with fail
      refine (auExamples_c _).mono ?_;rintro e w9 ⟨rfl,u9⟩;go_wp2_with fail
      go_ret;exact ⟨rfl,HU.out.then_non (HV1.out.then_non u9)⟩
     | true =>
      have HNC:Hid (∀L,chF R L=false):=fun L=>by
       rw [Bool.eq_false_iff];intro h;obtain ⟨v,h1,h2,_⟩:=ch_sound h HRI.out HIN.out Hsb.out;rw [Hel.out] at h1;rw [Her.out] at h2;injection h1 with h1
       injection h2 with h2
       exact HVV.out (by rw [h1,h2])
      have HNA:Hid (∀L,autF R≠some L):=fun L h=>by
       obtain ⟨v,h1,h2,_⟩:=aut_sound2 h HRI.out HIN.out Hsb.out;rw [Hel.out] at h1;rw [Her.out] at h2;injection h1 with h1
       injection h2 with h2
       exact HVV.out (by rw [h1,h2])
      have CP:=h_ (aProve_c R a _ v1 (HKW.out v1 HV1.out) HZ.out);unfold rlv rlCells at CP;obtain ⟨c0,c1,c2,c3,c4,c5,c6,c7,c8,c9,c10,c11,c12,c13⟩:=rl_cells (HBW.out v1 HV1.out);go_wp2_with fail
      refine CP.out.mono ?_;rintro e v2 hP;obtain ⟨u2,hP⟩:=hP;have HV2':=h_ (HV1.out.then_non u2);clear CP u2 c0 c1 c2 c3 c4 c5 c6 c7 c8 c9 c10 c11 c12 c13;rcases hP with ⟨L,OA,on,oc,hL,rfl,hO,_⟩ | ⟨_,rfl⟩
      ·exact absurd hL (HNA.out L)
      obtain ⟨rb2,hrb2⟩:∃z,v2.heap.size=z:=⟨_,rfl⟩;obtain ⟨W6,HW6⟩:=nm (v2.alloc (.cells (rlCells R a) 41));have u6:Upd Non v2 W6:=by rw [←HW6.out];exact Upd.refl.alloc _
      have hb6:Blk W6 rb2 41 (rlCells R a):=by rw [←HW6.out,←hrb2];exact Blk.new _ _ _
      have HV6:=h_ (HV2'.out.then_non u6);have HRB2:=h_ hrb2;have HBB:=h_ hb6;have e6:=HW6.out;unfold rlCells at e6;obtain ⟨c0,c1,c2,c3,c4,c5,c6,c7,c8,c9,c10,c11,c12,c13⟩:=rl_cells (HBW.out v2 HV2'.out);clear u6 hb6
      go_upto_region 9 with fail
      clear e6 hrb2 c0 c1 c2 c3 c4 c5 c6 c7 c8 c9 c10 c11 c12 c13;obtain ⟨c0,c1,c2,c3,c4,c5,c6,c7,c8,c9,c10,c11,c12,c13⟩:=rl_cells (HBW.out W6 HV6.out);obtain ⟨d0,d1,d2,d3,d4,d5,d6,d7,d8,d9,d10,d11,d12,d13⟩:=rl_cells HBB.out;have xf:=HBB.out.frozen;have hlt:=HBB.out.lt
      go_upto_region 10 with fail
      clear xf c0 c1 c2 c3 c4 c5 c6 c7 c8 c9 c10 c11 c12 c13 d0 d1 d2 d3 d4 d5 d6 d7 d8 d9 d10 d11 d12 d13;rw [setRl_eq];have b3:=setRl_blk HBB.out (.int .i64 R.l.v) (.int .i64 R.l.op) (.int .i64 R.l.imm) (.int .i64 R.l.iv) (.slice a.la R.l.kids.length a.lc);have v3:=setRl_upd W6 rb2 (.int .i64 R.l.v) (.int .i64 R.l.op) (.int .i64 R.l.imm) (.int .i64 R.l.iv) (.slice a.la R.l.kids.length a.lc);obtain ⟨W7,HW7⟩:=nm (setRl W6 rb2 (.int .i64 R.l.v) (.int .i64 R.l.op) (.int .i64 R.l.imm) (.int .i64 R.l.iv) (.slice a.la R.l.kids.length a.lc));rw [HW7.out] at b3 v3 ⊢
      have hsz2:w1.heap.size≤rb2∧rb<rb2:=by
       have h1:=HV2'.out.size;have h2:=HRB.out;have h3:=HRB2.out;have h4:=(HBW.out W1 Upd.refl).lt;omega
      have hlt1:W1.heap.size≤rb2:=by have h1:=HV2'.out.size;have h3:=HRB2.out;omega
      have HV7:Hid (Upd Non W1 W7):=HV6.out.trans v3 (fun i hi e=>by omega);have HB7:Hid (Blk W7 rb2 41 (rlCells (rlxF R) (rlxA a))):=b3;have HK7:Hid (RlK W7 (fun k=>k<w1.heap.size) (rlxF R) (rlxA a)):=rlx_k (HKW.out W7 HV7.out);have HZ2:=h_ (rlx_sz HZ.out);have HRI2:=h_ (rlx_i HRI.out);clear b3 v3 hlt hsz2 hlt1;obtain ⟨Q,HQ⟩:=nm (rlxF R);obtain ⟨aq,HAQ⟩:=nm (rlxA a);rw [HQ.out] at HZ2 HRI2;rw [HQ.out,HAQ.out] at HB7 HK7;have CQ:=h_ (rAutomaton_c Q aq _ W7 HK7.out HZ2.out HRI2.out);obtain ⟨c0,c1,c2,c3,c4,c5,c6,c7,c8,c9,c10,c11,c12,c13⟩:=rl_cells HB7.out;unfold rlv rlCells at CQ;go_wp2_with fail
      refine CQ.out.mono ?_;rintro e v4 hP;obtain ⟨u4,hP⟩:=hP;have HV4:=h_ (HV7.out.then_non u4);clear CQ u4 c0 c1 c2 c3 c4 c5 c6 c7 c8 c9 c10 c11 c12 c13
      have HST:∃(S:List AS) (SA:Option Addr) (sn sc:Nat) (ok:Bool),e=.returned (.tuple #[.slice SA sn sc,.bool ok])∧sn=S.length∧sn≤4096∧(∀s∈S,s.bits.length≤100000)∧ElV ElAS 2 v4 (fun _=>True) SA S:=by
       rcases hP with ⟨L,OA,on,oc,hL,rfl,hO,_⟩ | ⟨_,rfl⟩
       ·refine ⟨L.map asE,OA,on,oc,true,rfl,hO.1,?_,lvl_bits hL,hO.view elAS (fun _ _=>trivial) (fun _ _ _=>trivial)⟩;have h:=autF_some.1 hL;rw [hO.1,List.length_map,h.2.2.2];exact h.2.1
       ·exact ⟨[],none,0,0,false,rfl,rfl,by omega,(fun _ h=>by cases h),ElV.nil⟩
      clear hP;obtain ⟨S,SA,sn,sc,ok,rfl,hsn,hs4,hsb,hS⟩:=HST;have HS:=h_ (fun (w':World) (u:Upd Non v4 w')=>(hS.mono elAS (G:=fun i=>i<v4.heap.size) (fun i hi _=>hi)).upd elAS u (fun _ _ _ f=>f));have HSN:=h_ hsn;have HSB:=h_ hsb;clear hS hsn hsb;by_cases h5:500<sn
      ·have t5:decide ((sn:Int) > 500)=true:=dT_ (by omega);go_wp2_with fail
       refine (auExamples_c _).mono ?_;rintro e w9 ⟨rfl,u9⟩;go_wp2_with fail
       go_ret;exact ⟨rfl,HU.out.then_non (HV4.out.then_non u9)⟩
      ·have t5:decide ((sn:Int) > 500)=false:=dF_ (by omega)
       have CC:Hid (∀(w':World) (_:Upd Non v4 w') (LA:Option Addr) (n lc:Nat) (L:List AS) (G:Nat→Prop) (_:ElV ElAS 2 w' G LA L) (_:n=L.length) (_:n≤10000000000000),Calls Tryz.prog 29 #[rlv R a,.slice LA n lc] w' fun e w''=>e=.returned (.bool false)∧Upd Non w' w''):=fun w' u LA n lc L G hL hn h1=>by
        subst hn;rw [←HNC.out L];exact aCheck_c R a _ w' (HKW.out w' (HV4.out.then_non u)) HZ.out hL h1
       unfold rlv rlCells at CC;have CM:=h_ (fun (w':World) (u:Upd Non v4 w')=>mutate_c (lc:=sc) how at_ (HS.out w' u) HSN.out (by omega) HSB.out HH.out);obtain ⟨W9,HW9⟩:=nm v4.drew;have HU9:Hid (Upd Non v4 W9):=by show Upd Non v4 W9;rw [←HW9.out];exact Upd.refl.drew
       have HRZ:=h_ (fun (w':World) (u:Upd Non v4 w')=>rl_cells (HBW.out w' (HV4.out.then_non u)));have hS9:=HRZ.out W9 HU9.out
       go_upto_region 13 with fail
       refine wp_region_held_drew (S:=fun w'=>w'.cell? ⟨rb,0,none⟩=some (.string R.name)∧w'.cell? ⟨rb,1,none⟩=some (.int .i64 R.l.v)∧w'.cell? ⟨rb,2,none⟩=some (.int .i64 R.l.op)∧w'.cell? ⟨rb,3,none⟩=some (.int .i64 R.l.imm)∧w'.cell? ⟨rb,4,none⟩=some (.int .i64 R.l.iv)∧w'.cell? ⟨rb,5,none⟩=some (.slice a.la R.l.kids.length a.lc)∧w'.cell? ⟨rb,6,none⟩=some (.int .i64 R.r.v)∧w'.cell? ⟨rb,7,none⟩=some (.int .i64 R.r.op)∧w'.cell? ⟨rb,8,none⟩=some (.int .i64 R.r.imm)∧w'.cell? ⟨rb,9,none⟩=some (.int .i64 R.r.iv)∧w'.cell? ⟨rb,10,none⟩=some (.slice a.ra R.r.kids.length a.rc)∧w'.cell? ⟨rb,11,none⟩=some (.slice a.ca R.conds.length a.cc)∧w'.cell? ⟨rb,12,none⟩=some (.int .i64 R.vars)∧w'.cell? ⟨rb,13,none⟩=some (.int .i64 R.imms)) (by kernel_rfl) (by rw [HW9.out];exact hS9) (fun hHeld=>?_)
       rw [HW9.out] at hHeld ⊢;refine wpT 0 ?_;(try simp only [y_,z_]);refine wpT 1 ?_;(try simp only [y_,z_]);refine wpT 2 ?_;(try simp only [y_,z_]);refine wpT 3 ?_;(try simp only [y_,z_]);refine wpT 4 ?_;(try simp only [y_,z_]);refine aR_ (rs:=[5]) (by kernel_rfl) (by simp) ?_;refine aC_ rfl (fun K hK=>?_) aN_;go_simp;refine (CC.out W9 HU9.out SA sn sc S _ (HS.out W9 HU9.out) HSN.out (by omega)).mono ?_;rintro e y1 ⟨rfl,z1⟩;have V1:=h_ (HU9.out.then_non z1);refine hK.out _ _ ?_ (fun hHeld=>?_)
       ·exact HRZ.out y1 V1.out
       clear hK K;(try simp only [y_,z_]);refine wpT 6 ?_;(try simp only [y_,z_]);refine wpT 7 ?_;(try simp only [y_,z_]);refine wpT 8 ?_;(try simp only [y_,z_]);refine wpT 9 ?_;(try simp only [y_,z_]);refine wpT 10 ?_;(try simp only [y_,z_]);refine wpT 11 ?_;(try simp only [y_,z_]);refine wpT 12 ?_;(try simp only [y_,z_]);refine aR_ (rs:=[13]) (by kernel_rfl) (by simp) ?_;refine aC_ rfl (fun K hK=>?_) aN_;go_simp;refine (CM.out y1 V1.out).mono ?_;rintro e y2 ⟨v,rfl,T,TA,tn,tc,rfl,htn,ht1,hT,z2⟩;have V2:=h_ (V1.out.then_non z2);have HTN:=h_ htn;have HTT:=h_ hT;clear htn hT;refine hK.out _ _ ?_ (fun hHeld=>?_)
       ·exact HRZ.out y2 V2.out
       clear hK K;(try simp only [y_,z_]);refine aR_ (rs:=[14]) (by kernel_rfl) (by simp) ?_;refine aC_ rfl (fun K hK=>?_) aN_;go_simp;refine (CC.out y2 V2.out TA tn tc T _ HTT.out HTN.out (by omega)).mono ?_;rintro e y3 ⟨rfl,z3⟩;have V3:=h_ (V2.out.then_non z3);refine hK.out _ _ ?_ (fun hHeld=>?_)
       ·exact HRZ.out y3 V3.out
       clear hK K;(try simp only [y_,z_]);refine wpT 15 ?_;(try simp only [y_,z_]);refine wpT 16 ?_;(try simp only [y_,z_]);refine wpT 17 ?_;(try simp only [y_,z_]);refine aR_ (rs:=[18]) (by kernel_rfl) (by simp) ?_;refine aC_ rfl (fun K hK=>?_) aN_;go_simp;refine (auExamples_c _).mono ?_;rintro e y4 ⟨rfl,z4⟩;have V4:=h_ (V3.out.then_non z4);refine hK.out _ _ ?_ (fun hHeld=>?_)
       ·exact HRZ.out y4 V4.out
       clear hK K;(try simp only [y_,z_]);refine wpT 19 ?_;(try simp only [y_,z_]);refine wpT 20 ?_;(try simp only [y_,z_]);refine aD_ (by kernel_rfl) ?_ _;clear hHeld z1 z2 z3 z4 hS9 ht1;go_wp2_with fail
       go_ret;exact ⟨rfl,HU.out.then_non (HV4.out.then_non V4.out)⟩
end Go.Proofs.YtifhejahbbnkiaaGreat
