/-
  Lemmas and walks that the claim rests on, part 8 (packed by a program).
-/
import Derived.Test.YtdbjgihnngigeaaGreatR7
import Derived.Test.YtdbjgihnngigeaaGreatR2
import Derived.Test.YtdbjgihnngigeaaGreatR3
import Derived.Test.YtdbjgihnngigeaaGreatR4
import Derived.Test.YtdbjgihnngigeaaGreatR5
import Derived.Test.YtdbjgihnngigeaaGreatR6
namespace Go.Proofs.YtdbjgihnngigeaaGreat
open Go.RowKit
theorem zip_succ {α β γ:Type} (f:α→β→γ):∀{l:List α} {m:List β} {j:Nat} (h1:j<l.length) (h2:j<m.length),List.zipWith f (l.take (j+1)) m=List.zipWith f (l.take j) m++[f l[j] m[j]]
 | a::l,b::m,0,_,_=>by simp
 | a::l,b::m,j+1,h1,h2=>by
  have:=zip_succ f (l:=l) (m:=m) (j:=j) (by simpa using h1) (by simpa using h2);simp only [List.take_succ_cons,List.zipWith_cons_cons,List.cons_append,List.getElem_cons_succ];rw [this]
theorem cf_le (k:Nat) (m a b:Bool):cfF 18 k m a b=ordB m a b (decide (k=63)):=by unfold cfF;rw [if_neg (by decide)];simp
theorem drop_cons {l:List Bool} {j:Nat} (h:j<l.length):l.drop j=l[j]::l.drop (j+1):=List.drop_eq_getElem_cons h
set_option maxRecDepth 100000 in
set_option maxHeartbeats 16000000 in
theorem rSuccessor_c (r:Rl) (a:RlA) (k:Nat) (hk:k<64) (ins old:List Bool) (hro:ROk r.vars.toNat r) (hv6:r.vars.toNat≤6) (hc6:r.conds.length≤6) (hst:stN r≤4000) (hil:ins.length=r.vars.toNat) (hol:old.length=stN r) {F:Nat→Prop} {w:World} {IA OA:Option Addr} {ic oc:Nat} (hkr:RlK w F r a) (hI:Sl w F IA (b8s ins)) (hO:Sl w F OA (b8s old)) (hic:ins.length≤ic) (hoc:old.length≤oc) :
  Calls Tryz.prog 81 #[rlv r a,.int .i64 k,.slice OA old.length oc,.slice IA ins.length ic] w fun e w'=>∃NA nc,e=.returned (.slice NA (stN r) nc)∧Own w' 5 1 NA (stN r) nc (b8s (succF k (insF ins) r old))∧(∀i,At NA i→w.heap.size≤i)∧Upd Non w w':=by
 obtain ⟨W,HW⟩:=nm (w.alloc (.cells (rlCells r a) 27));have hU:Upd Non w W:=by rw [←HW.out];exact Upd.refl.alloc _
 obtain ⟨rb,hrb⟩:∃b,w.heap.size=b:=⟨_,rfl⟩;have hb:Blk W rb 27 (rlCells r a):=by rw [←HW.out,←hrb];exact Blk.new _ _ _
 have hWs:W.heap.size=w.heap.size+1:=by rw [←HW.out];simp
 have e0:=HW.out;obtain ⟨x,hx⟩:∃b,rb+1=b:=⟨_,rfl⟩;obtain ⟨W2,HW2⟩:=nm (W.alloc (.cells #[.int .i64 (k:Int),.slice IA ins.length ic,.slice OA old.length oc,.slice none 0 0] 186));have hU2:Upd Non W W2:=by rw [←HW2.out];exact Upd.refl.alloc _
 have hbx:Blk W2 x 186 #[.int .i64 (k:Int),.slice IA ins.length ic,.slice OA old.length oc,.slice none 0 0]:=by rw [←HW2.out];exact Blk.new' (by omega)
 have hU02:=hU.then_non hU2;have hKr:=(hkr.mono (G:=fun i=>i<w.heap.size) (fun i hi _=>hi)).upd hU02 (fun _ _ _ f=>f);have hI2:=(hI.mono (G:=fun i=>i<w.heap.size) (fun i hi _=>hi)).upd hU02 (fun _ _ _ f=>f);have hO2:=(hO.mono (G:=fun i=>i<w.heap.size) (fun i hi _=>hi)).upd hU02 (fun _ _ _ f=>f);have hRT:RT W2 (fun i=>i<w.heap.size) x k ins old [] none 0:=⟨⟨IA,ic,OA,oc,hbx,hI2,hO2,hoc,hic⟩,Own.none_,fun i hi=>⟨Nat.lt_of_lt_of_le hi hU02.size,by omega,At.none_⟩⟩
 have HB0:=h_ hRT.bs;have HFAR:Hid (∀i,i<w.heap.size→i≠x∧¬At none i):=fun i hi=>⟨by omega,At.none_⟩
 have HKR:=h_ hKr;have hb2:=hb.upd hU2 (fun f=>f)
 have HRB:Hid (∀w',Upd (fun i=>i=x∨At none i) W2 w'→Blk w' rb 27 (rlCells r a)):=fun w' u=>hb2.upd u (fun q=>by
  rcases q with q | q
  ·omega
  ·exact At.none_ q)
 have HUW:=h_ hU02;have HXW:Hid (w.heap.size≤x):=by show _≤_;omega
 have hbl:bN r.l+bN r.r+r.conds.length+1=stN r:=rfl;have e2:=HW2.out;have C1:=h_ ((rBit_c k hk r.l W2 _ x ins old [] none 0 a.la a.lc HB0.out.rt HKR.out.l hro.hl.sup (by rw [hil];exact hro.hl.wf) (by omega) (by simp;omega) (by omega)).mono fun e w' hr=>HB0.out.bit hr)
 have hre:=bitP_rest (k:=k) (f:=insF ins) hro.hl.sup (old:=old) (by omega);have HSU:Hid (succF k (insF ins) r old=(bitP k (insF ins) r.l old).2.2++(bitP k (insF ins) r.r (bitP k (insF ins) r.l old).2.1).2.2++List.zipWith (cdBit k (insF ins)) r.conds (bitP k (insF ins) r.r (bitP k (insF ins) r.l old).2.1).2.1++[(bitP k (insF ins) r.r (bitP k (insF ins) r.l old).2.1).2.1.getD r.conds.length false || ((bitP k (insF ins) r.l old).1 ^^ (bitP k (insF ins) r.r (bitP k (insF ins) r.l old).2.1).1)]):=rfl
 obtain ⟨r0,Hr0⟩:=nm (bitP k (insF ins) r.l old);rw [Hr0.out] at C1 hre HSU;obtain ⟨a0,rest0,add0⟩:=r0;simp only [List.nil_append] at C1 hre HSU;have hr0l:rest0.length=stN r - bN r.l:=by rw [hre.1,List.length_drop,hol]
 have hre1:=bitP_rest (k:=k) (f:=insF ins) hro.hr.sup (old:=rest0) (by omega);obtain ⟨r1,Hr1⟩:=nm (bitP k (insF ins) r.r rest0);rw [Hr1.out] at hre1 HSU;have HK1:=h_ (fun (w1:World) (A1:Option Addr) (k1:Nat) (hB1:BS W2 none w1 (fun i=>i<w.heap.size) x k ins rest0 add0 A1 k1)=>(rBit_c k hk r.r w1 _ x ins rest0 add0 A1 k1 a.ra a.rc hB1.rt (hB1.pt HFAR.out HKR.out.r) hro.hr.sup (by rw [hil];exact hro.hr.wf) (by omega) (by omega) (by omega)).mono fun e w' hr=>hB1.bit hr)
 rw [Hr1.out] at HK1;obtain ⟨a1,rest1,add1⟩:=r1;simp only at HK1 hre1 HSU;have hr1l:rest1.length=r.conds.length+1:=by rw [hre1.1,List.length_drop,hr0l];omega
 obtain ⟨nc,Hnc⟩:=nm r.conds.length;obtain ⟨sn,Hsn⟩:=nm (stN r);obtain ⟨il,Hil⟩:=nm ins.length;rw [Hsn.out] at hol hst;rw [Hnc.out] at hr1l hc6 HSU;have HCD:=h_ hro.hc;have HIL:=h_ hil;have HIN:=h_ hI2;have HAL:Hid (add0.length+add1.length+nc+1=sn):=by show _=_;rw [hre.2,hre1.2,←Hnc.out,←Hsn.out];exact hbl
 have HR1:=h_ hr1l;unfold pv at C1;unfold rlv;rw [hol,Hsn.out,Hil.out];unfold rlCells at e0 ⊢;rw [Hil.out] at e2;have e2':=e2;rw [hol] at e2';obtain ⟨c0,c1,c2,c3,c4,c5,c6,c7,c8,c9,c10,c11,c12,c13⟩:=rl_cells (HRB.out W2 Upd.refl);have HOL:=h_ hol;have hWs2:W.heap.size=rb+1:=by omega
 clear hol hil hWs hkr hI hO hb hb2 hbx hRT hKr hI2 hO2 hU hU2 hU02 hbl hre hr0l hre1 hro e2 hr1l;go_enter Tryz.func81,Tryz.ntmps81;go_wp2_with fail
 refine C1.out.mono ?_;rintro e w1 ⟨A1,k1,rfl,hB1⟩;have C2:=h_ (HK1.out w1 A1 k1 hB1);unfold pv at C2;clear c0 c1 c2 c3 c4 c5 c6 c7 c8 c9 c10 c11 c12 c13 C1;obtain ⟨c0,c1,c2,c3,c4,c5,c6,c7,c8,c9,c10,c11,c12,c13⟩:=rl_cells (HRB.out w1 hB1.upd);clear hB1 HK1;go_wp2_with fail
 refine C2.out.mono ?_;rintro e w2 ⟨A2,k2,rfl,hB2⟩;have HB2:=h_ hB2;obtain ⟨CA,hCA⟩:∃z,a.ca=z:=⟨_,rfl⟩;have HCV:Hid (CondsV W2 (fun i=>i<w.heap.size) CA r.conds):=by rw [←hCA];exact HKR.out.c
 have HC11:Hid (∀w',Upd (fun i=>i=x∨At none i) W2 w'→w'.cell? ⟨rb,11,none⟩=some (.slice CA nc a.cc)):=fun w' u=>by
  obtain ⟨_,_,_,_,_,_,_,_,_,_,_,h,_,_⟩:=rl_cells (HRB.out w' u);rw [hCA,Hnc.out] at h;exact h
 have HFU:Hid (∀w',Upd (fun i=>i=x∨At none i) W2 w'→∀i,i<W2.heap.size→i<w.heap.size→¬(i=x∨At none i)):=fun w' _ i _ hi q=>by
  rcases q with q | q
  ·have:=HXW.out;omega
  ·exact At.none_ q
 clear c0 c1 c2 c3 c4 c5 c6 c7 c8 c9 c10 c11 c12 c13 C2 hB2 hCA;go_wp2_with fail
 go_loopg [12] nc (fun gg s12 wr=>∃(j:Nat) (A3:Option Addr) (k3:Nat),Hid (gg=nc - j)∧j≤nc∧s12=.int .i64 j∧Hid (BS W2 none wr (fun i=>i<w.heap.size) x k ins (rest1.drop j) ((add0++add1)++List.zipWith (cdBit k (insF ins)) (r.conds.take j) rest1) A3 k3))
 case atStart=>exact ⟨0,A2,k2,rfl,by omega,rfl,by rw [List.drop_zero,List.take_zero];show BS _ _ _ _ _ _ _ _ (_++[]) _ _;rw [List.append_nil];exact HB2.out⟩
 case round =>
  obtain ⟨j,A3,k3,Hgg,hj,rfl,HB3⟩:=hrel;have y11:=HC11.out wr HB3.out.upd;by_cases hlt:j<nc
  ·have hjl:j<r.conds.length:=by rw [Hnc.out];exact hlt
   have hjr:j<rest1.length:=by rw [HR1.out];omega
   obtain ⟨b,o,rfl,_,hbw,q0,q1,q2,q3⟩:=(HCV.out.upd HB3.out.upd (HFU.out wr HB3.out.upd)).at_ hjl;have hcd:=HCD.out _ (List.getElem_mem hjl);have hzs:=zip_succ (cdBit k (insF ins)) hjl hjr;generalize r.conds[j]=cd at *;obtain ⟨kind,a_,b_,n_⟩:=cd;simp only at q0 q1 q2 q3 hcd;obtain ⟨⟨hk1,hk4⟩,hni,ha1,ha2,hb12⟩:=hcd;obtain ⟨an,rfl⟩:∃an:Nat,a_=((an+1:Nat):Int):=⟨(a_ - 1).toNat,by omega⟩;have hanl:an<ins.length:=by rw [HIL.out];omega
   have hjn:(j:Int)<(nc:Int):=by omega
   have hj0:(0:Int)≤(j:Int):=by omega
   have hB3:=HB3.out;rw [drop_cons hjr] at hB3;obtain ⟨m,Hm⟩:=nm rest1[j];rw [Hm.out] at hB3 hzs;obtain ⟨cb,hcb⟩:∃z,wr.heap.size=z:=⟨_,rfl⟩;obtain ⟨AN,HAN⟩:=nm (((an+1:Nat):Int));rw [HAN.out] at q1;obtain ⟨W5,HW5⟩:=nm (wr.alloc (.cells #[.int .i64 kind,.int .i64 AN,.int .i64 b_,.int .i64 n_] 63));have u5:Upd Non wr W5:=by rw [←HW5.out];exact Upd.refl.alloc _
   have hcB:Blk W5 cb 63 #[.int .i64 kind,.int .i64 AN,.int .i64 b_,.int .i64 n_]:=by rw [←HW5.out,←hcb];exact Blk.new _ _ _
   have HB5:=h_ (hB3.non u5);have CT:=h_ (rTake_c HB5.out.rt);have e5:=HW5.out;have HCB:=h_ hcB;have HXC:Hid (x<cb):=by show x<cb;rw [←hcb];exact HB3.out.rt.lt
   have HZS:=h_ hzs;have HB12:=h_ hb12;clear hB3 u5 hcB hzs hb12 ha1 ha2 hjl;unfold b8 at CT;go_wp2_with fail
   refine CT.out.mono ?_;rintro e w6 ht;have hu6:=ht.2.2;obtain ⟨rfl,hB6⟩:=HB5.out.take ht;unfold b8;have hcb6:=HCB.out.upd hu6 (by have:=HXC.out;omega);have z0:=hcb6.cell 0;have z1:=hcb6.cell 1;have z2:=hcb6.cell 2;have z3:=hcb6.cell 3;obtain ⟨ib,io,rfl,_,_,hia⟩:=(HIN.out.upd hB6.upd (HFU.out w6 hB6.upd)).at_ (k:=an) (by rw [b8s_len];exact hanl)
   have hiv:(b8s ins)[an]'(by rw [b8s_len];exact hanl)=.int .u8 (bW (insF ins an)):=by
    have h1:(b8s ins)[an]'(by rw [b8s_len];exact hanl)=b8 (ins[an]'hanl):=by unfold b8s;rw [List.getElem_map]
    rw [h1];unfold insF;rw [getD_of hanl];rfl
   rw [hiv] at hia;obtain ⟨pv_,Hpv⟩:=nm (insF ins an);rw [Hpv.out] at hia
   have HBB:=h_ (fun (bn:Nat) (hbn:bn<ins.length)=>(show w6.cell? ⟨ib,io+bn,none⟩=some (.int .u8 (bW (insF ins bn))) by
    obtain ⟨ib2,io2,e,_,_,h⟩:=(HIN.out.upd hB6.upd (HFU.out w6 hB6.upd)).at_ (k:=bn) (by rw [b8s_len];exact hbn);injection e with e
    injection e with e1 e2
    subst e1 e2;rw [h];have h1:(b8s ins)[bn]'(by rw [b8s_len];exact hbn)=b8 (ins[bn]'hbn):=by unfold b8s;rw [List.getElem_map]
    rw [h1];unfold insF;rw [getD_of hbn]
    rfl))
   have HB6:=h_ hB6;have q4:wrap64 (AN - 1)=(an:Int):=by rw [←HAN.out,wrap64_of (by unfold I64;have:=HIL.out;omega)];omega
   have q5:(0:Int)≤(an:Int):=by omega
   have q6:(an:Int)<(il:Int):=by rw [←Hil.out];omega
   clear ht hu6 hcb6 CT hiv HIN hB6 e5;have h4:kind=1∨kind=2∨kind=3∨kind=4:=by omega
   have HTA:Hid ((((an+1:Nat):Int) - 1).toNat=an):=by show _=_;omega
   rcases h4 with h | h | h | h
   ·subst h;obtain ⟨mv,hmv⟩:∃b,(m || pv_)=b:=⟨_,rfl⟩;have hor:=b8_or m pv_;rw [hmv] at hor
    have HCDB:Hid (cdBit k (insF ins) ⟨1,((an+1:Nat):Int),b_,n_⟩ m=mv):=by
     show _=_;unfold cdBit;rw [if_pos rfl];show (m || insF ins ((((an+1:Nat):Int) - 1).toNat))=mv;rw [HTA.out,Hpv.out,hmv]
    clear hmv HBB;have HNX:Hid (((add0++add1)++List.zipWith (cdBit k (insF ins)) (r.conds.take j) rest1)++[mv]=(add0++add1)++List.zipWith (cdBit k (insF ins)) (r.conds.take (j+1)) rest1):=by show _=_;rw [HZS.out,HCDB.out,List.append_assoc]
    obtain ⟨I6,i6,O6,o6,d0,d1,d2,d3,f3,f2,_,_,_,_⟩:=HB6.out.cells;have hO6:=HB6.out.rt.own;have hnlb:((add0++add1)++List.zipWith (cdBit k (insF ins)) (r.conds.take j) rest1).length≤4000:=by rw [List.length_append,List.length_append,List.length_zipWith,List.length_take,HR1.out,Hnc.out];have:=HAL.out;omega
    obtain ⟨NW,HNW⟩:=nm ((add0++add1)++List.zipWith (cdBit k (insF ins)) (r.conds.take j) rest1);rw [HNW.out] at d3 hO6 hnlb HNX HB6;obtain ⟨nl,Hnl⟩:=nm NW.length;rw [Hnl.out] at d3 hO6 hnlb;clear d0 d1 d2 f2
    go_wp2_with (at_builtin;refine wpList_app rfl rfl T_u8s rfl (hO6.alloc _) rfl (Sl.new _ _ _) rfl (by simp [Value.oneCell']) (by simp only [maxLen];omega) (by omega) ?_)
    intro A7 c7 w7 ho7 hu7 hat7;have hx6:=HB6.out.rt.ne;have hp7:=HB6.out.push (z:=[mv]) (m:=1) (Upd.refl.alloc _) (by rw [Hnl.out];exact ho7) rfl hu7 (fun i q=>(hat7 i q).imp id (fun z=>by rw [z];simp));rw [Hnl.out,HNX.out] at hp7;have g3:=u_ d3 ((Upd.refl (S:=Non)).alloc (.cells #[.int .u8 (bW mv)] 5)) (fun f=>f);have g3':=u_ g3 hu7 hx6
    have hfz:w7.frozen? ⟨x,3,none⟩=false:=by
     obtain ⟨_,_,_,_,h1,_⟩:=(HB6.out.non ((Upd.refl (S:=Non)).alloc (.cells #[.int .u8 (bW mv)] 5))).rt.blk;exact (h1.upd hu7 hx6).frozen 3
    have HP7:=h_ hp7;clear hp7 ho7 hu7 hat7 g3 hO6 hx6 d3 f3;go_wp2_with fail
    go_roundg (nc - (j+1))
    case measure=>rw [Hgg.out];omega
    case rel=>exact ⟨j+1,A7,c7,rfl,by omega,by go_num,HP7.out⟩
   ·subst h;have CB:=h_ (fun w'=>rBitOf_c n_ k hk w');have CF:=h_ (fun w'=>rCompareFlag_c 18 (by omega) k m (bI n_ k) pv_ w');obtain ⟨mv,Hmv⟩:=nm (cfF 18 k m (bI n_ k) pv_);rw [Hmv.out] at CF
    have HCDB:Hid (cdBit k (insF ins) ⟨2,((an+1:Nat):Int),b_,n_⟩ m=mv):=by
     show ordB m (bI n_ k) (insF ins ((((an+1:Nat):Int) - 1).toNat)) (decide (k=63))=mv;rw [HTA.out,Hpv.out,←cf_le,Hmv.out]
    obtain ⟨bv,Hbv⟩:=nm (bI n_ k);rw [Hbv.out] at CB CF;unfold b8 at CB CF;clear HBB;go_wp2_with fail
    refine (CB.out _).mono ?_;rintro e w9 ⟨rfl,hw9⟩;subst hw9;go_wp2_with fail
    refine (CF.out _).mono ?_;rintro e w9 ⟨rfl,hw9⟩;subst hw9;have HNX:Hid (((add0++add1)++List.zipWith (cdBit k (insF ins)) (r.conds.take j) rest1)++[mv]=(add0++add1)++List.zipWith (cdBit k (insF ins)) (r.conds.take (j+1)) rest1):=by show _=_;rw [HZS.out,HCDB.out,List.append_assoc]
    obtain ⟨I6,i6,O6,o6,d0,d1,d2,d3,f3,f2,_,_,_,_⟩:=HB6.out.cells;have hO6:=HB6.out.rt.own;have hnlb:((add0++add1)++List.zipWith (cdBit k (insF ins)) (r.conds.take j) rest1).length≤4000:=by rw [List.length_append,List.length_append,List.length_zipWith,List.length_take,HR1.out,Hnc.out];have:=HAL.out;omega
    obtain ⟨NW,HNW⟩:=nm ((add0++add1)++List.zipWith (cdBit k (insF ins)) (r.conds.take j) rest1);rw [HNW.out] at d3 hO6 hnlb HNX HB6;obtain ⟨nl,Hnl⟩:=nm NW.length;rw [Hnl.out] at d3 hO6 hnlb;clear d0 d1 d2 f2
    go_wp2_with (at_builtin;refine wpList_app rfl rfl T_u8s rfl (hO6.alloc _) rfl (Sl.new _ _ _) rfl (by simp [Value.oneCell']) (by simp only [maxLen];omega) (by omega) ?_)
    intro A7 c7 w7 ho7 hu7 hat7;have hx6:=HB6.out.rt.ne;have hp7:=HB6.out.push (z:=[mv]) (m:=1) (Upd.refl.alloc _) (by rw [Hnl.out];exact ho7) rfl hu7 (fun i q=>(hat7 i q).imp id (fun z=>by rw [z];simp));rw [Hnl.out,HNX.out] at hp7;have g3:=u_ d3 ((Upd.refl (S:=Non)).alloc (.cells #[.int .u8 (bW mv)] 5)) (fun f=>f);have g3':=u_ g3 hu7 hx6
    have hfz:w7.frozen? ⟨x,3,none⟩=false:=by
     obtain ⟨_,_,_,_,h1,_⟩:=(HB6.out.non ((Upd.refl (S:=Non)).alloc (.cells #[.int .u8 (bW mv)] 5))).rt.blk;exact (h1.upd hu7 hx6).frozen 3
    have HP7:=h_ hp7;clear hp7 ho7 hu7 hat7 g3 hO6 hx6 d3 f3;go_wp2_with fail
    go_roundg (nc - (j+1))
    case measure=>rw [Hgg.out];omega
    case rel=>exact ⟨j+1,A7,c7,rfl,by omega,by go_num,HP7.out⟩
   ·subst h;have CB:=h_ (fun w'=>rBitOf_c n_ k hk w');have CF:=h_ (fun w'=>rCompareFlag_c 18 (by omega) k m pv_ (bI n_ k) w');obtain ⟨mv,Hmv⟩:=nm (cfF 18 k m pv_ (bI n_ k));rw [Hmv.out] at CF
    have HCDB:Hid (cdBit k (insF ins) ⟨3,((an+1:Nat):Int),b_,n_⟩ m=mv):=by
     show ordB m (insF ins ((((an+1:Nat):Int) - 1).toNat)) (bI n_ k) (decide (k=63))=mv;rw [HTA.out,Hpv.out,←cf_le,Hmv.out]
    obtain ⟨bv,Hbv⟩:=nm (bI n_ k);rw [Hbv.out] at CB CF;unfold b8 at CB CF;clear HBB;go_wp2_with fail
    refine (CB.out _).mono ?_;rintro e w9 ⟨rfl,hw9⟩;subst hw9;go_wp2_with fail
    refine (CF.out _).mono ?_;rintro e w9 ⟨rfl,hw9⟩;subst hw9;have HNX:Hid (((add0++add1)++List.zipWith (cdBit k (insF ins)) (r.conds.take j) rest1)++[mv]=(add0++add1)++List.zipWith (cdBit k (insF ins)) (r.conds.take (j+1)) rest1):=by show _=_;rw [HZS.out,HCDB.out,List.append_assoc]
    obtain ⟨I6,i6,O6,o6,d0,d1,d2,d3,f3,f2,_,_,_,_⟩:=HB6.out.cells;have hO6:=HB6.out.rt.own;have hnlb:((add0++add1)++List.zipWith (cdBit k (insF ins)) (r.conds.take j) rest1).length≤4000:=by rw [List.length_append,List.length_append,List.length_zipWith,List.length_take,HR1.out,Hnc.out];have:=HAL.out;omega
    obtain ⟨NW,HNW⟩:=nm ((add0++add1)++List.zipWith (cdBit k (insF ins)) (r.conds.take j) rest1);rw [HNW.out] at d3 hO6 hnlb HNX HB6;obtain ⟨nl,Hnl⟩:=nm NW.length;rw [Hnl.out] at d3 hO6 hnlb;clear d0 d1 d2 f2
    go_wp2_with (at_builtin;refine wpList_app rfl rfl T_u8s rfl (hO6.alloc _) rfl (Sl.new _ _ _) rfl (by simp [Value.oneCell']) (by simp only [maxLen];omega) (by omega) ?_)
    intro A7 c7 w7 ho7 hu7 hat7;have hx6:=HB6.out.rt.ne;have hp7:=HB6.out.push (z:=[mv]) (m:=1) (Upd.refl.alloc _) (by rw [Hnl.out];exact ho7) rfl hu7 (fun i q=>(hat7 i q).imp id (fun z=>by rw [z];simp));rw [Hnl.out,HNX.out] at hp7;have g3:=u_ d3 ((Upd.refl (S:=Non)).alloc (.cells #[.int .u8 (bW mv)] 5)) (fun f=>f);have g3':=u_ g3 hu7 hx6
    have hfz:w7.frozen? ⟨x,3,none⟩=false:=by
     obtain ⟨_,_,_,_,h1,_⟩:=(HB6.out.non ((Upd.refl (S:=Non)).alloc (.cells #[.int .u8 (bW mv)] 5))).rt.blk;exact (h1.upd hu7 hx6).frozen 3
    have HP7:=h_ hp7;clear hp7 ho7 hu7 hat7 g3 hO6 hx6 d3 f3;go_wp2_with fail
    go_roundg (nc - (j+1))
    case measure=>rw [Hgg.out];omega
    case rel=>exact ⟨j+1,A7,c7,rfl,by omega,by go_num,HP7.out⟩
   ·subst h;obtain ⟨hb1,hb2⟩:=HB12.out rfl;obtain ⟨bn,hbn⟩:∃bn:Nat,b_=((bn+1:Nat):Int):=⟨(b_ - 1).toNat,by omega⟩;have hbnl:bn<ins.length:=by rw [HIL.out];omega
    have hib:=HBB.out bn hbnl;obtain ⟨pw,Hpw⟩:=nm (insF ins bn);rw [Hpw.out] at hib;have r4:wrap64 (b_ - 1)=(bn:Int):=by rw [hbn,wrap64_of (by unfold I64;have:=HIL.out;omega)];omega
    have r5:(0:Int)≤(bn:Int):=by omega
    have r6:(bn:Int)<(il:Int):=by rw [←Hil.out];omega
    obtain ⟨xv,hxv⟩:∃b,(pv_ ^^ pw)=b:=⟨_,rfl⟩;have hxo:=b8_xor pv_ pw;rw [hxv] at hxo;obtain ⟨mv,hmv⟩:∃b,(m || xv)=b:=⟨_,rfl⟩;have hor:=b8_or m xv;rw [hmv] at hor
    have HCDB:Hid (cdBit k (insF ins) ⟨4,((an+1:Nat):Int),b_,n_⟩ m=mv):=by
     show _=_;rw [←hmv,←hxv,←Hpv.out,←Hpw.out,hbn];show (m || (insF ins ((((an+1:Nat):Int) - 1).toNat) ^^ insF ins ((((bn+1:Nat):Int) - 1).toNat)))=_;rw [HTA.out,show (((bn+1:Nat):Int) - 1).toNat=bn by omega]
    clear hmv hxv HBB hbn hb1 hb2 hbnl;have HNX:Hid (((add0++add1)++List.zipWith (cdBit k (insF ins)) (r.conds.take j) rest1)++[mv]=(add0++add1)++List.zipWith (cdBit k (insF ins)) (r.conds.take (j+1)) rest1):=by show _=_;rw [HZS.out,HCDB.out,List.append_assoc]
    obtain ⟨I6,i6,O6,o6,d0,d1,d2,d3,f3,f2,_,_,_,_⟩:=HB6.out.cells;have hO6:=HB6.out.rt.own;have hnlb:((add0++add1)++List.zipWith (cdBit k (insF ins)) (r.conds.take j) rest1).length≤4000:=by rw [List.length_append,List.length_append,List.length_zipWith,List.length_take,HR1.out,Hnc.out];have:=HAL.out;omega
    obtain ⟨NW,HNW⟩:=nm ((add0++add1)++List.zipWith (cdBit k (insF ins)) (r.conds.take j) rest1);rw [HNW.out] at d3 hO6 hnlb HNX HB6;obtain ⟨nl,Hnl⟩:=nm NW.length;rw [Hnl.out] at d3 hO6 hnlb;clear d0 d1 d2 f2
    go_wp2_with (at_builtin;refine wpList_app rfl rfl T_u8s rfl (hO6.alloc _) rfl (Sl.new _ _ _) rfl (by simp [Value.oneCell']) (by simp only [maxLen];omega) (by omega) ?_)
    intro A7 c7 w7 ho7 hu7 hat7;have hx6:=HB6.out.rt.ne;have hp7:=HB6.out.push (z:=[mv]) (m:=1) (Upd.refl.alloc _) (by rw [Hnl.out];exact ho7) rfl hu7 (fun i q=>(hat7 i q).imp id (fun z=>by rw [z];simp));rw [Hnl.out,HNX.out] at hp7;have g3:=u_ d3 ((Upd.refl (S:=Non)).alloc (.cells #[.int .u8 (bW mv)] 5)) (fun f=>f);have g3':=u_ g3 hu7 hx6
    have hfz:w7.frozen? ⟨x,3,none⟩=false:=by
     obtain ⟨_,_,_,_,h1,_⟩:=(HB6.out.non ((Upd.refl (S:=Non)).alloc (.cells #[.int .u8 (bW mv)] 5))).rt.blk;exact (h1.upd hu7 hx6).frozen 3
    have HP7:=h_ hp7;clear hp7 ho7 hu7 hat7 g3 hO6 hx6 d3 f3;go_wp2_with fail
    go_roundg (nc - (j+1))
    case measure=>rw [Hgg.out];omega
    case rel=>exact ⟨j+1,A7,c7,rfl,by omega,by go_num,HP7.out⟩
  ·obtain rfl:nc=j:=by omega
   have hjr:nc<rest1.length:=by rw [HR1.out];omega
   have hB3:=HB3.out;rw [drop_cons hjr,List.drop_eq_nil_of_le (by rw [HR1.out];exact Nat.le_refl _)] at hB3;obtain ⟨m,Hm⟩:=nm rest1[nc];rw [Hm.out] at hB3;have HB4:=h_ hB3;have CT:=h_ (rTake_c HB4.out.rt);have HFN:Hid (List.zipWith (cdBit k (insF ins)) (r.conds.take nc) rest1=List.zipWith (cdBit k (insF ins)) r.conds rest1):=by show _=_;rw [List.take_of_length_le (by rw [Hnc.out];exact Nat.le_refl _)]
   obtain ⟨I6,i6,O6,o6,d0,d1,d2,d3,f3,f2,_,_,_,_⟩:=HB4.out.cells;have hnlb:((add0++add1)++List.zipWith (cdBit k (insF ins)) (r.conds.take nc) rest1).length=add0.length+add1.length+nc:=by rw [List.length_append,List.length_append,List.length_zipWith,List.length_take,HR1.out,Hnc.out];omega
   have HMG:Hid (rest1.getD nc false=m):=by show _=_;rw [getD_of hjr];exact Hm.out
   obtain ⟨NW,HNW⟩:=nm ((add0++add1)++List.zipWith (cdBit k (insF ins)) (r.conds.take nc) rest1);rw [HNW.out] at d3 hnlb HB4 CT;have hal:=HAL.out;have HNL:Hid (NW.length+1=sn):=by show _=_;omega
   have hnl2:NW.length≤4000:=by omega
   obtain ⟨nl,Hnl⟩:=nm NW.length;rw [Hnl.out] at d3 HNL hnl2;obtain ⟨xv,hxv⟩:∃b,(a0 ^^ a1)=b:=⟨_,rfl⟩;have hxo:=b8_xor a0 a1;rw [hxv] at hxo;obtain ⟨mv,hmv⟩:∃b,(m || xv)=b:=⟨_,rfl⟩;have hor:=b8_or m xv;rw [hmv] at hor
   have HRES:Hid (b8s NW++[.int .u8 (bW mv)]=b8s (succF k (insF ins) r old)):=by
    show _=_;rw [HSU.out,←HFN.out,HNW.out,HMG.out,hxv,hmv];unfold b8s;rw [List.map_append];rfl
   clear hnlb hal hB3 hxv hmv d0 d1 d2 f3 f2;unfold b8;have HBD:=h_ (HB4.out.non (Upd.refl (S:=Non) (w:=wr)).drew);have CT2:=h_ (rTake_c HBD.out.rt);unfold b8 at CT2;obtain ⟨W6,HW6⟩:=nm wr.drew;rw [HW6.out] at HBD CT2;have d3':=u_ (S:=Non) d3 (by rw [←HW6.out];exact Upd.refl.drew) (w':=W6) (fun f=>f);clear CT d3;go_wp2_with fail
   refine wp_region_held_drew (S:=fun w'=>w'.cell? ⟨x,3,none⟩=some (.slice A3 nl k3)) (by kernel_rfl) (by rw [HW6.out];exact d3') (fun hHeld=>?_);rw [HW6.out] at hHeld ⊢;refine wpT 0 ?_;(try simp only [y_,z_]);refine wpT 1 ?_;(try simp only [y_,z_]);refine wpT 2 ?_;(try simp only [y_,z_]);refine wpT 3 ?_;(try simp only [y_,z_]);refine wpT 4 ?_;(try simp only [y_,z_]);refine wpT 6 ?_;(try simp only [y_,z_]);refine wpT 7 ?_;(try simp only [y_,z_]);refine wpT 8 ?_;(try simp only [y_,z_]);refine aR_ (rs:=[5]) (by kernel_rfl) (by simp) ?_;refine aC_ rfl (fun K hK=>?_) aN_;go_simp;refine CT2.out.mono ?_;rintro e w7 ht;obtain ⟨rfl,hB7⟩:=HBD.out.take ht;obtain ⟨I7,i7,O7,o7,_,_,_,d7,_,_,_,_,_,_⟩:=hB7.cells;rw [Hnl.out] at d7;have HB7:=h_ hB7;have hO7:=hB7.rt.own;rw [Hnl.out] at hO7;unfold b8;clear ht hB7;go_wp2_with fail
   refine hK.out _ _ ?_ (fun hHeld=>?_)
   ·exact d7
   clear hK K;(try simp only [y_,z_]);refine wpT 9 ?_;(try simp only [y_,z_]);refine aR_ (rs:=[10]) (by kernel_rfl) (by simp) ?_;refine aC_ rfl (fun K hK=>?_) aN_;go_simp;obtain ⟨W8,HW8⟩:=nm (w7.alloc (.cells #[.int .u8 (bW mv)] 5));have u8:Upd Non w7 W8:=by rw [←HW8.out];exact Upd.refl.alloc _
   have d8:=u_ (S:=Non) d7 u8 (fun f=>f);have hO8:=hO7.upd u8 (fun _ _ f=>f);have hS8:Sl W8 (fun _=>True) (some ⟨w7.heap.size,0,none⟩) [.int .u8 (bW mv)]:=by rw [←HW8.out];exact (Sl.new w7 5 _).mono (fun _ _ _=>trivial)
   rw [HW8.out];refine hK.out _ _ ?_ (fun hHeld=>?_)
   ·exact d8
   clear hK K;(try simp only [y_,z_]);refine aR_ (rs:=[11]) (by kernel_rfl) (by simp) ?_;refine aC_ rfl (fun K hK=>?_) aN_;refine step_app rfl rfl T_u8s rfl hO8 rfl hS8 rfl (by simp [Value.oneCell']) (by simp only [maxLen];omega) (by omega) ?_;intro A9 c9 w9 ho9 hu9 hat9;have hx8:¬At A3 x:=HB7.out.rt.ne;have d9:=u_ d8 hu9 hx8;refine hK.out _ _ ?_ (fun hHeld=>?_)
   ·exact d9
   clear hK K;(try simp only [y_,z_])
   have HFI:Hid (∃NA nc,Value.slice A9 (nl+1) c9=.slice NA sn nc∧Own w9 5 1 NA sn nc (b8s (succF k (insF ins) r old))∧(∀i,At NA i→w.heap.size≤i)∧Upd Non w w9):=by
    refine ⟨A9,c9,by rw [HNL.out],?_,fun i q=>?_,?_⟩
    ·rw [←HNL.out,←HRES.out];exact ho9
    ·have hs:=u8.size;have hw:=HB7.out.upd.size;have hw2:=HUW.out.size;rcases hat9 i q with q | q
     ·rcases HB7.out.at_ i q with q | q
      ·exact (At.none_ q).elim
      ·omega
     ·omega
    ·have hu7:Upd Non w w7:=HUW.out.trans HB7.out.upd (fun i hi q=>by
      rcases q with q | q
      ·have:=HXW.out;omega
      ·exact At.none_ q)
     exact (hu7.then_non u8).trans hu9 (fun i hi q=>by
      have hw2:=HUW.out.size;rcases HB7.out.at_ i q with q | q
      ·exact At.none_ q
      ·omega)
   clear ho9 hu9 hat9 hx8 d8 hO8 hS8 u8 d7 hO7 HB7;refine wpT 12 ?_;(try simp only [y_,z_]);refine aD_ (by kernel_rfl) ?_ _;clear hHeld d9;go_wp2_with fail
   go_ret;obtain ⟨NA9,n9,e9,h9⟩:=HFI.out;exact ⟨NA9,n9,congrArg Ending.returned e9,h9⟩
theorem bI_nat {h j:Nat} (hh:h<18446744073709551616):bI (h:Int) j=h.testBit j:=by
 have : uW (h:Int)=h:=by have:=uW_eq (h:Int);omega
 rw [bI_eq,this]
def bitsN (h n:Nat):List Bool:=(List.range n).map h.testBit
theorem bitsN_len (h n:Nat):(bitsN h n).length=n:=by simp [bitsN]
theorem bitsN_succ (h n:Nat):bitsN h (n+1)=bitsN h n++[h.testBit n]:=by simp [bitsN,List.range_succ]
theorem insF_bits {h n i:Nat} (hi:i<n):insF (bitsN h n) i=h.testBit i:=by
 unfold insF;rw [getD_of (by rw [bitsN_len];exact hi)];simp [bitsN]
theorem succs_take (r:Rl) (k:Nat) (b:List Bool) {h:Nat} (hh:h<2 ^ r.vars.toNat) (hr:ROk r.vars.toNat r):(succsF r k b).take (h+1)=(succsF r k b).take h++[succF k (insF (bitsN h r.vars.toNat)) r b]:=by
 have hl:h<(succsF r k b).length:=by unfold succsF;rw [List.length_map,List.length_range];exact hh
 rw [List.take_succ_eq_append_getElem hl]
 congr 2
 simp only [succsF,List.getElem_map,List.getElem_range];exact succF_congr hr (fun i hi=>(insF_bits hi).symm) b
set_option maxRecDepth 100000 in
set_option maxHeartbeats 16000000 in
theorem rSuccessors_c (r:Rl) (a:RlA) (k:Nat) (hk:k<64) (old:List Bool) (hro:ROk r.vars.toNat r) (hv0:0≤r.vars) (hv6:r.vars.toNat≤6) (hc6:r.conds.length≤6) (hst:stN r≤4000) (hol:old.length=stN r) {F:Nat→Prop} {w:World} {OA:Option Addr} {oc:Nat} (hkr:RlK w F r a) (hO:Sl w F OA (b8s old)) (hoc:old.length≤oc) :
  Calls Tryz.prog 44 #[rlv r a,.int .i64 k,.slice OA old.length oc] w fun e w'=>∃NA n nc,e=.returned (.slice NA n nc)∧ElO ElRow 1 85 w' (U8B w') NA n nc ((succsF r k old).map bbs)∧(∀i,At NA i→w.heap.size≤i)∧Upd Non w w':=by
 obtain ⟨W,HW⟩:=nm (w.alloc (.cells (rlCells r a) 27));have hU:Upd Non w W:=by rw [←HW.out];exact Upd.refl.alloc _
 obtain ⟨rb,hrb⟩:∃b,w.heap.size=b:=⟨_,rfl⟩;have hb:Blk W rb 27 (rlCells r a):=by rw [←HW.out,←hrb];exact Blk.new _ _ _
 have e0:=HW.out;have hKr:=(hkr.mono (G:=fun i=>i<w.heap.size) (fun i hi _=>hi)).upd hU (fun _ _ _ f=>f);have hO2:=(hO.mono (G:=fun i=>i<w.heap.size) (fun i hi _=>hi)).upd hU (fun _ _ _ f=>f);have HRB:=h_ (fun (w':World) (u:Upd Non W w')=>rl_cells (hb.upd u (fun f=>f)));have HU:=h_ hU;obtain ⟨vn,hvn⟩:∃n:Nat,r.vars=(n:Int):=⟨r.vars.toNat,by omega⟩;have HVN:Hid (r.vars.toNat=vn):=by show _=_;omega
 obtain ⟨H,HH⟩:=nm (2 ^ vn);have hv6':vn≤6:=by rw [←HVN.out];exact hv6
 have hH:H≤64:=by rw [←HH.out];exact Nat.le_trans (Nat.pow_le_pow_right (by decide) hv6') (by decide)
 have hsh:wrap64 ((2:Int) ^ vn)=(H:Int):=by
  have e:((2:Int) ^ vn)=((2 ^ vn:Nat):Int):=by push_cast;rfl
  rw [e,HH.out];exact wrap64_of (by unfold I64;omega)
 have HC12:Hid (∀w',Upd Non W w'→w'.cell? ⟨rb,12,none⟩=some (.int .i64 (vn:Int))):=fun w' u=>by
  obtain ⟨_,_,_,_,_,_,_,_,_,_,_,_,h,_⟩:=HRB.out w' u;rw [hvn] at h;exact h
 have CS:=h_ (fun (w':World) (u:Upd Non W w') (ins:List Bool) (hil:ins.length=vn) (IA:Option Addr) (ic:Nat) (hI:Sl w' (fun _=>True) IA (b8s ins)) (hic:ins.length≤ic)=>rSuccessor_c r a k hk ins old hro hv6 hc6 hst (by rw [hil,HVN.out]) hol (F:=fun _=>True) (w:=w') (IA:=IA) (OA:=OA) (ic:=ic) (oc:=oc) ((hKr.upd u (fun _ _ _ f=>f)).mono (fun _ _ _=>trivial)) hI ((hO2.upd u (fun _ _ _ f=>f)).mono (fun _ _ _=>trivial)) hic hoc)
 have HST:=h_ (fun (h:Nat) (hh:h<2 ^ r.vars.toNat)=>succs_take r k old hh hro);have HSL:=h_ (succsF_len r k old);obtain ⟨sn,Hsn⟩:=nm (stN r);obtain ⟨ol,Hol⟩:=nm old.length;rw [Hol.out] at CS;rw [Hsn.out] at CS hst;unfold rlv at CS ⊢;unfold rlCells at e0 CS ⊢;rw [hvn] at e0 CS ⊢;rw [Hol.out];have HW0:Hid (w.heap.size≤W.heap.size):=hU.size;clear hkr hO hU hb hKr hO2 hro hvn hol hoc hv6 hv0;go_enter Tryz.func44,Tryz.ntmps44;go_wp2_with fail
 go_loopg [7,8] H (fun gg s7 s8 wr=>∃(h:Nat) (NA:Option Addr) (n nc:Nat),Hid (gg=H - h)∧h≤H∧s7=.slice NA n nc∧s8=.int .i64 h∧n≤h∧Hid (ElO ElRow 1 85 wr (U8B wr) NA n nc (((succsF r k old).take h).map bbs))∧Hid (∀i,At NA i→W.heap.size≤i)∧Hid (Upd Non W wr))
 case atStart=>exact ⟨0,none,0,0,rfl,by omega,rfl,rfl,Nat.le_refl _,by rw [List.take_zero];exact ElO.none_,fun i q=>(At.none_ q).elim,Upd.refl⟩
 case round =>
  obtain ⟨h,NA,n,nc,Hg,hh,rfl,rfl,hnh,HN,HA,HUr⟩:=hrel;obtain ⟨wh,rfl⟩:∃z:World,z=wr:=⟨_,rfl⟩;have y12:=HC12.out wh HUr.out;by_cases hlt:h<H
  ·have th:(h:Int)<(H:Int):=by omega
   go_wp2_with fail
   rw [hsh]
   go_loopg [9,10] vn (fun gg s9 s10 wr=>∃(j:Nat) (IA:Option Addr) (ic:Nat),Hid (gg=vn - j)∧j≤vn∧s9=.slice IA j ic∧s10=.int .i64 j∧Hid (Own wr 5 1 IA j ic (b8s (bitsN h j)))∧Hid (∀i,At IA i→wh.heap.size≤i)∧Hid (Upd Non wh wr))
   case atStart=>exact ⟨0,none,0,rfl,by omega,rfl,rfl,Own.none_,fun i q=>(At.none_ q).elim,Upd.refl⟩
   case round =>
    obtain ⟨j,IA,ic,Hg2,hj,rfl,rfl,HI,HAI,HUj⟩:=hrel;obtain ⟨wj,rfl⟩:∃z:World,z=wr:=⟨_,rfl⟩;have z12:=HC12.out wj (HUr.out.then_non HUj.out);by_cases hjv:j<vn
    ·have tj:(j:Int)<(vn:Int):=by omega
     have hbit:=bit_u8 (h:Int) j (by omega);rw [bI_nat (by omega)] at hbit;have HBS:Hid (b8s (bitsN h j)++[.int .u8 (bW (h.testBit j))]=b8s (bitsN h (j+1))):=by show _=_;rw [bitsN_succ];unfold b8s;rw [List.map_append];rfl
     have hOj:=HI.out;obtain ⟨tb,Htb⟩:=nm (h.testBit j);rw [Htb.out] at hbit HBS
     go_wp2_with (at_builtin;refine wpList_app rfl rfl T_u8s rfl (hOj.alloc _) rfl (Sl.new _ _ _) rfl (by simp [Value.oneCell']) (by simp only [maxLen];omega) (by omega) ?_)
     intro A5 c5 w5 ho5 hu5 hat5;have HO5:Hid (Own w5 5 1 A5 (j+1) c5 (b8s (bitsN h (j+1)))):=by rw [←HBS.out];exact ho5
     have HA5:Hid (∀i,At A5 i→wh.heap.size≤i):=fun i q=>by
      have:=HUj.out.size;rcases hat5 i q with q | q
      ·exact HAI.out i q
      ·omega
     have HU5:Hid (Upd Non wh w5):=(HUj.out.alloc _).trans hu5 (fun i hi q=>by have:=HAI.out i q;omega);clear ho5 hu5 hat5 hOj;go_wp2_with fail
     go_roundg (vn - (j+1))
     case measure=>rw [Hg2.out];omega
     case rel=>exact ⟨j+1,A5,c5,rfl,by omega,rfl,by go_num,HO5.out,HA5.out,HU5.out⟩
    ·obtain rfl:vn=j:=by omega
     have C1:=h_ (CS.out wj (HUr.out.then_non HUj.out) (bitsN h vn) (bitsN_len h vn) IA ic (HI.out.sl.mono (fun _ _ _=>trivial)) (by rw [bitsN_len];exact HI.out.le))
     rw [bitsN_len] at C1;have HTK:=h_ (HST.out h (by rw [HVN.out,HH.out];exact hlt));rw [HVN.out] at HTK;obtain ⟨sv,Hsv⟩:=nm (succF k (insF (bitsN h vn)) r old);rw [Hsv.out] at C1 HTK;obtain ⟨c0,c1,c2,c3,c4,c5,c6,c7,c8,c9,c10,c11,c12,c13⟩:=HRB.out wj (HUr.out.then_non HUj.out);clear c12;go_wp2_with fail
     refine C1.out.mono ?_;rintro e w5 ⟨A5,c5',rfl,ho5,ha5,u5⟩;have HU5:=h_ (HUj.out.then_non u5);obtain ⟨hn,cs,hoN,hCN⟩:=HN.out;have HHN:=h_ (And.intro hn hCN);have hoN5:=hoN.upd HU5.out (fun _ _ f=>f);have HN5:=h_ hoN;have HO5:=h_ ho5;have HA5:=h_ ha5;clear hn hCN hoN ho5 ha5 u5 C1 c0 c1 c2 c3 c4 c5 c6 c7 c8 c9 c10 c11 c13
     go_wp2_with (at_builtin;refine wpList_app rfl rfl T_rows rfl (hoN5.alloc _) rfl (Sl.new _ _ _) rfl (by simp [Value.oneCell']) (by simp only [maxLen];omega) (by omega) ?_)
     intro A8 c8 w8 ho8 hu8 hat8
     have HN8:Hid (ElO ElRow 1 85 w8 (U8B w8) A8 (n+1) c8 (((succsF r k old).take (h+1)).map bbs)):=by
      obtain ⟨hn,hCN⟩:=HHN.out;have hal:Upd Non wh (w5.alloc (.cells #[.slice A5 sn c5'] 85)):=HU5.out.alloc _;have ho5a:=HO5.out.alloc (.cells #[.slice A5 sn c5'] 85);obtain ⟨qb,rfl⟩:=HO5.out.some_ (by rw [←Hsn.out];unfold stN;omega);rw [HTK.out,List.map_append];exact ElO.snoc8 elRow (by decide) hn hCN hal (HN5.out.upd hal (fun _ _ f=>f)) (elRow_of ho5a (by have:=HO5.out.len;rw [b8s_len,Nat.mul_one] at this;exact this) ⟨own_u8 ho5a,fun q=>by have h1:=HN5.out.lt q;have h2:=HA5.out qb (At.some_.2 rfl);have h3:=HUj.out.size;omega⟩) ho8 hu8 (fun i q=>(hat8 i q).imp id (fun z=>by rw [z];simp))
     have HA8:Hid (∀i,At A8 i→W.heap.size≤i):=fun i q=>by
      have h1:=HU5.out.size;have h2:=HUr.out.size;rcases hat8 i q with q | q
      ·exact HA.out i q
      ·omega
     have HU8:Hid (Upd Non W w8):=(HUr.out.then_non (HU5.out.alloc _)).trans hu8 (fun i hi q=>by have:=HA.out i q;omega);clear ho8 hu8 hat8 hoN5;go_wp2_with fail
     go_roundg (H - (h+1))
     case measure=>rw [Hg.out];omega
     case rel=>exact ⟨h+1,A8,n+1,c8,rfl,by omega,rfl,by go_num,by omega,HN8.out,HA8.out,HU8.out⟩
  ·obtain rfl:H=h:=by omega
   have HFIN:Hid (ElO ElRow 1 85 wh (U8B wh) NA n nc ((succsF r k old).map bbs)):=by
    have:=HN.out
    rwa [List.take_of_length_le (by rw [HSL.out,HVN.out,HH.out];exact Nat.le_refl _)] at this
   go_wp2_with fail
   go_ret;exact ⟨NA,n,nc,rfl,HFIN.out,fun i q=>Nat.le_trans HW0.out (HA.out i q),HU.out.then_non HUr.out⟩
theorem insB_take {b:List Bool}:∀{L:List (List Bool)} {k:Nat} (_:k≤L.length) (_:∀i (_:i<k) (h2:i<L.length),ltB L[i] b=true) (_:∀h:k<L.length,ltB L[k] b=false∧L[k]≠b),insB b L=L.take k++b::L.drop k
 | [],0,_,_,_=>rfl
 | [],k+1,h,_,_=>absurd h (by simp)
 | x::L,0,_,_,h2=>by
  obtain ⟨q1,q2⟩:=h2 (by simp);have q1:ltB x b=false:=q1;have q2:x≠b:=q2;rw [insB,if_neg (by rw [q1];decide),if_neg q2];rfl
 | x::L,k+1,h,h1,h2=>by
  have q:=h1 0 (by omega) (by simp);have q:ltB x b=true:=q;rw [insB,if_pos q,insB_take (k:=k) (by simp at h;omega) (fun i hi hi2=>h1 (i+1) (by omega) (by simp;omega)) (fun hk=>h2 (by simp;omega))];rfl
theorem insB_same {b:List Bool}:∀{L:List (List Bool)} {k:Nat} (hk:k<L.length) (_:∀i (h:i<k),ltB (L[i]'(Nat.lt_trans h hk)) b=true) (_:L[k]=b),insB b L=L
 | [],k,hk,_,_=>absurd hk (by simp)
 | x::L,0,_,_,h2=>by
  have h2:x=b:=h2;subst h2;rw [insB,if_neg (by rw [ltB_irrefl];decide),if_pos rfl]
 | x::L,k+1,h,h1,h2=>by
  have q:=h1 0 (by omega);have q:ltB x b=true:=q;rw [insB,if_pos q,insB_same (k:=k) (by simp at h;omega) (fun i hi=>h1 (i+1) (by omega)) h2]
theorem elO_of {w:World} {A:Option Addr} {n c:Nat} {cs:List Value} {L:List (List UInt8)} (ho:Own w 85 1 A n c cs) (hC:ElCells ElRow 1 w (U8B w) cs L) (hn:n=L.length):ElO ElRow 1 85 w (U8B w) A n c L :=
 ⟨hn,cs,ho,hC.mono elRow (Upd.refl (S:=Non)) (fun _ _ _ f=>f) (fun i _ h=>⟨h,by obtain ⟨z,hb⟩:=h;exact ho.ne_blk hb (by decide)⟩)⟩
theorem elRows_upd {w w':World} {S:Nat→Prop} {cs:List Value} {L:List (List UInt8)} (hC:ElCells ElRow 1 w (U8B w) cs L) (u:Upd S w w') (d:∀i z,Blk w i 5 z→¬S i):ElCells ElRow 1 w' (U8B w') cs L :=
 hC.mono elRow u (fun i _ h=>by obtain ⟨z,hb⟩:=h;exact d i z hb) (fun i _ h=>h.upd u (by obtain ⟨z,hb⟩:=h;exact d i z hb))
theorem elRows_one {w:World} {K:Nat→Prop} {cs:List Value} {L:List (List UInt8)} (h:ElCells ElRow 1 w K cs L):∀u∈cs,u.oneCell'=true:=by
 intro u hu;obtain ⟨j,hj,rfl⟩:=List.getElem_of_mem hu;have hl:=h.1;obtain ⟨el,he,RA,rc,rfl,_,_⟩:=h.get (i:=j) (by omega);have:=he 0 (by omega);rw [show 1 * j+0=j by omega,List.getElem?_eq_getElem hj] at this;injection this with this
 rw [this];rfl
set_option maxRecDepth 100000 in
set_option maxHeartbeats 4000000 in
theorem rLessBits_c {w:World} {F G:Nat→Prop} {AA BB:Option Addr} {ac bc n m:Nat} {a b:List Bool} (ha:Sl w F AA (b8s a)) (hb:Sl w G BB (b8s b)) (hn:n=a.length) (hm:m=b.length):Calls Tryz.prog 79 #[.slice AA n ac,.slice BB m bc] w fun e w'=>e=.returned (.bool (ltB a b))∧w=w':=by
 have e1:=run_rowstr (n:=n) (c:=ac) (l:=bbs a) (by rw [←b8s_u8s];exact ha) (by unfold bbs;rw [List.length_map];exact hn);have e2:=run_rowstr (n:=m) (c:=bc) (l:=bbs b) (by rw [←b8s_u8s];exact hb) (by unfold bbs;rw [List.length_map];exact hm);have hl:Op.bytesLess (kstr (bbs a)).toList (kstr (bbs b)).toList=ltB a b:=by rw [kstr_toList,kstr_toList,bytesLess_bbs]
 generalize kstr (bbs a)=sa at e1 hl;generalize kstr (bbs b)=sb at e2 hl;obtain ⟨lt,hlt⟩:=nm (ltB a b);rw [hlt.out] at hl ⊢;clear ha hb hn hm hlt;go_enter Tryz.func79,Tryz.ntmps79;go_wp2_with fail
 go_ret;exact ⟨rfl,rfl⟩
set_option maxRecDepth 100000 in
set_option maxHeartbeats 16000000 in
theorem rInsert_c {w:World} {A:Option Addr} {n c:Nat} {L:List (List Bool)} (hE:ElO ElRow 1 85 w (U8B w) A n c (L.map bbs)) (hn:n≤1000000000) {BA:Option Addr} {bc m:Nat} {b:List Bool} (hb:Sl w (U8B w) BA (b8s b)) (hm:m=b.length) (hbc:m≤bc) :
  Calls Tryz.prog 42 #[.slice A n c,.slice BA m bc] w fun e w'=>∃A' n' c',e=.returned (.slice A' n' c')∧ElO ElRow 1 85 w' (U8B w') A' n' c' ((insB b L).map bbs)∧(∀i,At A' i→At A i∨w.heap.size≤i)∧n'≤n+1∧Upd Non w w':=by
 obtain ⟨hnL,cs,hO,hC0⟩:=hE;rw [List.length_map] at hnL;have hC:ElCells ElRow 1 w (U8B w) cs (L.map bbs):=hC0.mono elRow (Upd.refl (S:=Non)) (fun _ _ _ f=>f) (fun _ _ h=>h.1);have hcl:cs.length=n:=by rw [hO.len,Nat.mul_one]
 have hrow:∀k (hk:k<L.length),∃g RA rc,A=some ⟨g,0,none⟩∧w.cell? ⟨g,k,none⟩=some (.slice RA L[k].length rc)∧Sl w (U8B w) RA (b8s L[k]):=fun k hk=>by
  obtain ⟨g,RA,rc,e1,e2,e3,e4⟩:=rows_at (⟨by rw [List.length_map];exact hnL,cs,hO,hC0⟩:ElO ElRow 1 85 w (U8B w) A n c (L.map bbs)) (i:=k) (by rw [List.length_map];exact hk)
  rw [List.getElem_map] at e2 e3 e4;refine ⟨g,RA,rc,e1,?_,?_⟩
  ·rw [e2];unfold bbs;rw [List.length_map]
  ·rw [b8s_u8s];exact e4.mono (fun _ _ h=>h.1)
 have HROW:=h_ hrow;have HO:=h_ hO;have HC:=h_ hC;have HB:=h_ hb;have HNL:=h_ hnL;have HM:=h_ hm;have HCL:=h_ hcl;have HBC:=h_ hbc;have hnc:n≤c:=hO.le;clear hrow hC hC0 hb hnL hm hcl hO hbc;go_enter Tryz.func42,Tryz.ntmps42;go_wp2_with fail
 go_loopg [5] n (fun gg s5 wr=>∃k:Nat,Hid (gg=n - k)∧k≤n∧s5=.int .i64 k∧Hid (∀i (h:i<k) (h2:i<L.length),ltB L[i] b=true)∧Hid (wr=w))
 case atStart=>exact ⟨0,rfl,by omega,rfl,fun i h=>absurd h (Nat.not_lt_zero _),rfl⟩
 case round =>
  obtain ⟨k,Hg,hk,rfl,HLT,Hwr⟩:=hrel;obtain rfl:=Hwr.out;have HS:=h_ (fun (w':World) (u:Upd Non wr w')=>run_rowstr (n:=m) (c:=bc) (l:=bbs b) (by rw [←b8s_u8s];exact HB.out.upd u (fun _ _ _ f=>f)) (by unfold bbs;rw [List.length_map];exact HM.out))
  by_cases hlt:k<n
  ·have hkl:k<L.length:=by have:=HNL.out;omega
   obtain ⟨g,RA,rc,rfl,y0,hs⟩:=HROW.out k hkl;have C1:=h_ (rLessBits_c (ac:=rc) (bc:=bc) hs HB.out rfl HM.out);have HR:=h_ (fun (w':World) (u:Upd Non wr w')=>run_rowstr (n:=L[k].length) (c:=rc) (l:=bbs L[k]) (by rw [←b8s_u8s];exact hs.upd u (fun _ _ _ f=>f)) (by unfold bbs;rw [List.length_map]))
   have HEQ:Hid (((kstr (bbs L[k])).toList==(kstr (bbs b)).toList)=decide (L[k]=b)):=by
    show _=_;rw [kstr_toList,kstr_toList,Bool.eq_iff_iff,beq_iff_eq,decide_eq_true_eq];exact ⟨bbs_inj,fun h=>by rw [h]⟩
   obtain ⟨ln,Hln⟩:=nm L[k].length;rw [Hln.out] at C1 HR y0;obtain ⟨lt,Hlt⟩:=nm (ltB L[k] b);rw [Hlt.out] at C1;have t1:(k:Int)<(n:Int):=by omega
   have t3:(0:Int)≤(k:Int):=by omega
   clear hs;go_wp2_with fail
   refine C1.out.mono ?_;rintro e wx ⟨rfl,hw⟩;subst hw
   cases lt with
   | true =>
    have HLT2:Hid (∀i (h:i<k+1) (h2:i<L.length),ltB L[i] b=true):=fun i h h2=>by
     by_cases q:i<k
     ·exact HLT.out i q h2
     ·obtain rfl:i=k:=by omega
      exact Hlt.out
    clear y0 C1;go_wp2_with fail
    go_roundg (n - (k+1))
    case measure=>rw [Hg.out];omega
    case rel=>exact ⟨k+1,rfl,by omega,by go_num,HLT2.out,rfl⟩
   | false =>
    clear C1;have HSM:Hid (L[k]=b→insB b L=L):=fun q=>insB_same hkl (fun i hi=>HLT.out i hi (by omega)) q
    have HTK:Hid (L[k]≠b→insB b L=L.take k++b::L.drop k):=fun q=>insB_take (by omega) HLT.out (fun _=>⟨Hlt.out,q⟩)
    generalize kstr (bbs L[k])=sk at HR HEQ;generalize kstr (bbs b)=sb at HS HEQ;obtain ⟨W1,HW1⟩:=nm wr.drew;have uD:Upd Non wr W1:=by rw [←HW1.out];exact Upd.refl.drew
    have r1:=HR.out W1 uD;have r2:=HS.out W1 uD;have y0:=u_ (S:=Non) y0 uD (fun f=>f);have HUD:=h_ uD;clear uD;by_cases hq:L[k]=b
    ·have heq:=HEQ.out;rw [dT_ hq] at heq;have HFIN:=h_ (HSM.out hq);clear hq
     go_upto_region 4 with fail
     refine wp_region_held_drew (S:=fun w'=>w'.cell? ⟨g,k,none⟩=some (.slice RA ln rc)∧(convert 85 9 (.slice RA ln rc)).run Tryz.prog w'=.ok (.string sk) w'∧(convert 85 9 (.slice BA m bc)).run Tryz.prog w'=.ok (.string sb) w') (by kernel_rfl) (by rw [HW1.out];exact ⟨y0,r1,r2⟩) (fun hHeld=>?_)
     rw [HW1.out] at hHeld ⊢;refine wpT 0 ?_;(try simp only [y_,z_]);refine wpT 1 ?_;(try simp only [y_,z_]);refine wpT 2 ?_;(try simp only [y_,z_]);refine wpT 3 ?_;(try simp only [y_,z_]);refine wpT 4 ?_;(try simp only [y_,z_]);refine wpT 5 ?_;(try simp only [y_,z_]);refine wpT 6 ?_;(try simp only [y_,z_]);refine wpT 7 ?_;(try simp only [y_,z_]);refine wpT 8 ?_;(try simp only [y_,z_]);refine wpT 9 ?_;(try simp only [y_,z_]);refine wpT 10 ?_;(try simp only [y_,z_]);refine wpT 11 ?_;(try simp only [y_,z_]);refine wpT 12 ?_;(try simp only [y_,z_]);refine wpT 13 ?_;(try simp only [y_,z_]);refine aD_ (by kernel_rfl) ?_ _;clear hHeld y0 r1 r2;go_wp2_with fail
     go_ret;refine ⟨_,_,_,rfl,?_,fun _ q=>.inl q,by omega,HUD.out⟩;rw [HFIN.out];exact (elO_of HO.out HC.out (by rw [List.length_map];exact HNL.out)).u8 elRow HUD.out (fun _ _ f=>f) (fun _ _ _ f=>f)
    ·have heq:=HEQ.out;rw [dF_ hq] at heq;have HFIN:=h_ (HTK.out hq);clear hq
     go_upto_region 4 with fail
     refine wp_region_held_drew (S:=fun w'=>w'.cell? ⟨g,k,none⟩=some (.slice RA ln rc)∧(convert 85 9 (.slice RA ln rc)).run Tryz.prog w'=.ok (.string sk) w'∧(convert 85 9 (.slice BA m bc)).run Tryz.prog w'=.ok (.string sb) w') (by kernel_rfl) (by rw [HW1.out];exact ⟨y0,r1,r2⟩) (fun hHeld=>?_)
     rw [HW1.out] at hHeld ⊢;refine wpT 0 ?_;(try simp only [y_,z_]);refine wpT 1 ?_;(try simp only [y_,z_]);refine wpT 2 ?_;(try simp only [y_,z_]);refine wpT 3 ?_;(try simp only [y_,z_]);refine wpT 4 ?_;(try simp only [y_,z_]);refine wpT 5 ?_;(try simp only [y_,z_]);refine wpT 6 ?_;(try simp only [y_,z_]);refine wpT 7 ?_;(try simp only [y_,z_]);refine wpT 8 ?_;(try simp only [y_,z_]);refine wpT 9 ?_;(try simp only [y_,z_]);refine wpT 10 ?_;(try simp only [y_,z_]);refine wpT 11 ?_;(try simp only [y_,z_]);refine wpT 12 ?_;(try simp only [y_,z_]);refine wpT 13 ?_;(try simp only [y_,z_]);refine aD_ (by kernel_rfl) ?_ _;clear hHeld y0 r1 r2;have hOW:=HO.out.upd HUD.out (fun _ _ f=>f);obtain ⟨W2,HW2⟩:=nm (W1.alloc (.cells #[] 85));have u2:Upd Non W1 W2:=by rw [←HW2.out];exact Upd.refl.alloc _
     have hoE:Own W2 85 1 (some ⟨W1.heap.size,0,none⟩) 0 0 []:=by rw [←HW2.out];exact own_empty _ _ _
     have hO2:=hOW.upd u2 (fun _ _ f=>f);have hsT:=hO2.sl.take_ k;have hcl:=HCL.out;have tk0:(0:Int)≤(k:Int):=by omega
     have tkn:(k:Int)≤(n:Int):=by omega
     have tkc:(k:Int)≤(c:Int):=by omega
     have tnc:(n:Int)≤(c:Int):=by omega
     go_wp2_with (at_builtin;rw [HW2.out];refine wpList_app rfl rfl T_rows rfl hoE rfl hsT (by rw [List.length_take,hcl];omega) (fun u hu=>elRows_one HC.out u (List.mem_of_mem_take hu)) (by simp only [maxLen];omega) (by omega) ?_)
     intro A5 c5 w5 ho5 hu5 hat5;have u15:Upd Non W1 w5:=u2.trans hu5 (fun i hi q=>by rw [At.some_] at q;omega)
     go_wp2_with (at_builtin;refine wpList_app rfl rfl T_rows rfl (ho5.alloc _) rfl (Sl.new _ _ _) rfl (by simp [Value.oneCell']) (by simp only [maxLen];omega) (by omega) ?_)
     intro A6 c6 w6 ho6 hu6 hat6;have u15':=u15.alloc (.cells #[.slice BA m bc] 85)
     have u16:Upd Non W1 w6:=u15'.trans hu6 (fun i hi q=>by
      have h1:=u2.size;rcases hat5 i q with q | q
      ·rw [At.some_] at q;omega
      ·omega)
     have HC6:Hid (ElCells ElRow 1 w6 (U8B w6) cs (L.map bbs)):=elRows_upd HC.out (HUD.out.then_non u16) (fun _ _ _ f=>f);have HB6:Hid (Sl w6 (U8B w6) BA (b8s b)):=((HB.out.mono (G:=fun i=>U8B wr i∧i<wr.heap.size) (fun i hi q=>⟨q,hi⟩)).upd (HUD.out.then_non u16) (fun _ _ _ f=>f)).mono (fun i _ q=>q.1.upd (HUD.out.then_non u16) (fun f=>f))
     have HU6:=h_ (HUD.out.then_non u16)
     have HX6:Hid (∀i,At A6 i→wr.heap.size≤i):=fun i q=>by
      have h0:=HUD.out.size;have h1:=u2.size;have h3:=u15.size;rcases hat6 i q with q | q
      ·rcases hat5 i q with q | q
       ·rw [At.some_] at q;omega
       ·omega
      ·have h4:=u15'.size;omega
     have hnk:(cs.drop k).length=n - k:=by rw [List.length_drop,hcl]
     have HU16:=h_ u16;have HOW:=h_ hOW;clear u15 u15' u16 hu6 hu5 hat6 hat5 ho5 u2 hoE hO2 hsT hOW;have hck:¬c=k:=by omega
     have hsD:Sl w6 (fun _=>True) (if c=k then some ⟨g,0,none⟩ else some ⟨g,k,none⟩) (cs.drop k):=by
      have h2:=((HOW.out.sl.upd HU16.out (fun _ _ _ f=>f)).mono (G:=fun _=>True) (fun _ _ _=>trivial)).from2 (m:=k) (p:=c=k) (fun q=>by omega);rw [Nat.zero_add] at h2;exact h2
     rw [if_neg hck] at hsD;have tck:((c:Int)==(k:Int))=false:=by simp;omega
     go_wp2_with (at_builtin;refine wpList_app rfl rfl T_rows rfl ho6 rfl hsD (by rw [hnk];omega) (fun u hu=>elRows_one HC.out u (List.mem_of_mem_drop hu)) (by simp only [maxLen];omega) (by omega) ?_)
     intro A7 c7 w7 ho7 hu7 hat7;have HU7:Hid (Upd Non wr w7):=HU6.out.trans hu7 (fun i hi q=>by have:=HX6.out i q;omega)
     have HX7:Hid (∀i,At A7 i→wr.heap.size≤i):=fun i q=>by
      have h0:=HU6.out.size;rcases hat7 i q with q | q
      ·exact HX6.out i q
      ·omega
     have HR7:Hid (ElO ElRow 1 85 w7 (U8B w7) A7 (k+1+(n - k)) c7 ((insB b L).map bbs)):=by
      rw [HFIN.out];have h8:∀i z,Blk w6 i 5 z→¬At A6 i:=fun i z hb=>ho6.ne_blk hb (by decide)
      have h1:=elRows_upd HC6.out hu7 h8;have h2:=h1.take k;have h3:=h1.drop k
      have hx:ElRow w7 (U8B w7) [.slice BA m bc] (bbs b):=by
       have hm:(bbs b).length=m:=by unfold bbs;rw [List.length_map,HM.out]
       refine ⟨BA,bc,by rw [hm],by rw [hm];exact HBC.out,?_⟩;rw [←b8s_u8s];exact ((HB6.out.mono (G:=fun i=>U8B w6 i∧i<w6.heap.size) (fun i hi q=>⟨q,hi⟩)).upd hu7 (fun i _ q=>by obtain ⟨⟨z,hb⟩,_⟩:=q;exact h8 i z hb)).mono (fun i _ q=>q.1.upd hu7 (by obtain ⟨⟨z,hb⟩,_⟩:=q;exact h8 i z hb))
      have h4:=(h2.snoc elRow hx).app h3;rw [Nat.one_mul] at h4
      have h5:(L.map bbs).take k++[bbs b]++(L.map bbs).drop k=(L.take k++b::L.drop k).map bbs:=by
       rw [List.map_append,List.map_cons,List.map_take,List.map_drop];simp
      rw [h5] at h4;refine elO_of ?_ h4 ?_
      ·simpa using ho7
      ·rw [List.length_map,List.length_append,List.length_cons,List.length_take,List.length_drop,←HNL.out];omega
     clear ho7 hu7 hat7;go_wp2_with fail
     go_ret;exact ⟨A7,_,c7,rfl,HR7.out,fun i q=>.inr (HX7.out i q),by omega,HU7.out⟩
  ·have hnk:n=k:=by omega
   have HFIN:Hid (insB b L=L.take k++b::L.drop k):=insB_take (by have:=HNL.out;omega) HLT.out (fun h=>by have:=HNL.out;omega);have HNK:=h_ hnk;clear hnk;obtain ⟨W1,HW1⟩:=nm wr.drew;have uD:Upd Non wr W1:=by rw [←HW1.out];exact Upd.refl.drew
   have HUD:=h_ uD;clear uD
   go_upto_region 4 with fail
   refine wp_region_held_drew (S:=fun w'=>True) (by kernel_rfl) trivial (fun hHeld=>?_);rw [HW1.out];refine wpT 0 ?_;(try simp only [y_,z_]);refine wpT 1 ?_;(try simp only [y_,z_]);refine wpT 2 ?_;(try simp only [y_,z_]);refine wpT 3 ?_;(try simp only [y_,z_]);refine wpT 4 ?_;(try simp only [y_,z_]);refine wpU 5 ?_;(try simp only [y_,z_]);refine wpU 6 ?_;(try simp only [y_,z_]);refine wpU 7 ?_;(try simp only [y_,z_]);refine wpU 8 ?_;(try simp only [y_,z_]);refine wpU 9 ?_;(try simp only [y_,z_]);refine wpU 10 ?_;(try simp only [y_,z_]);refine wpU 11 ?_;(try simp only [y_,z_]);refine wpU 12 ?_;(try simp only [y_,z_]);refine wpT 13 ?_;(try simp only [y_,z_]);refine aD_ (by kernel_rfl) ?_ _;clear hHeld;rcases HO.out.cases with ⟨rfl,hn0,hc0,h0⟩ | ⟨g,cur,rfl,_,_,_,_,_⟩
   ·have hk0:k=0:=by omega
    have H0:=h_ (And.intro hn0 (And.intro hc0 hk0));clear h0 hn0 hc0 hk0;have hOW:=HO.out.upd HUD.out (fun _ _ f=>f);obtain ⟨W2,HW2⟩:=nm (W1.alloc (.cells #[] 85));have u2:Upd Non W1 W2:=by rw [←HW2.out];exact Upd.refl.alloc _
    have hoE:Own W2 85 1 (some ⟨W1.heap.size,0,none⟩) 0 0 []:=by rw [←HW2.out];exact own_empty _ _ _
    have hO2:=hOW.upd u2 (fun _ _ f=>f);have hsT:=hO2.sl.take_ k;have hcl:=HCL.out;have tk0:(0:Int)≤(k:Int):=by omega
    have tkn:(k:Int)≤(n:Int):=by omega
    have tkc:(k:Int)≤(c:Int):=by omega
    have tnc:(n:Int)≤(c:Int):=by omega
    go_wp2_with (at_builtin;rw [HW2.out];refine wpList_app rfl rfl T_rows rfl hoE rfl hsT (by rw [List.length_take,hcl];omega) (fun u hu=>elRows_one HC.out u (List.mem_of_mem_take hu)) (by simp only [maxLen];omega) (by omega) ?_)
    intro A5 c5 w5 ho5 hu5 hat5;have u15:Upd Non W1 w5:=u2.trans hu5 (fun i hi q=>by rw [At.some_] at q;omega)
    go_wp2_with (at_builtin;refine wpList_app rfl rfl T_rows rfl (ho5.alloc _) rfl (Sl.new _ _ _) rfl (by simp [Value.oneCell']) (by simp only [maxLen];omega) (by omega) ?_)
    intro A6 c6 w6 ho6 hu6 hat6;have u15':=u15.alloc (.cells #[.slice BA m bc] 85)
    have u16:Upd Non W1 w6:=u15'.trans hu6 (fun i hi q=>by
     have h1:=u2.size;rcases hat5 i q with q | q
     ·rw [At.some_] at q;omega
     ·omega)
    have HC6:Hid (ElCells ElRow 1 w6 (U8B w6) cs (L.map bbs)):=elRows_upd HC.out (HUD.out.then_non u16) (fun _ _ _ f=>f);have HB6:Hid (Sl w6 (U8B w6) BA (b8s b)):=((HB.out.mono (G:=fun i=>U8B wr i∧i<wr.heap.size) (fun i hi q=>⟨q,hi⟩)).upd (HUD.out.then_non u16) (fun _ _ _ f=>f)).mono (fun i _ q=>q.1.upd (HUD.out.then_non u16) (fun f=>f))
    have HU6:=h_ (HUD.out.then_non u16)
    have HX6:Hid (∀i,At A6 i→wr.heap.size≤i):=fun i q=>by
     have h0:=HUD.out.size;have h1:=u2.size;have h3:=u15.size;rcases hat6 i q with q | q
     ·rcases hat5 i q with q | q
      ·rw [At.some_] at q;omega
      ·omega
     ·have h4:=u15'.size;omega
    have hnk:(cs.drop k).length=n - k:=by rw [List.length_drop,hcl]
    have HU16:=h_ u16;have HOW:=h_ hOW;clear u15 u15' u16 hu6 hu5 hat6 hat5 ho5 u2 hoE hO2 hsT hOW;have hd0:cs.drop k=[]:=List.eq_nil_of_length_eq_zero (by rw [List.length_drop,hcl];have:=H0.out.1;omega);have HND:Hid (cs.take k++[.slice BA m bc]=(cs.take k++[.slice BA m bc])++cs.drop k):=by show _=_;rw [hd0,List.append_nil]
    clear hd0;have hck:c=k:=by have:=H0.out;omega
    go_wp2_with (at_builtin;refine wpList_app rfl rfl T_rows rfl ho6 rfl (F:=fun _=>True) (news:=[]) Sl.nil (by have:=HNK.out;simp only [List.length_nil];omega) (fun u hu=>by cases hu) (by simp only [maxLen];omega) (by omega) ?_)
    intro A7 c7 w7 ho7 hu7 hat7;rw [HND.out] at ho7;have HU7:Hid (Upd Non wr w7):=HU6.out.trans hu7 (fun i hi q=>by have:=HX6.out i q;omega)
    have HX7:Hid (∀i,At A7 i→wr.heap.size≤i):=fun i q=>by
     have h0:=HU6.out.size;rcases hat7 i q with q | q
     ·exact HX6.out i q
     ·omega
    have HR7:Hid (ElO ElRow 1 85 w7 (U8B w7) A7 (k+1+(n - k)) c7 ((insB b L).map bbs)):=by
     rw [HFIN.out];have h8:∀i z,Blk w6 i 5 z→¬At A6 i:=fun i z hb=>ho6.ne_blk hb (by decide)
     have h1:=elRows_upd HC6.out hu7 h8;have h2:=h1.take k;have h3:=h1.drop k
     have hx:ElRow w7 (U8B w7) [.slice BA m bc] (bbs b):=by
      have hm:(bbs b).length=m:=by unfold bbs;rw [List.length_map,HM.out]
      refine ⟨BA,bc,by rw [hm],by rw [hm];exact HBC.out,?_⟩;rw [←b8s_u8s];exact ((HB6.out.mono (G:=fun i=>U8B w6 i∧i<w6.heap.size) (fun i hi q=>⟨q,hi⟩)).upd hu7 (fun i _ q=>by obtain ⟨⟨z,hb⟩,_⟩:=q;exact h8 i z hb)).mono (fun i _ q=>q.1.upd hu7 (by obtain ⟨⟨z,hb⟩,_⟩:=q;exact h8 i z hb))
     have h4:=(h2.snoc elRow hx).app h3;rw [Nat.one_mul] at h4
     have h5:(L.map bbs).take k++[bbs b]++(L.map bbs).drop k=(L.take k++b::L.drop k).map bbs:=by
      rw [List.map_append,List.map_cons,List.map_take,List.map_drop];simp
     rw [h5] at h4;refine elO_of ?_ h4 ?_
     ·simpa using ho7
     ·rw [List.length_map,List.length_append,List.length_cons,List.length_take,List.length_drop,←HNL.out];omega
    clear ho7 hu7 hat7;go_wp2_with fail
    go_ret;exact ⟨A7,_,c7,rfl,HR7.out,fun i q=>.inr (HX7.out i q),by omega,HU7.out⟩
   ·by_cases hck:c=k
    ·skip;have hOW:=HO.out.upd HUD.out (fun _ _ f=>f);obtain ⟨W2,HW2⟩:=nm (W1.alloc (.cells #[] 85));have u2:Upd Non W1 W2:=by rw [←HW2.out];exact Upd.refl.alloc _
     have hoE:Own W2 85 1 (some ⟨W1.heap.size,0,none⟩) 0 0 []:=by rw [←HW2.out];exact own_empty _ _ _
     have hO2:=hOW.upd u2 (fun _ _ f=>f);have hsT:=hO2.sl.take_ k;have hcl:=HCL.out;have tk0:(0:Int)≤(k:Int):=by omega
     have tkn:(k:Int)≤(n:Int):=by omega
     have tkc:(k:Int)≤(c:Int):=by omega
     have tnc:(n:Int)≤(c:Int):=by omega
     go_wp2_with (at_builtin;rw [HW2.out];refine wpList_app rfl rfl T_rows rfl hoE rfl hsT (by rw [List.length_take,hcl];omega) (fun u hu=>elRows_one HC.out u (List.mem_of_mem_take hu)) (by simp only [maxLen];omega) (by omega) ?_)
     intro A5 c5 w5 ho5 hu5 hat5;have u15:Upd Non W1 w5:=u2.trans hu5 (fun i hi q=>by rw [At.some_] at q;omega)
     go_wp2_with (at_builtin;refine wpList_app rfl rfl T_rows rfl (ho5.alloc _) rfl (Sl.new _ _ _) rfl (by simp [Value.oneCell']) (by simp only [maxLen];omega) (by omega) ?_)
     intro A6 c6 w6 ho6 hu6 hat6;have u15':=u15.alloc (.cells #[.slice BA m bc] 85)
     have u16:Upd Non W1 w6:=u15'.trans hu6 (fun i hi q=>by
      have h1:=u2.size;rcases hat5 i q with q | q
      ·rw [At.some_] at q;omega
      ·omega)
     have HC6:Hid (ElCells ElRow 1 w6 (U8B w6) cs (L.map bbs)):=elRows_upd HC.out (HUD.out.then_non u16) (fun _ _ _ f=>f);have HB6:Hid (Sl w6 (U8B w6) BA (b8s b)):=((HB.out.mono (G:=fun i=>U8B wr i∧i<wr.heap.size) (fun i hi q=>⟨q,hi⟩)).upd (HUD.out.then_non u16) (fun _ _ _ f=>f)).mono (fun i _ q=>q.1.upd (HUD.out.then_non u16) (fun f=>f))
     have HU6:=h_ (HUD.out.then_non u16)
     have HX6:Hid (∀i,At A6 i→wr.heap.size≤i):=fun i q=>by
      have h0:=HUD.out.size;have h1:=u2.size;have h3:=u15.size;rcases hat6 i q with q | q
      ·rcases hat5 i q with q | q
       ·rw [At.some_] at q;omega
       ·omega
      ·have h4:=u15'.size;omega
     have hnk:(cs.drop k).length=n - k:=by rw [List.length_drop,hcl]
     have HU16:=h_ u16;have HOW:=h_ hOW;clear u15 u15' u16 hu6 hu5 hat6 hat5 ho5 u2 hoE hO2 hsT hOW;have hd0:cs.drop k=[]:=List.eq_nil_of_length_eq_zero (by rw [List.length_drop,hcl];have:=HNK.out;omega);have HND:Hid (cs.take k++[.slice BA m bc]=(cs.take k++[.slice BA m bc])++cs.drop k):=by show _=_;rw [hd0,List.append_nil]
     clear hd0
     go_wp2_with (at_builtin;refine wpList_app rfl rfl T_rows rfl ho6 rfl (F:=fun _=>True) (news:=[]) Sl.nil (by have:=HNK.out;simp only [List.length_nil];omega) (fun u hu=>by cases hu) (by simp only [maxLen];omega) (by omega) ?_)
     intro A7 c7 w7 ho7 hu7 hat7;rw [HND.out] at ho7;have HU7:Hid (Upd Non wr w7):=HU6.out.trans hu7 (fun i hi q=>by have:=HX6.out i q;omega)
     have HX7:Hid (∀i,At A7 i→wr.heap.size≤i):=fun i q=>by
      have h0:=HU6.out.size;rcases hat7 i q with q | q
      ·exact HX6.out i q
      ·omega
     have HR7:Hid (ElO ElRow 1 85 w7 (U8B w7) A7 (k+1+(n - k)) c7 ((insB b L).map bbs)):=by
      rw [HFIN.out];have h8:∀i z,Blk w6 i 5 z→¬At A6 i:=fun i z hb=>ho6.ne_blk hb (by decide)
      have h1:=elRows_upd HC6.out hu7 h8;have h2:=h1.take k;have h3:=h1.drop k
      have hx:ElRow w7 (U8B w7) [.slice BA m bc] (bbs b):=by
       have hm:(bbs b).length=m:=by unfold bbs;rw [List.length_map,HM.out]
       refine ⟨BA,bc,by rw [hm],by rw [hm];exact HBC.out,?_⟩;rw [←b8s_u8s];exact ((HB6.out.mono (G:=fun i=>U8B w6 i∧i<w6.heap.size) (fun i hi q=>⟨q,hi⟩)).upd hu7 (fun i _ q=>by obtain ⟨⟨z,hb⟩,_⟩:=q;exact h8 i z hb)).mono (fun i _ q=>q.1.upd hu7 (by obtain ⟨⟨z,hb⟩,_⟩:=q;exact h8 i z hb))
      have h4:=(h2.snoc elRow hx).app h3;rw [Nat.one_mul] at h4
      have h5:(L.map bbs).take k++[bbs b]++(L.map bbs).drop k=(L.take k++b::L.drop k).map bbs:=by
       rw [List.map_append,List.map_cons,List.map_take,List.map_drop];simp
      rw [h5] at h4;refine elO_of ?_ h4 ?_
      ·simpa using ho7
      ·rw [List.length_map,List.length_append,List.length_cons,List.length_take,List.length_drop,←HNL.out];omega
     clear ho7 hu7 hat7;go_wp2_with fail
     go_ret;exact ⟨A7,_,c7,rfl,HR7.out,fun i q=>.inr (HX7.out i q),by omega,HU7.out⟩
    ·skip;have hOW:=HO.out.upd HUD.out (fun _ _ f=>f);obtain ⟨W2,HW2⟩:=nm (W1.alloc (.cells #[] 85));have u2:Upd Non W1 W2:=by rw [←HW2.out];exact Upd.refl.alloc _
     have hoE:Own W2 85 1 (some ⟨W1.heap.size,0,none⟩) 0 0 []:=by rw [←HW2.out];exact own_empty _ _ _
     have hO2:=hOW.upd u2 (fun _ _ f=>f);have hsT:=hO2.sl.take_ k;have hcl:=HCL.out;have tk0:(0:Int)≤(k:Int):=by omega
     have tkn:(k:Int)≤(n:Int):=by omega
     have tkc:(k:Int)≤(c:Int):=by omega
     have tnc:(n:Int)≤(c:Int):=by omega
     go_wp2_with (at_builtin;rw [HW2.out];refine wpList_app rfl rfl T_rows rfl hoE rfl hsT (by rw [List.length_take,hcl];omega) (fun u hu=>elRows_one HC.out u (List.mem_of_mem_take hu)) (by simp only [maxLen];omega) (by omega) ?_)
     intro A5 c5 w5 ho5 hu5 hat5;have u15:Upd Non W1 w5:=u2.trans hu5 (fun i hi q=>by rw [At.some_] at q;omega)
     go_wp2_with (at_builtin;refine wpList_app rfl rfl T_rows rfl (ho5.alloc _) rfl (Sl.new _ _ _) rfl (by simp [Value.oneCell']) (by simp only [maxLen];omega) (by omega) ?_)
     intro A6 c6 w6 ho6 hu6 hat6;have u15':=u15.alloc (.cells #[.slice BA m bc] 85)
     have u16:Upd Non W1 w6:=u15'.trans hu6 (fun i hi q=>by
      have h1:=u2.size;rcases hat5 i q with q | q
      ·rw [At.some_] at q;omega
      ·omega)
     have HC6:Hid (ElCells ElRow 1 w6 (U8B w6) cs (L.map bbs)):=elRows_upd HC.out (HUD.out.then_non u16) (fun _ _ _ f=>f);have HB6:Hid (Sl w6 (U8B w6) BA (b8s b)):=((HB.out.mono (G:=fun i=>U8B wr i∧i<wr.heap.size) (fun i hi q=>⟨q,hi⟩)).upd (HUD.out.then_non u16) (fun _ _ _ f=>f)).mono (fun i _ q=>q.1.upd (HUD.out.then_non u16) (fun f=>f))
     have HU6:=h_ (HUD.out.then_non u16)
     have HX6:Hid (∀i,At A6 i→wr.heap.size≤i):=fun i q=>by
      have h0:=HUD.out.size;have h1:=u2.size;have h3:=u15.size;rcases hat6 i q with q | q
      ·rcases hat5 i q with q | q
       ·rw [At.some_] at q;omega
       ·omega
      ·have h4:=u15'.size;omega
     have hnk:(cs.drop k).length=n - k:=by rw [List.length_drop,hcl]
     have HU16:=h_ u16;have HOW:=h_ hOW;clear u15 u15' u16 hu6 hu5 hat6 hat5 ho5 u2 hoE hO2 hsT hOW
     have hsD:Sl w6 (fun _=>True) (if c=k then some ⟨g,0,none⟩ else some ⟨g,k,none⟩) (cs.drop k):=by
      have h2:=((HOW.out.sl.upd HU16.out (fun _ _ _ f=>f)).mono (G:=fun _=>True) (fun _ _ _=>trivial)).from2 (m:=k) (p:=c=k) (fun q=>by omega);rw [Nat.zero_add] at h2;exact h2
     rw [if_neg hck] at hsD;have tck:((c:Int)==(k:Int))=false:=by simp;omega
     go_wp2_with (at_builtin;refine wpList_app rfl rfl T_rows rfl ho6 rfl hsD (by rw [hnk];omega) (fun u hu=>elRows_one HC.out u (List.mem_of_mem_drop hu)) (by simp only [maxLen];omega) (by omega) ?_)
     intro A7 c7 w7 ho7 hu7 hat7;have HU7:Hid (Upd Non wr w7):=HU6.out.trans hu7 (fun i hi q=>by have:=HX6.out i q;omega)
     have HX7:Hid (∀i,At A7 i→wr.heap.size≤i):=fun i q=>by
      have h0:=HU6.out.size;rcases hat7 i q with q | q
      ·exact HX6.out i q
      ·omega
     have HR7:Hid (ElO ElRow 1 85 w7 (U8B w7) A7 (k+1+(n - k)) c7 ((insB b L).map bbs)):=by
      rw [HFIN.out];have h8:∀i z,Blk w6 i 5 z→¬At A6 i:=fun i z hb=>ho6.ne_blk hb (by decide)
      have h1:=elRows_upd HC6.out hu7 h8;have h2:=h1.take k;have h3:=h1.drop k
      have hx:ElRow w7 (U8B w7) [.slice BA m bc] (bbs b):=by
       have hm:(bbs b).length=m:=by unfold bbs;rw [List.length_map,HM.out]
       refine ⟨BA,bc,by rw [hm],by rw [hm];exact HBC.out,?_⟩;rw [←b8s_u8s];exact ((HB6.out.mono (G:=fun i=>U8B w6 i∧i<w6.heap.size) (fun i hi q=>⟨q,hi⟩)).upd hu7 (fun i _ q=>by obtain ⟨⟨z,hb⟩,_⟩:=q;exact h8 i z hb)).mono (fun i _ q=>q.1.upd hu7 (by obtain ⟨⟨z,hb⟩,_⟩:=q;exact h8 i z hb))
      have h4:=(h2.snoc elRow hx).app h3;rw [Nat.one_mul] at h4
      have h5:(L.map bbs).take k++[bbs b]++(L.map bbs).drop k=(L.take k++b::L.drop k).map bbs:=by
       rw [List.map_append,List.map_cons,List.map_take,List.map_drop];simp
      rw [h5] at h4;refine elO_of ?_ h4 ?_
      ·simpa using ho7
      ·rw [List.length_map,List.length_append,List.length_cons,List.length_take,List.length_drop,←HNL.out];omega
     clear ho7 hu7 hat7;go_wp2_with fail
     go_ret;exact ⟨A7,_,c7,rfl,HR7.out,fun i q=>.inr (HX7.out i q),by omega,HU7.out⟩
def frO (op:Int) (n:Nat):List Bool:=if isG op then true::List.replicate (n - 1) false else List.replicate n false
mutual
def frP:Pt→List Bool
 | .mk v op _ _ kids=>if 0<v then [] else frO op (ownN op kids)++frL kids
def frL:List Pt→List Bool
 | []=>[]
 | k::ks=>frP k++frL ks
end
theorem frP_iff (p:Pt):frP p=if 0<p.v then [] else frO p.op (ownN p.op p.kids)++frL p.kids:=by
 obtain ⟨v,op,imm,iv,kids⟩:=p;rw [frP];rfl
theorem frL_app:∀l m:List Pt,frL (l++m)=frL l++frL m
 | [],_=>rfl
 | q::qs,m=>by rw [List.cons_append,frL,frL,frL_app qs m,List.append_assoc]
theorem frO_len {op:Int} {kids:List Pt}:(frO op (ownN op kids)).length=ownN op kids:=by
 unfold frO
 split
 ·rename_i h
  have h2:ownN op kids=2:=by
   have h1:=h;unfold isG at h1;have h1:=of_decide_eq_true h1;unfold ownN;rw [if_neg (by omega),if_neg (by omega),if_pos h]
  rw [List.length_cons,List.length_replicate,h2]
 ·rw [List.length_replicate]
theorem frP_len (p:Pt):(frP p).length=bN p:=by
 induction p using Pt.ind with
 | h p ih =>
  rw [frP_iff,bN_iff]
  split
  ·rfl
  ·rw [List.length_append,frO_len]
   congr 1
   have : ∀l:List Pt,(∀q∈l,(frP q).length=bN q)→(frL l).length=bL l:=by
    intro l
    induction l with
    | nil=>intro _;rfl
    | cons q qs h=>intro hq;rw [frL,List.length_append,hq q (by simp),h (fun x hx=>hq x (by simp [hx]))];rfl
   exact this _ ih
theorem frL_len:∀l:List Pt,(frL l).length=bL l
 | []=>rfl
 | q::qs=>by rw [frL,List.length_append,frP_len,frL_len qs];rfl
def selK (op:Int) (kids:List Pt) (j:Nat):List Pt:=if op=12 then kids.take (min j 1) else kids.take j
theorem selK_all {p:Pt} (hw:WfP 64 p) (hv:¬0<p.v) (hs:supO p.op p.kids=true):iL (selK p.op p.kids p.kids.length)=iL p.kids∧frL (selK p.op p.kids p.kids.length)=frL p.kids:=by
 have hw':=(WfP.iff 64 p).1 hw;unfold selK;by_cases h12:p.op=12
 ·have h2:p.kids.length=2:=by rw [hw'.2.2.1 (by omega),h12];rfl
  obtain ⟨k0,k1,ek⟩:∃k0 k1,p.kids=[k0,k1]:=by
   match p.kids,h2 with
   | [x,y],_=>exact ⟨x,y,rfl⟩
  have ho:k1.op=1:=by
   have:=hs;unfold supO at this;have:=of_decide_eq_true this;rw [h12,ek] at this;simp [kid] at this;omega
  have w1:=(WfP.iff 64 k1).1 (hw'.2.2.2 k1 (by rw [ek];simp))
  have hz1:iP k1=[]∧frP k1=[]:=by
   rw [iP_iff,frP_iff];by_cases hv1:0<k1.v
   ·rw [if_pos hv1,if_pos hv1];exact ⟨rfl,rfl⟩
   ·have hk0:k1.kids=[]:=List.length_eq_zero_iff.1 (by rw [w1.2.2.1 (by omega),ho];rfl);rw [if_neg hv1,if_neg hv1,hk0,ho];exact ⟨rfl,rfl⟩
  rw [if_pos h12,ek];simp [iL,frL,hz1.1,hz1.2]
 ·rw [if_neg h12,List.take_length];exact ⟨rfl,rfl⟩
theorem selK_succ {op:Int} {kids:List Pt} {j:Nat} (hj:j<kids.length) (h:op≠12∨j=0):selK op kids (j+1)=selK op kids j++[kids[j]]:=by
 unfold selK;by_cases h12:op=12
 ·have : j=0:=by rcases h with h | h;exact absurd h12 h;exact h
  subst this;rw [if_pos h12,if_pos h12];simpa using List.take_succ_eq_append_getElem hj
 ·rw [if_neg h12,if_neg h12];exact List.take_succ_eq_append_getElem hj
theorem selK_skip {op:Int} {kids:List Pt} {j:Nat} (h:op=12) (h0:j≠0):selK op kids (j+1)=selK op kids j:=by
 unfold selK;rw [if_pos h,if_pos h]
 congr 1
 omega
def bls (l:List Bool):List Value:=l.map .bool
theorem bls_len (l:List Bool):(bls l).length=l.length:=List.length_map _
theorem T_bls:SlT Tryz.prog 114 4 1 1:=by
 obtain ⟨i,h1,h2,h3,h4⟩:=info_parts (show (Tryz.prog.info? 4).map (fun i=>(i.zero,i.size,i.bytes))=some (some (.bool false),1,1) from by kernel_rfl)
 exact ⟨Tryz.underlying114,⟨i,_,h1,h2,h3,h4,rfl⟩,by omega⟩
def BF (w:World) (A:Option Addr) (c:Nat) (N:List Bool) (B:Option Addr) (d:Nat) (G:List Bool):Prop :=
 Own w 5 1 A N.length c (b8s N)∧Own w 4 1 B G.length d (bls G)
theorem BF.upd {w w':World} {S:Nat→Prop} {A B:Option Addr} {c d:Nat} {N G:List Bool} (h:BF w A c N B d G) (u:Upd S w w') (hA:∀k,At A k→¬S k) (hB:∀k,At B k→¬S k):BF w' A c N B d G:=⟨h.1.upd u hA,h.2.upd u hB⟩
def RInP (w:World) (A B:Option Addr) (N G:List Bool) (e:Ending) (w':World):Prop :=
 ∃(A':Option Addr) (c':Nat) (B':Option Addr) (d':Nat),e=.returned (.tuple #[.slice A' N.length c',.slice B' G.length d'])∧BF w' A' c' N B' d' G ∧
  (∀k,At A' k→At A k∨w.heap.size≤k)∧(∀k,At B' k→At B k∨w.heap.size≤k)∧Upd (fun k=>At A k∨At B k) w w'
def RInQ (W:World) (A B:Option Addr) (N G:List Bool) (s1 s2:Value) (wx:World):Prop :=
 ∃(A1:Option Addr) (c1:Nat) (B1:Option Addr) (d1:Nat),s1=.slice A1 N.length c1∧s2=.slice B1 G.length d1∧BF wx A1 c1 N B1 d1 G∧(∀k,At A1 k→At A k∨W.heap.size≤k)∧(∀k,At B1 k→At B k∨W.heap.size≤k)∧Upd (fun k=>At A k∨At B k) W wx
theorem own_two {w:World} {A B:Option Addr} {n c m d:Nat} {cs ds:List Value} (hA:Own w 5 1 A n c cs) (hB:Own w 4 1 B m d ds) (k:Nat) (h:At A k):¬At B k:=by
 intro h2;rcases hB.cases with ⟨rfl,_⟩ | ⟨g,cur,rfl,hb,_⟩
 ·exact At.none_ h2
 ·rw [At.some_] at h2;subst h2;exact hA.ne_blk hb (by decide) h
theorem BF.step {W w2 w3 w4 w5:World} {A B A3 B5:Option Addr} {c d c3 d5 n g m:Nat} {N G o f:List Bool} (h:BF W A c N B d G) (hn:N.length=n) (hg:G.length=g) (ho:o.length=m) (hf:f.length=m)
  (u2:Upd Non W w2) (ho3:Own w3 5 1 A3 (n+m) c3 (b8s N++b8s o)) (hu3:Upd (At A) w2 w3) (ha3:∀k,At A3 k→At A k∨k=w2.heap.size)
  (u4:Upd Non w3 w4) (ho5:Own w5 4 1 B5 (g+m) d5 (bls G++bls f)) (hu5:Upd (At B) w4 w5) (hb5:∀k,At B5 k→At B k∨k=w4.heap.size):RInQ W A B (N++o) (G++f) (.slice A3 (n+m) c3) (.slice B5 (g+m) d5) w5:=by
 have hBlt:∀k,At B k→k<W.heap.size:=fun k h'=>h.2.lt h'
 have s2:=u2.size;have s3:=hu3.size;have s4:=u4.size
 have h3:∀k,At A3 k→¬At B k:=fun k hk hB=>by
  rcases ha3 k hk with q | q
  ·exact own_two h.1 h.2 k q hB
  ·have:=hBlt k hB;omega
 refine ⟨A3,c3,B5,d5,by rw [List.length_append,hn,ho],by rw [List.length_append,hg,hf],⟨?_,?_⟩,fun k hk=>?_,fun k hk=>?_,?_⟩
 ·have:=(ho3.upd u4 (fun _ _ f=>f)).upd hu5 h3;rw [List.length_append,hn,ho,show b8s (N++o)=b8s N++b8s o from List.map_append];exact this
 ·rw [List.length_append,hg,hf,show bls (G++f)=bls G++bls f from List.map_append];exact ho5
 ·rcases ha3 k hk with q | q
  ·exact .inl q
  ·exact .inr (by omega)
 ·rcases hb5 k hk with q | q
  ·exact .inl q
  ·exact .inr (by omega)
 ·exact (((u2.mono (fun _ _ f=>f.elim)).trans hu3 (fun _ _ q=>.inl q)).then_non u4).trans hu5 (fun _ _ q=>.inr q)
theorem RInP.same {w w':World} {A B:Option Addr} {c d:Nat} {N G N' G':List Bool} {n g:Nat} (hN:N'=N) (hG:G'=G) (hn:N.length=n) (hg:G.length=g) (h:BF w A c N B d G) (u:Upd Non w w'):RInP w A B N' G' (.returned (.tuple #[.slice A n c,.slice B g d])) w':=by
 subst hN hG hn hg;exact ⟨A,c,B,d,rfl,h.upd u (fun _ _ f=>f) (fun _ _ f=>f),fun _ h=>.inl h,fun _ h=>.inl h,u.mono (fun _ _ f=>f.elim)⟩
set_option maxRecDepth 100000 in
set_option maxHeartbeats 16000000 in
theorem rInit_c (p:Pt):∀(w:World) (F:Nat→Prop) (KA:Option Addr) (kc:Nat) (A:Option Addr) (c:Nat) (B:Option Addr) (d:Nat) (N G:List Bool),supF p=true→WfP 64 p→PtK w F p KA kc→(∀k,F k→¬At A k∧¬At B k)→BF w A c N B d G→N.length+bN p≤1000000→G.length+bN p≤1000000 →
  Calls Tryz.prog 78 #[pv p KA kc,.slice A N.length c,.slice B G.length d] w fun e w'=>RInP w A B (N++iP p) (G++frP p) e w':=by
 induction p using Pt.ind with
 | h p ih =>
  intro w F KA kc A c B d N G hs hw hp0 hF0 hB0 hn hg;have hp1:=PtK.mono (G:=fun k=>F k∧k<w.heap.size) (fun k hk h=>⟨h,hk⟩) p KA kc hp0;obtain ⟨W,HW⟩:=nm (w.alloc (.cells #[.int .i64 p.v,.int .i64 p.op,.int .i64 p.imm,.int .i64 p.iv,.slice KA p.kids.length kc] 24));have hU:Upd Non w W:=by rw [←HW.out];exact Upd.refl.alloc _
  have hb:Blk W w.heap.size 24 #[.int .i64 p.v,.int .i64 p.op,.int .i64 p.imm,.int .i64 p.iv,.slice KA p.kids.length kc]:=by rw [←HW.out];exact Blk.new _ _ _
  have e0:=HW.out;have hpW:=PtK.upd hU (fun _ _ _ f=>f) p KA kc hp1;have hAlt:∀k,At A k→k<w.heap.size:=fun k h=>hB0.1.lt h
  have hBlt:∀k,At B k→k<w.heap.size:=fun k h=>hB0.2.lt h
  have HB0:=h_ hB0;have HBW:=h_ (hB0.upd hU (fun _ _ f=>f) (fun _ _ f=>f));have HF0:=h_ hF0;have HAL:=h_ hAlt;have HBL:=h_ hBlt;have HI:=h_ ih;have HWF:=h_ ((WfP.iff 64 p).1 hw);have HW1:=h_ hw;have HUW:=h_ hU;have HPW:=h_ hpW;obtain ⟨n,Hn⟩:=nm N.length;obtain ⟨g,Hg⟩:=nm G.length;rw [Hn.out,Hg.out];rw [Hn.out] at hn;rw [Hg.out] at hg;have c0:=hb.cell 0;have c1:=hb.cell 1;have HB:=h_ hb;have HSF:=h_ hs;clear ih hp0 hF0 hB0 hp1 hAlt hBlt hU hpW hw hs hb;unfold pv;by_cases hv:0<p.v
  ·have HP:Hid (RInP w A B (N++iP p) (G++frP p) (.returned (.tuple #[.slice A n c,.slice B g d])) W):=RInP.same (by rw [iP_iff,if_pos hv,List.append_nil]) (by rw [frP_iff,if_pos hv,List.append_nil]) Hn.out Hg.out HB0.out HUW.out
   obtain ⟨v,Hv⟩:=nm p.v;rw [Hv.out] at c0 e0 ⊢;have tv:decide (0<v)=true:=dT_ (by rw [←Hv.out];exact hv);clear hv;go_enter Tryz.func78,Tryz.ntmps78;go_wp2_with fail
   refine bodyPost_ret (results_tmp2 rfl _ _ _) rfl ?_;exact HP.out
  ·have hs1:supO p.op p.kids=true:=by have:=HSF.out;rw [supF_op hv,Bool.and_eq_true] at this;exact this.1
   obtain ⟨own,Hown⟩:=nm (ownN p.op p.kids);obtain ⟨o0,Ho0⟩:=nm (inO p.op own false);obtain ⟨f0,Hf0⟩:=nm (frO p.op own);have HIP:Hid (iP p=o0++iL p.kids):=by show _=_;rw [iP_iff,if_neg hv,Hown.out,Ho0.out]
   have HFP:Hid (frP p=f0++frL p.kids):=by show _=_;rw [frP_iff,if_neg hv,Hown.out,Hf0.out]
   have HBN:Hid (bN p=own+bL p.kids):=by show _=_;rw [bN_iff,if_neg hv,Hown.out]
   have HSEL:=h_ (selK_all HW1.out hv hs1);have hn0:n+own≤1000000:=by have:=HBN.out;omega
   have hg0:g+own≤1000000:=by have:=HBN.out;omega
   obtain ⟨v,Hv⟩:=nm p.v;have HV:=h_ hv;rw [Hv.out] at c0 e0 ⊢;have tv:decide (0<v)=false:=dF_ (by rw [←Hv.out];exact hv);by_cases h1:p.op=1
   ·have hk0:p.kids=[]:=List.length_eq_zero_iff.1 (by rw [HWF.out.2.2.1 (by have:=HWF.out.1;omega),h1];rfl);have ho:own=0:=by rw [←Hown.out,h1];rfl
    have HP:Hid (RInP w A B (N++iP p) (G++frP p) (.returned (.tuple #[.slice A n c,.slice B g d])) W):=RInP.same (by rw [HIP.out,←Ho0.out,ho,h1,hk0];simp [inO,iL,isG]) (by rw [HFP.out,←Hf0.out,ho,h1,hk0];simp [frO,frL,isG]) Hn.out Hg.out HB0.out HUW.out
    rw [h1] at c1;clear hv h1 hk0 ho;go_enter Tryz.func78,Tryz.ntmps78;go_wp2_with fail
    refine bodyPost_ret (results_tmp2 rfl _ _ _) rfl ?_;exact HP.out
   ·have t1:(p.op==1)=false:=by simpa using h1
    have hops:=supO_ops hs1;obtain ⟨op,Hop⟩:=nm p.op;rw [Hop.out] at c1 e0 t1 hops Hown Ho0 Hf0;rw [Hop.out];go_enter Tryz.func78,Tryz.ntmps78;rw [HBN.out] at hn hg;have HN:=h_ hn;have HG:=h_ hg;clear hn hg h1
    go_upto_block 0 with fail
    go_cut [1,2] (fun s1 s2 wx=>RInQ W A B (N++o0) (G++f0) s1 s2 wx)
    case first =>
     have hA:=HBW.out.1;have hB:=HBW.out.2;rw [Hn.out] at hA;rw [Hg.out] at hB;rcases hops with e | e | e | e | e | e | e | e | e | e | e | e | e | e | e
     ·subst e;simp at t1
     ·subst e;obtain rfl:own=1:=by rw [←Hown.out];rfl
      have ho:o0=[false]:=by rw [←Ho0.out];rfl
      have hf:f0=[false]:=by rw [←Hf0.out];rfl
      subst ho hf
      go_upto_region 7 with (at_builtin;refine wpList_app rfl rfl T_u8s rfl (hA.alloc _) rfl (Sl.new _ _ _) rfl (by simp [Value.oneCell']) (by simp only [maxLen];omega) (by omega) ?_;intro A3 c3 w3 ho3 hu3 hat3)
      have hB3:=(hB.alloc _).upd hu3 (fun k hk hA'=>own_two HBW.out.1 HBW.out.2 k hA' hk)
      go_wp2_with (at_builtin;refine wpList_app rfl rfl T_bls rfl (hB3.alloc _) rfl (Sl.new _ _ _) rfl (by simp [Value.oneCell']) (by simp only [maxLen];omega) (by omega) ?_;intro B5 d5 w5 ho5 hu5 hat5)
      go_meet
      case rel=>exact BF.step HBW.out Hn.out Hg.out rfl rfl (Upd.refl.alloc _) ho3 hu3 hat3 (Upd.refl.alloc _) ho5 hu5 hat5
     ·subst e;obtain rfl:own=1:=by rw [←Hown.out];rfl
      have ho:o0=[false]:=by rw [←Ho0.out];rfl
      have hf:f0=[false]:=by rw [←Hf0.out];rfl
      subst ho hf
      go_upto_region 7 with (at_builtin;refine wpList_app rfl rfl T_u8s rfl (hA.alloc _) rfl (Sl.new _ _ _) rfl (by simp [Value.oneCell']) (by simp only [maxLen];omega) (by omega) ?_;intro A3 c3 w3 ho3 hu3 hat3)
      have hB3:=(hB.alloc _).upd hu3 (fun k hk hA'=>own_two HBW.out.1 HBW.out.2 k hA' hk)
      go_wp2_with (at_builtin;refine wpList_app rfl rfl T_bls rfl (hB3.alloc _) rfl (Sl.new _ _ _) rfl (by simp [Value.oneCell']) (by simp only [maxLen];omega) (by omega) ?_;intro B5 d5 w5 ho5 hu5 hat5)
      go_meet
      case rel=>exact BF.step HBW.out Hn.out Hg.out rfl rfl (Upd.refl.alloc _) ho3 hu3 hat3 (Upd.refl.alloc _) ho5 hu5 hat5
     ·subst e;have ho:o0=[]:=by rw [←Ho0.out,←Hown.out];rfl
      have hf:f0=[]:=by rw [←Hf0.out,←Hown.out];rfl
      subst ho hf;go_wp2_with fail
      go_meet
      case rel =>
       rw [List.append_nil,List.append_nil];exact ⟨A,c,B,d,by rw [Hn.out],by rw [Hg.out],HBW.out,fun _ h=>.inl h,fun _ h=>.inl h,Upd.refl⟩
     ·subst e;have ho:o0=[]:=by rw [←Ho0.out,←Hown.out];rfl
      have hf:f0=[]:=by rw [←Hf0.out,←Hown.out];rfl
      subst ho hf;go_wp2_with fail
      go_meet
      case rel =>
       rw [List.append_nil,List.append_nil];exact ⟨A,c,B,d,by rw [Hn.out],by rw [Hg.out],HBW.out,fun _ h=>.inl h,fun _ h=>.inl h,Upd.refl⟩
     ·subst e;have ho:o0=[]:=by rw [←Ho0.out,←Hown.out];rfl
      have hf:f0=[]:=by rw [←Hf0.out,←Hown.out];rfl
      subst ho hf;go_wp2_with fail
      go_meet
      case rel =>
       rw [List.append_nil,List.append_nil];exact ⟨A,c,B,d,by rw [Hn.out],by rw [Hg.out],HBW.out,fun _ h=>.inl h,fun _ h=>.inl h,Upd.refl⟩
     ·subst e;have h2:p.kids.length=2:=by rw [HWF.out.2.2.1 (by have:=HWF.out.1;have:=HV.out;omega),Hop.out];rfl
      obtain ⟨k0,k1,ek⟩:∃k0 k1,p.kids=[k0,k1]:=by
       match p.kids,h2 with
       | [x,y],_=>exact ⟨x,y,rfl⟩
      have hk1n:1<p.kids.length:=by omega
      have hk1:(1:Int)<(p.kids.length:Int):=by omega
      obtain ⟨b,o,eK,hFb,hbw,KB,kd,_,_,g2,_,_,_⟩:=HPW.out.at_ (i:=1) hk1n;have ek1:p.kids[1]'hk1n=k1:=by simp [ek]
      rw [ek1] at g2;have ha:=and63 k1.imm;have how:(k1.imm % 64).toNat=own:=by rw [←Hown.out,ek];rfl
      rw [how] at ha;have ho:o0=List.replicate own false:=by rw [←Ho0.out];rfl
      have hf:f0=List.replicate own false:=by rw [←Hf0.out];rfl
      subst ho hf;have c4:=HB.out.cell 4;subst eK;clear how h2 ek
      go_upto_region 13 with fail
      have hz8:∀i z,Tryz.prog.info? 5=some i→i.zero=some z→z.cells=#[b8 false]:=fun i z h1 h2=>by
       have h3:(Tryz.prog.info? 5).map (fun i=>i.zero.map (·.cells))=some (some #[b8 false]):=by kernel_rfl
       rw [h1] at h3;simp only [Option.map_some,h2,Option.some.injEq] at h3;exact h3
      have hzb:∀i z,Tryz.prog.info? 4=some i→i.zero=some z→z.cells=#[.bool false]:=fun i z h1 h2=>by
       have h3:(Tryz.prog.info? 4).map (fun i=>i.zero.map (·.cells))=some (some #[.bool false]):=by kernel_rfl
       rw [h1] at h3;simp only [Option.map_some,h2,Option.some.injEq] at h3;exact h3
      have HZ8:=h_ hz8;have HZB:=h_ hzb;clear hz8 hzb
      go_upto_region 14 with (at_builtin;refine wpList_appz rfl rfl T_u8s (kn:=.i64) rfl HZ8.out rfl rfl hA rfl (by simp only [maxLen];omega) (by omega) ?_;intro A3 c3 w3 ho3 hu3 hat3)
      have hB3:=hB.upd hu3 (fun k hk hA'=>own_two HBW.out.1 HBW.out.2 k hA' hk)
      go_wp2_with (at_builtin;refine wpList_appz rfl rfl T_bls (kn:=.i64) rfl HZB.out rfl rfl hB3 rfl (by simp only [maxLen];omega) (by omega) ?_;intro B5 d5 w5 ho5 hu5 hat5)
      go_meet
      case rel=>exact BF.step HBW.out Hn.out Hg.out (by simp) (by simp) Upd.refl (by simpa [b8s] using ho3) hu3 hat3 Upd.refl (by simpa [bls] using ho5) hu5 hat5
     ·subst e;obtain rfl:own=2:=by rw [←Hown.out];rfl
      have ho:o0=[false,true]:=by rw [←Ho0.out];rfl
      have hf:f0=[true,false]:=by rw [←Hf0.out];rfl
      subst ho hf
      go_upto_region 19 with (at_builtin;refine wpList_app rfl rfl T_u8s rfl (hA.alloc _) rfl (Sl.new _ _ _) rfl (by simp [Value.oneCell']) (by simp only [maxLen];omega) (by omega) ?_;intro A3 c3 w3 ho3 hu3 hat3)
      have hB3:=(hB.alloc _).upd hu3 (fun k hk hA'=>own_two HBW.out.1 HBW.out.2 k hA' hk)
      go_wp2_with (at_builtin;refine wpList_app rfl rfl T_bls rfl (hB3.alloc _) rfl (Sl.new _ _ _) rfl (by simp [Value.oneCell']) (by simp only [maxLen];omega) (by omega) ?_;intro B5 d5 w5 ho5 hu5 hat5)
      go_meet
      case rel=>exact BF.step HBW.out Hn.out Hg.out rfl rfl (Upd.refl.alloc _) ho3 hu3 hat3 (Upd.refl.alloc _) ho5 hu5 hat5
     ·subst e;obtain rfl:own=2:=by rw [←Hown.out];rfl
      have ho:o0=[false,true]:=by rw [←Ho0.out];rfl
      have hf:f0=[true,false]:=by rw [←Hf0.out];rfl
      subst ho hf
      go_upto_region 19 with (at_builtin;refine wpList_app rfl rfl T_u8s rfl (hA.alloc _) rfl (Sl.new _ _ _) rfl (by simp [Value.oneCell']) (by simp only [maxLen];omega) (by omega) ?_;intro A3 c3 w3 ho3 hu3 hat3)
      have hB3:=(hB.alloc _).upd hu3 (fun k hk hA'=>own_two HBW.out.1 HBW.out.2 k hA' hk)
      go_wp2_with (at_builtin;refine wpList_app rfl rfl T_bls rfl (hB3.alloc _) rfl (Sl.new _ _ _) rfl (by simp [Value.oneCell']) (by simp only [maxLen];omega) (by omega) ?_;intro B5 d5 w5 ho5 hu5 hat5)
      go_meet
      case rel=>exact BF.step HBW.out Hn.out Hg.out rfl rfl (Upd.refl.alloc _) ho3 hu3 hat3 (Upd.refl.alloc _) ho5 hu5 hat5
     ·subst e;obtain rfl:own=2:=by rw [←Hown.out];rfl
      have ho:o0=[false,false]:=by rw [←Ho0.out];rfl
      have hf:f0=[true,false]:=by rw [←Hf0.out];rfl
      subst ho hf
      go_upto_region 24 with (at_builtin;refine wpList_app rfl rfl T_u8s rfl (hA.alloc _) rfl (Sl.new _ _ _) rfl (by simp [Value.oneCell']) (by simp only [maxLen];omega) (by omega) ?_;intro A3 c3 w3 ho3 hu3 hat3)
      have hB3:=(hB.alloc _).upd hu3 (fun k hk hA'=>own_two HBW.out.1 HBW.out.2 k hA' hk)
      go_wp2_with (at_builtin;refine wpList_app rfl rfl T_bls rfl (hB3.alloc _) rfl (Sl.new _ _ _) rfl (by simp [Value.oneCell']) (by simp only [maxLen];omega) (by omega) ?_;intro B5 d5 w5 ho5 hu5 hat5)
      go_meet
      case rel=>exact BF.step HBW.out Hn.out Hg.out rfl rfl (Upd.refl.alloc _) ho3 hu3 hat3 (Upd.refl.alloc _) ho5 hu5 hat5
     ·subst e;obtain rfl:own=2:=by rw [←Hown.out];rfl
      have ho:o0=[false,true]:=by rw [←Ho0.out];rfl
      have hf:f0=[true,false]:=by rw [←Hf0.out];rfl
      subst ho hf
      go_upto_region 19 with (at_builtin;refine wpList_app rfl rfl T_u8s rfl (hA.alloc _) rfl (Sl.new _ _ _) rfl (by simp [Value.oneCell']) (by simp only [maxLen];omega) (by omega) ?_;intro A3 c3 w3 ho3 hu3 hat3)
      have hB3:=(hB.alloc _).upd hu3 (fun k hk hA'=>own_two HBW.out.1 HBW.out.2 k hA' hk)
      go_wp2_with (at_builtin;refine wpList_app rfl rfl T_bls rfl (hB3.alloc _) rfl (Sl.new _ _ _) rfl (by simp [Value.oneCell']) (by simp only [maxLen];omega) (by omega) ?_;intro B5 d5 w5 ho5 hu5 hat5)
      go_meet
      case rel=>exact BF.step HBW.out Hn.out Hg.out rfl rfl (Upd.refl.alloc _) ho3 hu3 hat3 (Upd.refl.alloc _) ho5 hu5 hat5
     ·subst e;obtain rfl:own=2:=by rw [←Hown.out];rfl
      have ho:o0=[false,false]:=by rw [←Ho0.out];rfl
      have hf:f0=[true,false]:=by rw [←Hf0.out];rfl
      subst ho hf
      go_upto_region 24 with (at_builtin;refine wpList_app rfl rfl T_u8s rfl (hA.alloc _) rfl (Sl.new _ _ _) rfl (by simp [Value.oneCell']) (by simp only [maxLen];omega) (by omega) ?_;intro A3 c3 w3 ho3 hu3 hat3)
      have hB3:=(hB.alloc _).upd hu3 (fun k hk hA'=>own_two HBW.out.1 HBW.out.2 k hA' hk)
      go_wp2_with (at_builtin;refine wpList_app rfl rfl T_bls rfl (hB3.alloc _) rfl (Sl.new _ _ _) rfl (by simp [Value.oneCell']) (by simp only [maxLen];omega) (by omega) ?_;intro B5 d5 w5 ho5 hu5 hat5)
      go_meet
      case rel=>exact BF.step HBW.out Hn.out Hg.out rfl rfl (Upd.refl.alloc _) ho3 hu3 hat3 (Upd.refl.alloc _) ho5 hu5 hat5
     ·subst e;obtain rfl:own=1:=by rw [←Hown.out];rfl
      have ho:o0=[true]:=by rw [←Ho0.out];rfl
      have hf:f0=[false]:=by rw [←Hf0.out];rfl
      subst ho hf
      go_upto_region 10 with (at_builtin;refine wpList_app rfl rfl T_u8s rfl (hA.alloc _) rfl (Sl.new _ _ _) rfl (by simp [Value.oneCell']) (by simp only [maxLen];omega) (by omega) ?_;intro A3 c3 w3 ho3 hu3 hat3)
      have hB3:=(hB.alloc _).upd hu3 (fun k hk hA'=>own_two HBW.out.1 HBW.out.2 k hA' hk)
      go_wp2_with (at_builtin;refine wpList_app rfl rfl T_bls rfl (hB3.alloc _) rfl (Sl.new _ _ _) rfl (by simp [Value.oneCell']) (by simp only [maxLen];omega) (by omega) ?_;intro B5 d5 w5 ho5 hu5 hat5)
      go_meet
      case rel=>exact BF.step HBW.out Hn.out Hg.out rfl rfl (Upd.refl.alloc _) ho3 hu3 hat3 (Upd.refl.alloc _) ho5 hu5 hat5
     ·subst e;have ho:o0=[]:=by rw [←Ho0.out,←Hown.out];rfl
      have hf:f0=[]:=by rw [←Hf0.out,←Hown.out];rfl
      subst ho hf;go_wp2_with fail
      go_meet
      case rel =>
       rw [List.append_nil,List.append_nil];exact ⟨A,c,B,d,by rw [Hn.out],by rw [Hg.out],HBW.out,fun _ h=>.inl h,fun _ h=>.inl h,Upd.refl⟩
     ·subst e;obtain rfl:own=2:=by rw [←Hown.out];rfl
      have ho:o0=[false,false]:=by rw [←Ho0.out];rfl
      have hf:f0=[true,false]:=by rw [←Hf0.out];rfl
      subst ho hf
      go_upto_region 24 with (at_builtin;refine wpList_app rfl rfl T_u8s rfl (hA.alloc _) rfl (Sl.new _ _ _) rfl (by simp [Value.oneCell']) (by simp only [maxLen];omega) (by omega) ?_;intro A3 c3 w3 ho3 hu3 hat3)
      have hB3:=(hB.alloc _).upd hu3 (fun k hk hA'=>own_two HBW.out.1 HBW.out.2 k hA' hk)
      go_wp2_with (at_builtin;refine wpList_app rfl rfl T_bls rfl (hB3.alloc _) rfl (Sl.new _ _ _) rfl (by simp [Value.oneCell']) (by simp only [maxLen];omega) (by omega) ?_;intro B5 d5 w5 ho5 hu5 hat5)
      go_meet
      case rel=>exact BF.step HBW.out Hn.out Hg.out rfl rfl (Upd.refl.alloc _) ho3 hu3 hat3 (Upd.refl.alloc _) ho5 hu5 hat5
    case rest =>
     obtain ⟨w1,rfl⟩:∃w1:World,w1=wc:=⟨_,rfl⟩;obtain ⟨A0,ca,B0,da,rfl,rfl,hbf,hatA,hatB,hu0⟩:=hcut;have hb1:=HB.out.upd hu0 (fun h=>by rcases h with h | h;have:=HAL.out _ h;omega;have:=HBL.out _ h;omega);have HB1:=h_ hb1;have HSZ:Hid (W.heap.size=w.heap.size+1):=by show _=_;rw [←HW.out];simp
     obtain ⟨k,Hk⟩:=nm p.kids.length
     have hk3:k≤3:=by
      rw [←Hk.out,HWF.out.2.2.1 (by have:=HWF.out.1;have:=HV.out;omega),Hop.out];rcases hops with e | e | e | e | e | e | e | e | e | e | e | e | e | e | e <;> rw [e] <;> decide
     obtain ⟨N0,HN0⟩:=nm (N++o0);obtain ⟨G0,HG0⟩:=nm (G++f0);rw [HN0.out,HG0.out] at hbf ⊢;have HBF:=h_ hbf;have HAA:=h_ hatA;have HBB:=h_ hatB;have HU0:=h_ hu0;clear hb1 hbf hatA hatB hu0 c1 t1 tv;go_wp2_with fail
     go_loopg [1,2,9] k (fun gg s1 s2 i wr=>∃(j:Nat) (A1:Option Addr) (c1:Nat) (B1:Option Addr) (d1:Nat) (N1 G1:List Bool),Hid (gg=k - j)∧j≤k∧s1=.slice A1 N1.length c1∧s2=.slice B1 G1.length d1∧i=.int .i64 j ∧
      Hid (N1=N0++iL (selK op p.kids j))∧Hid (G1=G0++frL (selK op p.kids j))∧Hid (BF wr A1 c1 N1 B1 d1 G1)∧Hid (∀i,At A1 i→At A i∨W.heap.size≤i)∧Hid (∀i,At B1 i→At B i∨W.heap.size≤i)∧Hid (Upd (fun i=>At A i∨At B i) W wr))
     case atStart=>exact ⟨0,A0,ca,B0,da,N0,G0,rfl,by omega,rfl,rfl,rfl,by show _=_;simp [selK,iL],by show _=_;simp [selK,frL],HBF.out,HAA.out,HBB.out,HU0.out⟩
     case round =>
      obtain ⟨j,A1,c1,B1,d1,N1,G1,Hgg,hj,rfl,rfl,rfl,HN1,HG1,HF1,HA1,HB2,HU1⟩:=hrel;have hbr:=HB.out.upd HU1.out (fun h=>by rcases h with h | h;have:=HAL.out _ h;omega;have:=HBL.out _ h;omega);have y1:=hbr.cell 1;have y4:=hbr.cell 4;rw [Hop.out] at y1;rw [Hk.out] at y4;clear hbr;by_cases hlt:j<k
      ·have hjk:j<p.kids.length:=by rw [Hk.out];exact hlt
       have hjk2:(j:Int)<(k:Int):=by omega
       by_cases hsk:op=12∧j≠0
       ·obtain ⟨rfl,hj0⟩:=hsk;have tj:((j:Int)==0)=false:=by simp;omega
        have HS1:=h_ (selK_skip (kids:=p.kids) (op:=12) rfl hj0);clear hj0;go_wp2_with fail
        go_roundg (k - (j+1))
        case measure=>rw [Hgg.out];omega
        case rel=>exact ⟨j+1,A1,c1,B1,d1,N1,G1,rfl,by omega,rfl,rfl,by go_num,by show _=_;rw [HS1.out];exact HN1.out,by show _=_;rw [HS1.out];exact HG1.out,HF1,HA1,HB2,HU1⟩
       ·have hsk2:op≠12∨j=0:=by
         by_cases q:op=12
         ·exact .inr (by by_cases q2:j=0;exact q2;exact absurd ⟨q,q2⟩ hsk)
         ·exact .inl q
        have HSS:=h_ (selK_succ hjk hsk2)
        obtain ⟨b,o,eK,hFb,hbw,KB,kd,g0,g1,g2,g3,g4,hkid⟩:=PtK.at_ (PtK.upd HU1.out (fun i hi h q=>by
         have h0:=HF0.out i h.1;rcases q with q | q
         ·exact h0.1 q
         ·exact h0.2 q) _ _ _ HPW.out) hjk
        have hmem:=List.getElem_mem hjk;have hbl:bL (selK op p.kids (j+1))≤bL p.kids:=by unfold selK;split <;> exact bL_take_le _ _
        rw [HSS.out,bL_app] at hbl;have hblq:bL [p.kids[j]]=bN p.kids[j]:=by simp [bL]
        rw [hblq] at hbl;have hn0l:N0.length=n+own:=by rw [←HN0.out,List.length_append,Hn.out,←Ho0.out,←Hown.out,←Hop.out,inO_len]
        have hg0l:G0.length=g+own:=by rw [←HG0.out,List.length_append,Hg.out,←Hf0.out,←Hown.out,←Hop.out,frO_len]
        have hNl:N1.length=n+own+bL (selK op p.kids j):=by rw [HN1.out,List.length_append,iL_len,hn0l]
        have hGl:G1.length=g+own+bL (selK op p.kids j):=by rw [HG1.out,List.length_append,frL_len,hg0l]
        have hhn:=HN.out;have hhg:=HG.out;have hwk:=HWF.out.2.2.2 _ hmem
        have hsk3:supF p.kids[j]=true:=by
         have:=HSF.out;rw [supF_op (by have:=HV.out;omega),Bool.and_eq_true] at this;exact List.all_eq_true.1 this.2 _ hmem
        have C1:=h_ (HI.out _ hmem wr _ KB kd A1 c1 B1 d1 N1 G1 hsk3 hwk hkid (fun i h=>by
         have h0:=HF0.out i h.1;have hsz:=HSZ.out;refine ⟨fun q=>?_,fun q=>?_⟩
         ·rcases HA1.out i q with q | q
          ·exact h0.1 q
          ·have:=h.2;omega
         ·rcases HB2.out i q with q | q
          ·exact h0.2 q
          ·have:=h.2;omega) HF1.out (by omega) (by omega))
        have HE1:Hid (N1++iP p.kids[j]=N0++iL (selK op p.kids (j+1))):=by show _=_;rw [HSS.out,iL_app,HN1.out,List.append_assoc];simp [iL]
        have HE2:Hid (G1++frP p.kids[j]=G0++frL (selK op p.kids (j+1))):=by show _=_;rw [HSS.out,frL_app,HG1.out,List.append_assoc];simp [frL]
        have HWS:Hid (W.heap.size≤wr.heap.size):=HU1.out.size;obtain ⟨q,Hq⟩:=nm p.kids[j];rw [Hq.out] at C1 HE1 HE2 g0 g1 g2 g3 g4;have hj0:(0:Int)≤(j:Int):=by omega
        obtain ⟨n1,Hn1⟩:=nm N1.length;obtain ⟨g1l,Hg1⟩:=nm G1.length;rw [Hn1.out,Hg1.out] at C1;rw [Hn1.out,Hg1.out];subst eK;unfold pv at C1;clear hkid hmem hbl hblq hn0l hg0l hNl hGl hhn hhg hwk hsk3 hsk;by_cases h12:op=12
        ·have hj00:j=0:=by rcases hsk2 with q | q;exact absurd h12 q;exact q
         have tj:((j:Int)==0)=true:=by rw [hj00];rfl
         subst h12;clear hj00 hsk2;go_wp2_with fail
         refine C1.out.mono ?_;rintro e w4 hR;obtain ⟨A4,c4,B4,d4,rfl,HF4,HA4,HB4,HU4⟩:=hR;have HF4:=h_ HF4
         have HA4:Hid (∀i,At A4 i→At A i∨W.heap.size≤i):=fun i hi=>by
          rcases HA4 i hi with q | q
          ·exact HA1.out i q
          ·exact .inr (Nat.le_trans HWS.out q)
         have HB4:Hid (∀i,At B4 i→At B i∨W.heap.size≤i):=fun i hi=>by
          rcases HB4 i hi with q | q
          ·exact HB2.out i q
          ·exact .inr (Nat.le_trans HWS.out q)
         have HU4:Hid (Upd (fun i=>At A i∨At B i) W w4):=HU1.out.trans HU4 (fun i hi q=>by
          rcases q with q | q
          ·rcases HA1.out i q with q | q
           ·exact .inl q
           ·omega
          ·rcases HB2.out i q with q | q
           ·exact .inr q
           ·omega)
         obtain ⟨N4,HN4⟩:=nm (N1++iP q);obtain ⟨G4,HG4⟩:=nm (G1++frP q);rw [HN4.out] at HE1 HF4;rw [HG4.out] at HE2 HF4;rw [HN4.out,HG4.out];go_wp2_with fail
         go_roundg (k - (j+1))
         case measure=>rw [Hgg.out];omega
         case rel=>exact ⟨j+1,A4,c4,B4,d4,N4,G4,rfl,by omega,rfl,rfl,by go_num,HE1.out,HE2.out,HF4.out,HA4.out,HB4.out,HU4.out⟩
        ·have t12:(op==12)=false:=beq_eq_false_iff_ne.2 h12;clear hsk2;go_wp2_with fail
         refine C1.out.mono ?_;rintro e w4 hR;obtain ⟨A4,c4,B4,d4,rfl,HF4,HA4,HB4,HU4⟩:=hR;have HF4:=h_ HF4
         have HA4:Hid (∀i,At A4 i→At A i∨W.heap.size≤i):=fun i hi=>by
          rcases HA4 i hi with q | q
          ·exact HA1.out i q
          ·exact .inr (Nat.le_trans HWS.out q)
         have HB4:Hid (∀i,At B4 i→At B i∨W.heap.size≤i):=fun i hi=>by
          rcases HB4 i hi with q | q
          ·exact HB2.out i q
          ·exact .inr (Nat.le_trans HWS.out q)
         have HU4:Hid (Upd (fun i=>At A i∨At B i) W w4):=HU1.out.trans HU4 (fun i hi q=>by
          rcases q with q | q
          ·rcases HA1.out i q with q | q
           ·exact .inl q
           ·omega
          ·rcases HB2.out i q with q | q
           ·exact .inr q
           ·omega)
         obtain ⟨N4,HN4⟩:=nm (N1++iP q);obtain ⟨G4,HG4⟩:=nm (G1++frP q);rw [HN4.out] at HE1 HF4;rw [HG4.out] at HE2 HF4;rw [HN4.out,HG4.out];go_wp2_with fail
         go_roundg (k - (j+1))
         case measure=>rw [Hgg.out];omega
         case rel=>exact ⟨j+1,A4,c4,B4,d4,N4,G4,rfl,by omega,rfl,rfl,by go_num,HE1.out,HE2.out,HF4.out,HA4.out,HB4.out,HU4.out⟩
      ·obtain rfl:k=j:=by omega
       have hsl:=HSEL.out;rw [Hop.out,Hk.out] at hsl;have e1:N1=N++iP p:=by rw [HN1.out,←HN0.out,hsl.1,HIP.out,List.append_assoc]
       have e2:G1=G++frP p:=by rw [HG1.out,←HG0.out,hsl.2,HFP.out,List.append_assoc]
       have HE1:=h_ e1;have HE2:=h_ e2;clear e1 e2 hsl;go_wp2_with fail
       refine bodyPost_ret (results_tmp2 rfl _ _ _) rfl ?_;rw [←HE1.out,←HE2.out];exact ⟨A1,c1,B1,d1,rfl,HF1.out,fun i hi=>(HA1.out i hi).imp id (fun q=>by have:=HSZ.out;omega),fun i hi=>(HB2.out i hi).imp id (fun q=>by have:=HSZ.out;omega),(HUW.out.mono (fun _ _ f=>f.elim)).trans HU1.out (fun _ _ q=>q)⟩
theorem gRL_app (l m:List Pt):∀b,gRL (l++m) b=((gRL l b).1&&(gRL m (gRL l b).2).1,(gRL m (gRL l b).2).2):=by
 induction l with
 | nil=>intro b;simp [gRL]
 | cons x l ih=>intro b;rw [List.cons_append,gRL,gRL,ih,Bool.and_assoc]
theorem gRL_one (q:Pt) (b:List Bool):gRL [q] b=gRP q b:=by simp [gRL]
theorem gRL_rest (l:List Pt):∀b,(gRL l b).2=b.drop (bL l):=by
 induction l with
 | nil=>intro b;simp [gRL,bL]
 | cons x l ih=>intro b;rw [gRL,ih,gRP_rest,List.drop_drop];rfl
theorem selK_gR {p:Pt} (hw:WfP 64 p) (hv:¬0<p.v) (hs:supO p.op p.kids=true) (b:List Bool):gRL (selK p.op p.kids p.kids.length) b=gRL p.kids b:=by
 have hw':=(WfP.iff 64 p).1 hw;unfold selK;by_cases h12:p.op=12
 ·have h2:p.kids.length=2:=by rw [hw'.2.2.1 (by omega),h12];rfl
  obtain ⟨k0,k1,ek⟩:∃k0 k1,p.kids=[k0,k1]:=by
   match p.kids,h2 with
   | [x,y],_=>exact ⟨x,y,rfl⟩
  have ho:k1.op=1:=by
   have:=hs;unfold supO at this;have:=of_decide_eq_true this;rw [h12,ek] at this;simp [kid] at this;omega
  have w1:=(WfP.iff 64 k1).1 (hw'.2.2.2 k1 (by rw [ek];simp))
  have hz1:∀b,gRP k1 b=(true,b):=fun b=>by
   rw [gRP_iff];by_cases hv1:0<k1.v
   ·rw [if_pos hv1]
   ·have hk0:k1.kids=[]:=List.length_eq_zero_iff.1 (by rw [w1.2.2.1 (by omega),ho];rfl);rw [if_neg hv1,hk0,ho];rfl
  rw [if_pos h12,ek];simp [gRL,hz1]
 ·rw [if_neg h12,List.take_length]
def GrP (w:World) (F:Nat→Prop) (b:List Bool) (n:Nat) (ok:Bool) (e:Ending) (w':World):Prop :=
 ∃(BA':Option Addr) (bc':Nat),e=.returned (.tuple #[.slice BA' (b.length - n) bc',.bool ok])∧Sl w' F BA' (b8s (b.drop n))∧b.length - n≤bc'∧Upd Non w w'
set_option maxRecDepth 100000 in
set_option maxHeartbeats 16000000 in
theorem rGuess_c (p:Pt):∀(w:World) (F:Nat→Prop) (KA:Option Addr) (kc:Nat) (BA:Option Addr) (bc:Nat) (b:List Bool),PtK w F p KA kc→supF p=true→WfP 64 p→Sl w F BA (b8s b)→b.length≤bc→bN p≤b.length→b.length≤100000 →
  Calls Tryz.prog 80 #[pv p KA kc,.slice BA b.length bc] w fun e w'=>GrP w F b (bN p) (gRP p b).1 e w':=by
 induction p using Pt.ind with
 | h p ih =>
  intro w F KA kc BA bc b hp hs hw hB hbc hbn hbl;obtain ⟨W,HW⟩:=nm (w.alloc (.cells #[.int .i64 p.v,.int .i64 p.op,.int .i64 p.imm,.int .i64 p.iv,.slice KA p.kids.length kc] 24));have hU:Upd Non w W:=by rw [←HW.out];exact Upd.refl.alloc _
  obtain ⟨pb,hpb⟩:∃z,w.heap.size=z:=⟨_,rfl⟩;have hb:Blk W pb 24 #[.int .i64 p.v,.int .i64 p.op,.int .i64 p.imm,.int .i64 p.iv,.slice KA p.kids.length kc]:=by rw [←HW.out,←hpb];exact Blk.new _ _ _
  have e0:=HW.out;have HPW:=h_ (PtK.upd hU (fun _ _ _ f=>f) p KA kc hp);have HBW:=h_ (hB.upd hU (fun _ _ _ f=>f));have HUW:=h_ hU;have HI:=h_ ih;have HWF:=h_ ((WfP.iff 64 p).1 hw);have HB:=h_ hb;have c0:W.cell? ⟨pb,0,none⟩=some (.int .i64 p.v):=hb.cell 0;have c1:W.cell? ⟨pb,1,none⟩=some (.int .i64 p.op):=hb.cell 1;obtain ⟨bl,Hbl⟩:=nm b.length;rw [Hbl.out] at hbc hbn hbl ⊢;have HBC:Hid (bl≤bc):=hbc;have HBN:=h_ hbn;unfold pv;by_cases hv:0<p.v
  ·have HP:Hid (GrP w F b (bN p) (gRP p b).1 (.returned (.tuple #[.slice BA bl bc,.bool true])) W):=by
    have h0:bN p=0:=by rw [bN_iff,if_pos hv]
    have h1:(gRP p b).1=true:=by rw [gRP_iff,if_pos hv]
    rw [h0,h1];exact ⟨BA,bc,by rw [Hbl.out,Nat.sub_zero],HBW.out,by rw [Hbl.out,Nat.sub_zero];exact HBC.out,HUW.out⟩
   have tv:decide (p.v > 0)=true:=dT_ hv;clear hp hs hw hB hU hb hbc hbn hv ih;go_enter Tryz.func80,Tryz.ntmps80;go_wp2_with fail
   refine bodyPost_ret (results_tmp2 rfl _ _ _) rfl ?_;exact HP.out
  ·have tv:decide (p.v > 0)=false:=dF_ (by omega);have hs1:supO p.op p.kids=true:=by rw [supF_op hv,Bool.and_eq_true] at hs;exact hs.1
   by_cases h1:p.op=1
   ·have hk0:p.kids=[]:=List.length_eq_zero_iff.1 (by rw [HWF.out.2.2.1 (by have:=HWF.out.1;omega),h1];rfl)
    have HP:Hid (GrP w F b (bN p) (gRP p b).1 (.returned (.tuple #[.slice BA bl bc,.bool true])) W):=by
     have h0:bN p=0:=by rw [bN_iff,if_neg hv,h1,hk0];rfl
     have h2:(gRP p b).1=true:=by rw [gRP_iff,if_neg hv,h1,hk0];rfl
     rw [h0,h2];exact ⟨BA,bc,by rw [Hbl.out,Nat.sub_zero],HBW.out,by rw [Hbl.out,Nat.sub_zero];exact HBC.out,HUW.out⟩
    rw [h1] at c1 e0;rw [h1];clear hp hs hw hB hU hb hbc hbn hv ih hs1 h1 hk0;go_enter Tryz.func80,Tryz.ntmps80;go_wp2_with fail
    refine bodyPost_ret (results_tmp2 rfl _ _ _) rfl ?_;exact HP.out
   ·have t1:(p.op==1)=false:=by simpa using h1
    have hops:=supO_ops hs1;have HSF:=h_ hs;have HW1:=h_ hw;have HV:Hid (¬0<p.v):=hv;have HSEL:=h_ (selK_gR hw hv hs1);obtain ⟨own,Hown⟩:=nm (ownN p.op p.kids);have HBNE:Hid (bN p=own+bL p.kids):=by show _=_;rw [bN_iff,if_neg hv,Hown.out]
    have hob:own≤bl:=by have:=HBNE.out;omega
    obtain ⟨g0,Hg0⟩:=nm (gOk p.op (b.take own));have HGR:Hid ((gRP p b).1=(g0&&(gRL p.kids (b.drop own)).1)):=by show _=_;rw [gRP_iff,if_neg hv,Hown.out,Hg0.out]
    obtain ⟨op,Hop⟩:=nm p.op;rw [Hop.out] at c1 e0 t1 hops Hown Hg0 hs1;rw [Hop.out];clear hp hs hw hB hU hb hv ih h1;go_enter Tryz.func80,Tryz.ntmps80
    go_upto_block 0 with fail
    go_cut [1,6] (fun s1 s6 wx=>∃(BA1:Option Addr) (bc1:Nat),s1=.slice BA1 (bl - own) bc1∧s6=.bool g0∧Hid (Sl wx F BA1 (b8s (b.drop own)))∧bl - own≤bc1∧Hid (Upd Non W wx))
    case first =>
     have hB1:=HBW.out;have HCUT:Hid (∀m,Sl W F (if bc=m then BA else BA.map (·.add m)) (b8s (b.drop m))):=fun m=>by rw [←b8s_drop];exact hB1.cut m bc (by rw [b8s_len,Hbl.out];exact HBC.out)
     rcases hops with e | e | e | e | e | e | e | e | e | e | e | e | e | e | e
     ·subst e;simp at t1
     ·subst e;obtain rfl:own=1:=by rw [←Hown.out];rfl
      have hg:g0=true:=by rw [←Hg0.out];rfl
      subst hg;have hb1:(1:Int)≤(bl:Int):=by omega
      have hb2:(1:Int)≤(bc:Int):=by omega
      have hb3:(bl:Int)≤(bc:Int):=by omega
      have HC1:=h_ (HCUT.out 1);by_cases hbc1:bc=1
      ·have HC2:=HC1.out;rw [if_pos hbc1] at HC2;have HC3:=h_ HC2;have hbl1:bl=1:=by omega
       subst hbc1 hbl1;clear HC2 HC1 HCUT;go_wp2_with fail
       go_meet
       case rel=>exact ⟨BA,0,rfl,rfl,HC3.out,by omega,Upd.refl⟩
      ·have HC2:=HC1.out;rw [if_neg hbc1] at HC2;have HC3:=h_ HC2;clear HC2 HC1 HCUT;go_wp2_with fail
       go_meet
       case rel=>exact ⟨_,bc - 1,rfl,rfl,HC3.out,by omega,Upd.refl⟩
     ·subst e;obtain rfl:own=1:=by rw [←Hown.out];rfl
      have hg:g0=true:=by rw [←Hg0.out];rfl
      subst hg;have hb1:(1:Int)≤(bl:Int):=by omega
      have hb2:(1:Int)≤(bc:Int):=by omega
      have hb3:(bl:Int)≤(bc:Int):=by omega
      have HC1:=h_ (HCUT.out 1);by_cases hbc1:bc=1
      ·have HC2:=HC1.out;rw [if_pos hbc1] at HC2;have HC3:=h_ HC2;have hbl1:bl=1:=by omega
       subst hbc1 hbl1;clear HC2 HC1 HCUT;go_wp2_with fail
       go_meet
       case rel=>exact ⟨BA,0,rfl,rfl,HC3.out,by omega,Upd.refl⟩
      ·have HC2:=HC1.out;rw [if_neg hbc1] at HC2;have HC3:=h_ HC2;clear HC2 HC1 HCUT;go_wp2_with fail
       go_meet
       case rel=>exact ⟨_,bc - 1,rfl,rfl,HC3.out,by omega,Upd.refl⟩
     ·subst e;obtain rfl:own=0:=by rw [←Hown.out];rfl
      have hg:g0=true:=by rw [←Hg0.out];rfl
      subst hg;go_wp2_with fail
      go_meet
      case rel=>exact ⟨BA,bc,by rw [Nat.sub_zero],rfl,HBW.out,by have:=HBC.out;omega,Upd.refl⟩
     ·subst e;obtain rfl:own=0:=by rw [←Hown.out];rfl
      have hg:g0=true:=by rw [←Hg0.out];rfl
      subst hg;go_wp2_with fail
      go_meet
      case rel=>exact ⟨BA,bc,by rw [Nat.sub_zero],rfl,HBW.out,by have:=HBC.out;omega,Upd.refl⟩
     ·subst e;obtain rfl:own=0:=by rw [←Hown.out];rfl
      have hg:g0=true:=by rw [←Hg0.out];rfl
      subst hg;go_wp2_with fail
      go_meet
      case rel=>exact ⟨BA,bc,by rw [Nat.sub_zero],rfl,HBW.out,by have:=HBC.out;omega,Upd.refl⟩
     ·subst e;have h2:p.kids.length=2:=by rw [HWF.out.2.2.1 (by have:=HWF.out.1;have:=HV.out;omega),Hop.out];rfl
      obtain ⟨k0,k1,ek⟩:∃k0 k1,p.kids=[k0,k1]:=by
       match p.kids,h2 with
       | [x,y],_=>exact ⟨x,y,rfl⟩
      have hk1n:1<p.kids.length:=by omega
      have hk1:(1:Int)<(p.kids.length:Int):=by omega
      obtain ⟨kb,ko,KB,kd,eK,_,_,m2,_,_,_⟩:=kid_at HPW.out (i:=1) (q:=k1) hk1n (by simp [ek]);have ha:=and63 k1.imm;have how:(k1.imm % 64).toNat=own:=by rw [←Hown.out,ek];rfl
      rw [how] at ha;have hg:g0=true:=by rw [←Hg0.out];rfl
      subst hg eK;have c4:W.cell? ⟨pb,4,none⟩=some (.slice (some ⟨kb,ko,none⟩) p.kids.length kc):=HB.out.cell 4;have hb1:(own:Int)≤(bl:Int):=by omega
      have hb2:(own:Int)≤(bc:Int):=by omega
      have hb3:(bl:Int)≤(bc:Int):=by omega
      have hb0:(0:Int)≤(own:Int):=by omega
      have HC1:=h_ (HCUT.out own);clear how h2 ek hB1 Hg0 Hown;by_cases hbc1:bc=own
      ·have HC2:=HC1.out;rw [if_pos hbc1] at HC2;have HC3:=h_ HC2;have hbl1:bl=own:=by omega
       subst hbc1 hbl1;clear HC2 HC1 HCUT;go_wp2_with fail
       go_meet
       case rel=>exact ⟨BA,0,by rw [Nat.sub_self],rfl,HC3.out,by omega,Upd.refl⟩
      ·have HC2:=HC1.out;rw [if_neg hbc1] at HC2;have HC3:=h_ HC2;clear HC2 HC1 HCUT;go_wp2_with fail
       go_meet
       case rel=>exact ⟨_,bc - own,rfl,rfl,HC3.out,by omega,Upd.refl⟩
     ·subst e;obtain rfl:own=2:=by rw [←Hown.out];rfl
      obtain ⟨x0,x1,rest,hbe⟩:∃x0 x1 rest,b=x0::x1::rest:=by
       match b,Hbl.out,hob with
       | [],e,h=>rw [←e,List.length_nil] at h;omega
       | [a],e,h=>rw [←e,List.length_singleton] at h;omega
       | x0::x1::r,_,_=>exact ⟨x0,x1,r,rfl⟩
      rw [hbe] at Hg0 hB1;have hb1:(2:Int)≤(bl:Int):=by omega
      have hb2:(2:Int)≤(bc:Int):=by omega
      have hb3:(bl:Int)≤(bc:Int):=by omega
      have hb4:(0:Int)<(bl:Int):=by omega
      have hb5:(1:Int)<(bl:Int):=by omega
      have hb4n:0<bl:=by omega
      have hb5n:1<bl:=by omega
      have HC1:=h_ (HCUT.out 2);obtain ⟨ob,oo,rfl,_,_,y0⟩:=hB1.at_ (k:=0) (by simp [b8s]);obtain ⟨ob2,oo2,eB,_,_,y1⟩:=hB1.at_ (k:=1) (by simp [b8s]);injection eB with eB
      injection eB with eB1 eB2
      subst eB1 eB2;have y0:W.cell? ⟨ob,oo,none⟩=some (.int .u8 (bW x0)):=y0;have y1:W.cell? ⟨ob,oo+1,none⟩=some (.int .u8 (bW x1)):=y1;have hg:=Hg0.out.symm;have hx:(x0=false∧x1=false)∨(x0=false∧x1=true)∨(x0=true∧x1=false)∨(x0=true∧x1=true):=by cases x0 <;> cases x1 <;> simp
      clear hB1 Hg0 hbe;rcases hx with ⟨rfl,rfl⟩ | ⟨rfl,rfl⟩ | ⟨rfl,rfl⟩ | ⟨rfl,rfl⟩
      all_goals
       obtain rfl:=hg
       go_upto_region 19 with fail
       refine wp_region_held_drew (S:=fun w'=>w'.cell? ⟨ob,oo,none⟩=some (.int .u8 (bW _))∧w'.cell? ⟨ob,oo+1,none⟩=some (.int .u8 (bW _))) (by kernel_rfl) ⟨y0,y1⟩ (fun hHeld=>?_)
       refine wpT 0 ?_;(try simp only [y_,z_]);refine wpT 1 ?_;(try simp only [y_,z_]);refine wpT 2 ?_;(try simp only [y_,z_]);refine wpT 3 ?_;(try simp only [y_,z_]);refine wpT 4 ?_;(try simp only [y_,z_]);refine wpT 5 ?_;(try simp only [y_,z_]);refine wpT 6 ?_;(try simp only [y_,z_]);refine wpT 7 ?_;(try simp only [y_,z_]);refine aD_ (by kernel_rfl) ?_ _;clear hHeld;by_cases hbc1:bc=2
       ·have HC2:=HC1.out;rw [if_pos hbc1] at HC2;have HC3:=h_ HC2;have hbl1:bl=2:=by omega
        subst hbc1 hbl1;clear HC2 HC1 HCUT;go_wp2_with fail
        go_meet
        case rel=>exact ⟨_,0,rfl,rfl,HC3.out.upd (Upd.refl (S:=Non)).drew (fun _ _ _ f=>f),by omega,Upd.refl.drew⟩
       ·have HC2:=HC1.out;rw [if_neg hbc1] at HC2;have HC3:=h_ HC2;clear HC2 HC1 HCUT;go_wp2_with fail
        go_meet
        case rel=>exact ⟨_,bc - 2,rfl,rfl,HC3.out.upd (Upd.refl (S:=Non)).drew (fun _ _ _ f=>f),by omega,Upd.refl.drew⟩
     ·subst e;obtain rfl:own=2:=by rw [←Hown.out];rfl
      obtain ⟨x0,x1,rest,hbe⟩:∃x0 x1 rest,b=x0::x1::rest:=by
       match b,Hbl.out,hob with
       | [],e,h=>rw [←e,List.length_nil] at h;omega
       | [a],e,h=>rw [←e,List.length_singleton] at h;omega
       | x0::x1::r,_,_=>exact ⟨x0,x1,r,rfl⟩
      rw [hbe] at Hg0 hB1;have hb1:(2:Int)≤(bl:Int):=by omega
      have hb2:(2:Int)≤(bc:Int):=by omega
      have hb3:(bl:Int)≤(bc:Int):=by omega
      have hb4:(0:Int)<(bl:Int):=by omega
      have hb5:(1:Int)<(bl:Int):=by omega
      have hb4n:0<bl:=by omega
      have hb5n:1<bl:=by omega
      have HC1:=h_ (HCUT.out 2);obtain ⟨ob,oo,rfl,_,_,y0⟩:=hB1.at_ (k:=0) (by simp [b8s]);obtain ⟨ob2,oo2,eB,_,_,y1⟩:=hB1.at_ (k:=1) (by simp [b8s]);injection eB with eB
      injection eB with eB1 eB2
      subst eB1 eB2;have y0:W.cell? ⟨ob,oo,none⟩=some (.int .u8 (bW x0)):=y0;have y1:W.cell? ⟨ob,oo+1,none⟩=some (.int .u8 (bW x1)):=y1;have hg:=Hg0.out.symm;have hx:(x0=false∧x1=false)∨(x0=false∧x1=true)∨(x0=true∧x1=false)∨(x0=true∧x1=true):=by cases x0 <;> cases x1 <;> simp
      clear hB1 Hg0 hbe;rcases hx with ⟨rfl,rfl⟩ | ⟨rfl,rfl⟩ | ⟨rfl,rfl⟩ | ⟨rfl,rfl⟩
      all_goals
       obtain rfl:=hg
       go_upto_region 12 with fail
       refine wp_region_held_drew (S:=fun w'=>w'.cell? ⟨ob,oo,none⟩=some (.int .u8 (bW _))∧w'.cell? ⟨ob,oo+1,none⟩=some (.int .u8 (bW _))) (by kernel_rfl) ⟨y0,y1⟩ (fun hHeld=>?_)
       refine wpT 0 ?_;(try simp only [y_,z_]);refine wpT 1 ?_;(try simp only [y_,z_]);refine wpT 2 ?_;(try simp only [y_,z_]);refine wpT 3 ?_;(try simp only [y_,z_]);refine wpT 4 ?_;(try simp only [y_,z_]);refine wpT 5 ?_;(try simp only [y_,z_]);refine wpT 6 ?_;(try simp only [y_,z_]);refine wpT 7 ?_;(try simp only [y_,z_]);refine aD_ (by kernel_rfl) ?_ _;clear hHeld;by_cases hbc1:bc=2
       ·have HC2:=HC1.out;rw [if_pos hbc1] at HC2;have HC3:=h_ HC2;have hbl1:bl=2:=by omega
        subst hbc1 hbl1;clear HC2 HC1 HCUT;go_wp2_with fail
        go_meet
        case rel=>exact ⟨_,0,rfl,rfl,HC3.out.upd (Upd.refl (S:=Non)).drew (fun _ _ _ f=>f),by omega,Upd.refl.drew⟩
       ·have HC2:=HC1.out;rw [if_neg hbc1] at HC2;have HC3:=h_ HC2;clear HC2 HC1 HCUT;go_wp2_with fail
        go_meet
        case rel=>exact ⟨_,bc - 2,rfl,rfl,HC3.out.upd (Upd.refl (S:=Non)).drew (fun _ _ _ f=>f),by omega,Upd.refl.drew⟩
     ·subst e;obtain rfl:own=2:=by rw [←Hown.out];rfl
      obtain ⟨x0,x1,rest,hbe⟩:∃x0 x1 rest,b=x0::x1::rest:=by
       match b,Hbl.out,hob with
       | [],e,h=>rw [←e,List.length_nil] at h;omega
       | [a],e,h=>rw [←e,List.length_singleton] at h;omega
       | x0::x1::r,_,_=>exact ⟨x0,x1,r,rfl⟩
      rw [hbe] at Hg0 hB1;have hb1:(2:Int)≤(bl:Int):=by omega
      have hb2:(2:Int)≤(bc:Int):=by omega
      have hb3:(bl:Int)≤(bc:Int):=by omega
      have hb4:(0:Int)<(bl:Int):=by omega
      have hb5:(1:Int)<(bl:Int):=by omega
      have hb4n:0<bl:=by omega
      have hb5n:1<bl:=by omega
      have HC1:=h_ (HCUT.out 2);obtain ⟨ob,oo,rfl,_,_,y0⟩:=hB1.at_ (k:=0) (by simp [b8s]);obtain ⟨ob2,oo2,eB,_,_,y1⟩:=hB1.at_ (k:=1) (by simp [b8s]);injection eB with eB
      injection eB with eB1 eB2
      subst eB1 eB2;have y0:W.cell? ⟨ob,oo,none⟩=some (.int .u8 (bW x0)):=y0;have y1:W.cell? ⟨ob,oo+1,none⟩=some (.int .u8 (bW x1)):=y1;have hg:=Hg0.out.symm;have hx:(x0=false∧x1=false)∨(x0=false∧x1=true)∨(x0=true∧x1=false)∨(x0=true∧x1=true):=by cases x0 <;> cases x1 <;> simp
      clear hB1 Hg0 hbe;rcases hx with ⟨rfl,rfl⟩ | ⟨rfl,rfl⟩ | ⟨rfl,rfl⟩ | ⟨rfl,rfl⟩
      all_goals
       obtain rfl:=hg
       go_upto_region 19 with fail
       refine wp_region_held_drew (S:=fun w'=>w'.cell? ⟨ob,oo,none⟩=some (.int .u8 (bW _))∧w'.cell? ⟨ob,oo+1,none⟩=some (.int .u8 (bW _))) (by kernel_rfl) ⟨y0,y1⟩ (fun hHeld=>?_)
       refine wpT 0 ?_;(try simp only [y_,z_]);refine wpT 1 ?_;(try simp only [y_,z_]);refine wpT 2 ?_;(try simp only [y_,z_]);refine wpT 3 ?_;(try simp only [y_,z_]);refine wpT 4 ?_;(try simp only [y_,z_]);refine wpT 5 ?_;(try simp only [y_,z_]);refine wpT 6 ?_;(try simp only [y_,z_]);refine wpT 7 ?_;(try simp only [y_,z_]);refine aD_ (by kernel_rfl) ?_ _;clear hHeld;by_cases hbc1:bc=2
       ·have HC2:=HC1.out;rw [if_pos hbc1] at HC2;have HC3:=h_ HC2;have hbl1:bl=2:=by omega
        subst hbc1 hbl1;clear HC2 HC1 HCUT;go_wp2_with fail
        go_meet
        case rel=>exact ⟨_,0,rfl,rfl,HC3.out.upd (Upd.refl (S:=Non)).drew (fun _ _ _ f=>f),by omega,Upd.refl.drew⟩
       ·have HC2:=HC1.out;rw [if_neg hbc1] at HC2;have HC3:=h_ HC2;clear HC2 HC1 HCUT;go_wp2_with fail
        go_meet
        case rel=>exact ⟨_,bc - 2,rfl,rfl,HC3.out.upd (Upd.refl (S:=Non)).drew (fun _ _ _ f=>f),by omega,Upd.refl.drew⟩
     ·subst e;obtain rfl:own=2:=by rw [←Hown.out];rfl
      obtain ⟨x0,x1,rest,hbe⟩:∃x0 x1 rest,b=x0::x1::rest:=by
       match b,Hbl.out,hob with
       | [],e,h=>rw [←e,List.length_nil] at h;omega
       | [a],e,h=>rw [←e,List.length_singleton] at h;omega
       | x0::x1::r,_,_=>exact ⟨x0,x1,r,rfl⟩
      rw [hbe] at Hg0 hB1;have hb1:(2:Int)≤(bl:Int):=by omega
      have hb2:(2:Int)≤(bc:Int):=by omega
      have hb3:(bl:Int)≤(bc:Int):=by omega
      have hb4:(0:Int)<(bl:Int):=by omega
      have hb5:(1:Int)<(bl:Int):=by omega
      have hb4n:0<bl:=by omega
      have hb5n:1<bl:=by omega
      have HC1:=h_ (HCUT.out 2);obtain ⟨ob,oo,rfl,_,_,y0⟩:=hB1.at_ (k:=0) (by simp [b8s]);obtain ⟨ob2,oo2,eB,_,_,y1⟩:=hB1.at_ (k:=1) (by simp [b8s]);injection eB with eB
      injection eB with eB1 eB2
      subst eB1 eB2;have y0:W.cell? ⟨ob,oo,none⟩=some (.int .u8 (bW x0)):=y0;have y1:W.cell? ⟨ob,oo+1,none⟩=some (.int .u8 (bW x1)):=y1;have hg:=Hg0.out.symm;have hx:(x0=false∧x1=false)∨(x0=false∧x1=true)∨(x0=true∧x1=false)∨(x0=true∧x1=true):=by cases x0 <;> cases x1 <;> simp
      clear hB1 Hg0 hbe;rcases hx with ⟨rfl,rfl⟩ | ⟨rfl,rfl⟩ | ⟨rfl,rfl⟩ | ⟨rfl,rfl⟩
      all_goals
       obtain rfl:=hg
       go_upto_region 19 with fail
       refine wp_region_held_drew (S:=fun w'=>w'.cell? ⟨ob,oo,none⟩=some (.int .u8 (bW _))∧w'.cell? ⟨ob,oo+1,none⟩=some (.int .u8 (bW _))) (by kernel_rfl) ⟨y0,y1⟩ (fun hHeld=>?_)
       refine wpT 0 ?_;(try simp only [y_,z_]);refine wpT 1 ?_;(try simp only [y_,z_]);refine wpT 2 ?_;(try simp only [y_,z_]);refine wpT 3 ?_;(try simp only [y_,z_]);refine wpT 4 ?_;(try simp only [y_,z_]);refine wpT 5 ?_;(try simp only [y_,z_]);refine wpT 6 ?_;(try simp only [y_,z_]);refine wpT 7 ?_;(try simp only [y_,z_]);refine aD_ (by kernel_rfl) ?_ _;clear hHeld;by_cases hbc1:bc=2
       ·have HC2:=HC1.out;rw [if_pos hbc1] at HC2;have HC3:=h_ HC2;have hbl1:bl=2:=by omega
        subst hbc1 hbl1;clear HC2 HC1 HCUT;go_wp2_with fail
        go_meet
        case rel=>exact ⟨_,0,rfl,rfl,HC3.out.upd (Upd.refl (S:=Non)).drew (fun _ _ _ f=>f),by omega,Upd.refl.drew⟩
       ·have HC2:=HC1.out;rw [if_neg hbc1] at HC2;have HC3:=h_ HC2;clear HC2 HC1 HCUT;go_wp2_with fail
        go_meet
        case rel=>exact ⟨_,bc - 2,rfl,rfl,HC3.out.upd (Upd.refl (S:=Non)).drew (fun _ _ _ f=>f),by omega,Upd.refl.drew⟩
     ·subst e;obtain rfl:own=2:=by rw [←Hown.out];rfl
      obtain ⟨x0,x1,rest,hbe⟩:∃x0 x1 rest,b=x0::x1::rest:=by
       match b,Hbl.out,hob with
       | [],e,h=>rw [←e,List.length_nil] at h;omega
       | [a],e,h=>rw [←e,List.length_singleton] at h;omega
       | x0::x1::r,_,_=>exact ⟨x0,x1,r,rfl⟩
      rw [hbe] at Hg0 hB1;have hb1:(2:Int)≤(bl:Int):=by omega
      have hb2:(2:Int)≤(bc:Int):=by omega
      have hb3:(bl:Int)≤(bc:Int):=by omega
      have hb4:(0:Int)<(bl:Int):=by omega
      have hb5:(1:Int)<(bl:Int):=by omega
      have hb4n:0<bl:=by omega
      have hb5n:1<bl:=by omega
      have HC1:=h_ (HCUT.out 2);obtain ⟨ob,oo,rfl,_,_,y0⟩:=hB1.at_ (k:=0) (by simp [b8s]);obtain ⟨ob2,oo2,eB,_,_,y1⟩:=hB1.at_ (k:=1) (by simp [b8s]);injection eB with eB
      injection eB with eB1 eB2
      subst eB1 eB2;have y0:W.cell? ⟨ob,oo,none⟩=some (.int .u8 (bW x0)):=y0;have y1:W.cell? ⟨ob,oo+1,none⟩=some (.int .u8 (bW x1)):=y1;have hg:=Hg0.out.symm;have hx:(x0=false∧x1=false)∨(x0=false∧x1=true)∨(x0=true∧x1=false)∨(x0=true∧x1=true):=by cases x0 <;> cases x1 <;> simp
      clear hB1 Hg0 hbe;rcases hx with ⟨rfl,rfl⟩ | ⟨rfl,rfl⟩ | ⟨rfl,rfl⟩ | ⟨rfl,rfl⟩
      all_goals
       obtain rfl:=hg
       go_upto_region 19 with fail
       refine wp_region_held_drew (S:=fun w'=>w'.cell? ⟨ob,oo,none⟩=some (.int .u8 (bW _))∧w'.cell? ⟨ob,oo+1,none⟩=some (.int .u8 (bW _))) (by kernel_rfl) ⟨y0,y1⟩ (fun hHeld=>?_)
       refine wpT 0 ?_;(try simp only [y_,z_]);refine wpT 1 ?_;(try simp only [y_,z_]);refine wpT 2 ?_;(try simp only [y_,z_]);refine wpT 3 ?_;(try simp only [y_,z_]);refine wpT 4 ?_;(try simp only [y_,z_]);refine wpT 5 ?_;(try simp only [y_,z_]);refine wpT 6 ?_;(try simp only [y_,z_]);refine wpT 7 ?_;(try simp only [y_,z_]);refine aD_ (by kernel_rfl) ?_ _;clear hHeld;by_cases hbc1:bc=2
       ·have HC2:=HC1.out;rw [if_pos hbc1] at HC2;have HC3:=h_ HC2;have hbl1:bl=2:=by omega
        subst hbc1 hbl1;clear HC2 HC1 HCUT;go_wp2_with fail
        go_meet
        case rel=>exact ⟨_,0,rfl,rfl,HC3.out.upd (Upd.refl (S:=Non)).drew (fun _ _ _ f=>f),by omega,Upd.refl.drew⟩
       ·have HC2:=HC1.out;rw [if_neg hbc1] at HC2;have HC3:=h_ HC2;clear HC2 HC1 HCUT;go_wp2_with fail
        go_meet
        case rel=>exact ⟨_,bc - 2,rfl,rfl,HC3.out.upd (Upd.refl (S:=Non)).drew (fun _ _ _ f=>f),by omega,Upd.refl.drew⟩
     ·subst e;obtain rfl:own=1:=by rw [←Hown.out];rfl
      have hg:g0=true:=by rw [←Hg0.out];rfl
      subst hg;have hb1:(1:Int)≤(bl:Int):=by omega
      have hb2:(1:Int)≤(bc:Int):=by omega
      have hb3:(bl:Int)≤(bc:Int):=by omega
      have HC1:=h_ (HCUT.out 1);by_cases hbc1:bc=1
      ·have HC2:=HC1.out;rw [if_pos hbc1] at HC2;have HC3:=h_ HC2;have hbl1:bl=1:=by omega
       subst hbc1 hbl1;clear HC2 HC1 HCUT;go_wp2_with fail
       go_meet
       case rel=>exact ⟨BA,0,rfl,rfl,HC3.out,by omega,Upd.refl⟩
      ·have HC2:=HC1.out;rw [if_neg hbc1] at HC2;have HC3:=h_ HC2;clear HC2 HC1 HCUT;go_wp2_with fail
       go_meet
       case rel=>exact ⟨_,bc - 1,rfl,rfl,HC3.out,by omega,Upd.refl⟩
     ·subst e;obtain rfl:own=0:=by rw [←Hown.out];rfl
      have hg:g0=true:=by rw [←Hg0.out];rfl
      subst hg;go_wp2_with fail
      go_meet
      case rel=>exact ⟨BA,bc,by rw [Nat.sub_zero],rfl,HBW.out,by have:=HBC.out;omega,Upd.refl⟩
     ·subst e;obtain rfl:own=2:=by rw [←Hown.out];rfl
      obtain ⟨x0,x1,rest,hbe⟩:∃x0 x1 rest,b=x0::x1::rest:=by
       match b,Hbl.out,hob with
       | [],e,h=>rw [←e,List.length_nil] at h;omega
       | [a],e,h=>rw [←e,List.length_singleton] at h;omega
       | x0::x1::r,_,_=>exact ⟨x0,x1,r,rfl⟩
      rw [hbe] at Hg0 hB1;have hb1:(2:Int)≤(bl:Int):=by omega
      have hb2:(2:Int)≤(bc:Int):=by omega
      have hb3:(bl:Int)≤(bc:Int):=by omega
      have hb4:(0:Int)<(bl:Int):=by omega
      have hb5:(1:Int)<(bl:Int):=by omega
      have hb4n:0<bl:=by omega
      have hb5n:1<bl:=by omega
      have HC1:=h_ (HCUT.out 2);obtain ⟨ob,oo,rfl,_,_,y0⟩:=hB1.at_ (k:=0) (by simp [b8s]);obtain ⟨ob2,oo2,eB,_,_,y1⟩:=hB1.at_ (k:=1) (by simp [b8s]);injection eB with eB
      injection eB with eB1 eB2
      subst eB1 eB2;have y0:W.cell? ⟨ob,oo,none⟩=some (.int .u8 (bW x0)):=y0;have y1:W.cell? ⟨ob,oo+1,none⟩=some (.int .u8 (bW x1)):=y1;have hg:=Hg0.out.symm;have hx:(x0=false∧x1=false)∨(x0=false∧x1=true)∨(x0=true∧x1=false)∨(x0=true∧x1=true):=by cases x0 <;> cases x1 <;> simp
      clear hB1 Hg0 hbe;rcases hx with ⟨rfl,rfl⟩ | ⟨rfl,rfl⟩ | ⟨rfl,rfl⟩ | ⟨rfl,rfl⟩
      all_goals
       obtain rfl:=hg
       go_upto_region 19 with fail
       refine wp_region_held_drew (S:=fun w'=>w'.cell? ⟨ob,oo,none⟩=some (.int .u8 (bW _))∧w'.cell? ⟨ob,oo+1,none⟩=some (.int .u8 (bW _))) (by kernel_rfl) ⟨y0,y1⟩ (fun hHeld=>?_)
       refine wpT 0 ?_;(try simp only [y_,z_]);refine wpT 1 ?_;(try simp only [y_,z_]);refine wpT 2 ?_;(try simp only [y_,z_]);refine wpT 3 ?_;(try simp only [y_,z_]);refine wpT 4 ?_;(try simp only [y_,z_]);refine wpT 5 ?_;(try simp only [y_,z_]);refine wpT 6 ?_;(try simp only [y_,z_]);refine wpT 7 ?_;(try simp only [y_,z_]);refine aD_ (by kernel_rfl) ?_ _;clear hHeld;by_cases hbc1:bc=2
       ·have HC2:=HC1.out;rw [if_pos hbc1] at HC2;have HC3:=h_ HC2;have hbl1:bl=2:=by omega
        subst hbc1 hbl1;clear HC2 HC1 HCUT;go_wp2_with fail
        go_meet
        case rel=>exact ⟨_,0,rfl,rfl,HC3.out.upd (Upd.refl (S:=Non)).drew (fun _ _ _ f=>f),by omega,Upd.refl.drew⟩
       ·have HC2:=HC1.out;rw [if_neg hbc1] at HC2;have HC3:=h_ HC2;clear HC2 HC1 HCUT;go_wp2_with fail
        go_meet
        case rel=>exact ⟨_,bc - 2,rfl,rfl,HC3.out.upd (Upd.refl (S:=Non)).drew (fun _ _ _ f=>f),by omega,Upd.refl.drew⟩
    case rest =>
     obtain ⟨w1,rfl⟩:∃w1:World,w1=wc:=⟨_,rfl⟩;obtain ⟨BA1,bc1,rfl,rfl,HS1,hbc1,HU1⟩:=hcut;obtain ⟨k,Hk⟩:=nm p.kids.length
     have hk3:k≤3:=by
      rw [←Hk.out,HWF.out.2.2.1 (by have:=HWF.out.1;have:=HV.out;omega),Hop.out];rcases hops with e | e | e | e | e | e | e | e | e | e | e | e | e | e | e <;> rw [e] <;> decide
     have HBC1:Hid (bl - own≤bc1):=hbc1;clear c0 c1 t1 tv hbc1 hops;go_wp2_with fail
     go_loopg [1,6,7] k (fun gg s1 s6 s7 wr=>∃(j:Nat) (BA2:Option Addr) (bc2 n2:Nat) (ok2:Bool),Hid (gg=k - j)∧j≤k∧s1=.slice BA2 n2 bc2∧s6=.bool ok2∧s7=.int .i64 j∧Hid (n2=bl - (own+bL (selK op p.kids j)))∧n2≤bl∧Hid (ok2=(g0&&(gRL (selK op p.kids j) (b.drop own)).1))∧Hid (Sl wr F BA2 (b8s (b.drop (own+bL (selK op p.kids j)))))∧n2≤bc2∧Hid (Upd Non W wr))
     case atStart=>exact ⟨0,BA1,bc1,bl - own,g0,rfl,by omega,rfl,rfl,rfl,by show _=_;simp [selK,bL],by omega,by show _=_;simp [selK,gRL],by show Sl _ _ _ _;have:=HS1.out;simpa [selK,bL] using this,HBC1.out,HU1.out⟩
     case round =>
      obtain ⟨j,BA2,bc2,n2,ok2,Hgg,hj,rfl,rfl,rfl,HN2,hn2,HOK,HSB,hbc2,HUr⟩:=hrel;have hbr:=HB.out.upd HUr.out (fun f=>f);have y1:wr.cell? ⟨pb,1,none⟩=some (.int .i64 op):=by rw [←Hop.out];exact hbr.cell 1
      have y4:wr.cell? ⟨pb,4,none⟩=some (.slice KA k kc):=by rw [←Hk.out];exact hbr.cell 4
      clear hbr;by_cases hlt:j<k
      ·have hjk:j<p.kids.length:=by rw [Hk.out];exact hlt
       have hjk2:(j:Int)<(k:Int):=by omega
       by_cases hsk:op=12∧j≠0
       ·obtain ⟨rfl,hj0⟩:=hsk;have tj:((j:Int)==0)=false:=by simp;omega
        have HSS:=h_ (selK_skip (kids:=p.kids) (op:=12) rfl hj0);clear hj0;go_wp2_with fail
        go_roundg (k - (j+1))
        case measure=>rw [Hgg.out];omega
        case rel=>exact ⟨j+1,BA2,bc2,n2,ok2,rfl,by omega,rfl,rfl,by go_num,by show _=_;rw [HSS.out];exact HN2.out,hn2,by show _=_;rw [HSS.out];exact HOK.out,by show Sl _ _ _ _;rw [HSS.out];exact HSB.out,hbc2,HUr.out⟩
       ·have hsk2:op≠12∨j=0:=by
         by_cases q:op=12
         ·exact .inr (by by_cases q2:j=0;exact q2;exact absurd ⟨q,q2⟩ hsk)
         ·exact .inl q
        have HSS:=h_ (selK_succ hjk hsk2);obtain ⟨kb,ko,KB,kd,eK,m0,m1,m2,m3,m4,hq⟩:=kid_at (PtK.upd HUr.out (fun _ _ _ f=>f) _ _ _ HPW.out) hjk rfl;have hmem:=List.getElem_mem hjk;have hbls:bL (selK op p.kids (j+1))≤bL p.kids:=by unfold selK;split <;> exact bL_take_le _ _
        rw [HSS.out,bL_app] at hbls;have hblq:bL [p.kids[j]]=bN p.kids[j]:=by simp [bL]
        rw [hblq] at hbls;have hbne:=HBNE.out;have hbnn:=HBN.out;have hn2e:=HN2.out;have hdl:(b.drop (own+bL (selK op p.kids j))).length=n2:=by rw [List.length_drop,Hbl.out,hn2e]
        have hv':¬0<p.v:=by have:=HV.out;omega
        have hsq:supF p.kids[j]=true:=by
         have:=HSF.out;rw [supF_op hv',Bool.and_eq_true] at this;exact List.all_eq_true.1 this.2 _ hmem
        have C1:=h_ (HI.out _ hmem wr F KB kd BA2 bc2 (b.drop (own+bL (selK op p.kids j))) hq hsq (HWF.out.2.2.2 _ hmem) HSB.out (by rw [hdl];exact hbc2) (by rw [hdl];omega) (by rw [hdl];omega))
        rw [hdl] at C1;have hgre:(gRL (selK op p.kids j) (b.drop own)).2=b.drop (own+bL (selK op p.kids j)):=by rw [gRL_rest,List.drop_drop]
        have HOK2:Hid ((ok2&&(gRP p.kids[j] (b.drop (own+bL (selK op p.kids j)))).1)=(g0&&(gRL (selK op p.kids (j+1)) (b.drop own)).1)):=by
         show _=_;rw [HSS.out,gRL_app,hgre,gRL_one,HOK.out,Bool.and_assoc]
        have HB2:Hid (bL (selK op p.kids (j+1))=bL (selK op p.kids j)+bN p.kids[j]):=by show _=_;rw [HSS.out,bL_app,hblq]
        have HDL:=h_ hdl;obtain ⟨q,Hq⟩:=nm p.kids[j];rw [Hq.out] at C1 HOK2 HB2 m0 m1 m2 m3 m4 hbls;obtain ⟨gq,Hgq⟩:=nm (gRP q (b.drop (own+bL (selK op p.kids j)))).1;rw [Hgq.out] at C1 HOK2;have hj0:(0:Int)≤(j:Int):=by omega
        subst eK;unfold pv at C1;clear hq hmem hblq hsq hdl hgre hsk hbne hbnn hn2e hbls;by_cases h12:op=12
        ·have hj00:j=0:=by rcases hsk2 with q | q;exact absurd h12 q;exact q
         have tj:((j:Int)==0)=true:=by rw [hj00];rfl
         have t12:(op==12)=true:=by rw [h12];rfl
         have t12':(op != 12)=false:=by rw [h12];rfl
         clear hj00 hsk2 h12;go_wp2_with fail
         refine C1.out.mono ?_;rintro e w4 hR;obtain ⟨BA4,bc4,rfl,hs4,hc4,u4⟩:=hR;rw [HDL.out] at hc4 ⊢;rw [List.drop_drop] at hs4;have HS4:Hid (Sl w4 F BA4 (b8s (b.drop (own+bL (selK op p.kids (j+1)))))):=by show Sl _ _ _ _;rw [HB2.out,←Nat.add_assoc];exact hs4
         have HU4:=h_ (HUr.out.then_non u4);have HN4:Hid (n2 - bN q=bl - (own+bL (selK op p.kids (j+1)))):=by show _=_;rw [HB2.out,HN2.out];omega
         obtain ⟨n4,Hn4⟩:=nm (n2 - bN q);rw [Hn4.out] at hc4 HN4 ⊢;have hn4:n4≤bl:=by rw [←Hn4.out];omega
         obtain ⟨okn,hokn⟩:∃z,(ok2&&gq)=z:=⟨_,rfl⟩;rw [hokn] at HOK2;have HOKN:=h_ hokn;clear hs4 u4 C1 hokn;cases ok2 <;> cases gq
         all_goals
          obtain rfl:=HOKN.out;go_wp2_with fail
          go_roundg (k - (j+1))
          case measure=>rw [Hgg.out];omega
          case rel=>exact ⟨j+1,BA4,bc4,n4,_,rfl,by omega,rfl,rfl,by go_num,HN4.out,hn4,HOK2.out,HS4.out,hc4,HU4.out⟩
        ·have t12:(op==12)=false:=beq_eq_false_iff_ne.2 h12;have t12':(op != 12)=true:=by simp;omega
         clear hsk2;go_wp2_with fail
         refine C1.out.mono ?_;rintro e w4 hR;obtain ⟨BA4,bc4,rfl,hs4,hc4,u4⟩:=hR;rw [HDL.out] at hc4 ⊢;rw [List.drop_drop] at hs4;have HS4:Hid (Sl w4 F BA4 (b8s (b.drop (own+bL (selK op p.kids (j+1)))))):=by show Sl _ _ _ _;rw [HB2.out,←Nat.add_assoc];exact hs4
         have HU4:=h_ (HUr.out.then_non u4);have HN4:Hid (n2 - bN q=bl - (own+bL (selK op p.kids (j+1)))):=by show _=_;rw [HB2.out,HN2.out];omega
         obtain ⟨n4,Hn4⟩:=nm (n2 - bN q);rw [Hn4.out] at hc4 HN4 ⊢;have hn4:n4≤bl:=by rw [←Hn4.out];omega
         obtain ⟨okn,hokn⟩:∃z,(ok2&&gq)=z:=⟨_,rfl⟩;rw [hokn] at HOK2;have HOKN:=h_ hokn;clear hs4 u4 C1 hokn;cases ok2 <;> cases gq
         all_goals
          obtain rfl:=HOKN.out;go_wp2_with fail
          go_roundg (k - (j+1))
          case measure=>rw [Hgg.out];omega
          case rel=>exact ⟨j+1,BA4,bc4,n4,_,rfl,by omega,rfl,rfl,by go_num,HN4.out,hn4,HOK2.out,HS4.out,hc4,HU4.out⟩
      ·obtain rfl:k=j:=by omega
       have hsl:=HSEL.out (b.drop own);rw [Hop.out,Hk.out] at hsl
       have hbs:bL (selK op p.kids k)=bL p.kids:=by
        have hv':¬0<p.v:=by have:=HV.out;omega
        have h:=(selK_all HW1.out hv' (by have:=HSF.out;rw [supF_op hv',Bool.and_eq_true] at this;exact this.1)).1;rw [Hop.out,Hk.out] at h;rw [←iL_len,h,iL_len]
       have HFIN:Hid (GrP w F b (bN p) (gRP p b).1 (.returned (.tuple #[.slice BA2 n2 bc2,.bool ok2])) wr):=by
        have h1:=HSB.out;have h2:=HN2.out;rw [hbs] at h1 h2;refine ⟨BA2,bc2,?_,?_,?_,HUW.out.then_non HUr.out⟩
        ·rw [HBNE.out,Hbl.out,←h2,HGR.out,←hsl,←HOK.out]
        ·rw [HBNE.out];exact h1
        ·rw [HBNE.out,Hbl.out,←h2];exact hbc2
       clear hsl hbs;go_wp2_with fail
       refine bodyPost_ret (results_tmp2 rfl _ _ _) rfl ?_;exact HFIN.out
theorem safe_bits {r:Rl} {b:List Bool}:safeF r b=!((gRP r.l b).1&&(gRP r.r (b.drop (bN r.l))).1&&((b.drop (bN r.l+bN r.r)).take r.conds.length).all id&&(b.drop (bN r.l+bN r.r)).getD r.conds.length false):=by
 unfold safeF;rw [gRP_rest,gRP_rest,List.drop_drop]
set_option maxRecDepth 100000 in
set_option maxHeartbeats 16000000 in
theorem rSafe_c (r:Rl) (a:RlA) (hl:supF r.l=true) (hr:supF r.r=true) (wl:WfP 64 r.l) (wr_:WfP 64 r.r) (hc6:r.conds.length≤6) (hst:stN r≤4000) {F:Nat→Prop} {w:World} {BA:Option Addr} {bc:Nat} {b:List Bool} (hb:b.length=stN r) (hkr:RlK w F r a) (hB:Sl w F BA (b8s b)) (hbc:b.length≤bc) :
  Calls Tryz.prog 43 #[rlv r a,.slice BA b.length bc] w fun e w'=>e=.returned (.bool (safeF r b))∧Upd Non w w':=by
 obtain ⟨W,HW⟩:=nm (w.alloc (.cells (rlCells r a) 27));have hU:Upd Non w W:=by rw [←HW.out];exact Upd.refl.alloc _
 obtain ⟨rb,hrb⟩:∃z,w.heap.size=z:=⟨_,rfl⟩;have hbk:Blk W rb 27 (rlCells r a):=by rw [←HW.out,←hrb];exact Blk.new _ _ _
 have e0:=HW.out;have HKR:=h_ (hkr.upd hU (fun _ _ _ f=>f));have HRB:=h_ (fun (w':World) (u:Upd Non W w')=>rl_cells (hbk.upd u (fun f=>f)));have HU:=h_ hU;have hst2:bN r.l+bN r.r+r.conds.length+1=stN r:=rfl;have C1:=h_ (rGuess_c r.l W _ a.la a.lc BA bc b HKR.out.l hl wl (hB.upd hU (fun _ _ _ f=>f)) hbc (by omega) (by omega));have HSB:=h_ (safe_bits (r:=r) (b:=b));obtain ⟨ok1,Hok1⟩:=nm (gRP r.l b).1;rw [Hok1.out] at C1 HSB;have HK2:=h_ (fun (w1:World) (u:Upd Non W w1) (BA1:Option Addr) (bc1:Nat) (hs:Sl w1 F BA1 (b8s (b.drop (bN r.l)))) (hle:b.length - bN r.l≤bc1)=>rGuess_c r.r w1 _ a.ra a.rc BA1 bc1 (b.drop (bN r.l)) (HKR.out.upd u (fun _ _ _ f=>f)).r hr wr_ hs (by rw [List.length_drop];exact hle) (by rw [List.length_drop];omega) (by rw [List.length_drop];omega))
 obtain ⟨ok2,Hok2⟩:=nm (gRP r.r (b.drop (bN r.l))).1;rw [Hok2.out] at HK2 HSB;obtain ⟨bl,Hbl⟩:=nm b.length;obtain ⟨n1,Hn1⟩:=nm (bN r.l);obtain ⟨n2,Hn2⟩:=nm (bN r.r);obtain ⟨nc,Hnc⟩:=nm r.conds.length;have HBE:Hid (n1+n2+nc+1=bl):=by show _=_;rw [←Hbl.out,hb,←hst2,Hn1.out,Hn2.out,Hnc.out]
 obtain ⟨D,HD⟩:=nm (b.drop (n1+n2));have HDL:Hid (D.length=nc+1):=by show _=_;rw [←HD.out,List.length_drop,Hbl.out];have:=HBE.out;omega
 rw [Hn1.out,Hn2.out,HD.out] at HSB;obtain ⟨c0,c1,c2,c3,c4,c5,c6,c7,c8,c9,c10,c11,c12,c13⟩:=HRB.out W Upd.refl;rw [Hbl.out] at hbc ⊢;unfold pv at C1 HK2;rw [Hbl.out,Hn1.out] at HK2;unfold GrP at C1 HK2;rw [Hbl.out,Hn1.out] at C1;simp only [List.length_drop,Hbl.out,Hn2.out] at HK2;have hst4:bl≤4000:=by rw [←Hbl.out,hb];exact hst
 have HNC:Hid (nc≤6):=by show nc≤6;rw [←Hnc.out];exact hc6
 clear hkr hU hbk hB hst hst2 hb hc6 hl hr wl wr_;unfold rlv;unfold rlCells at e0 ⊢;go_enter Tryz.func43,Tryz.ntmps43;go_wp2_with fail
 refine C1.out.mono ?_;rintro e w2 hR;obtain ⟨BA2,bc2,rfl,hs2,hc2,u2⟩:=hR;have C2:=h_ (HK2.out w2 u2 BA2 bc2 hs2 hc2);have HU2:=h_ u2;obtain ⟨d0,d1,d2,d3,d4,d5,d6,d7,d8,d9,d10,d11,d12,d13⟩:=HRB.out w2 u2;clear c0 c1 c2 c3 c4 c5 c6 c7 c8 c9 c10 c11 c12 c13 hs2 hc2 u2 e0 C1;obtain ⟨m1,Hm1⟩:=nm (bl - n1);rw [Hm1.out] at C2 ⊢;go_wp2_with fail
 refine C2.out.mono ?_;rintro e w3 hR;obtain ⟨BA3,bc3,rfl,hs3,hc3,u3⟩:=hR;rw [List.drop_drop,HD.out] at hs3;have HS3:=h_ hs3;have HU3:=h_ (HU2.out.then_non u3);have HM3:Hid (m1 - n2=nc+1):=by show _=_;rw [←Hm1.out];have:=HBE.out;omega
 rw [HM3.out] at hc3 ⊢;clear d0 d1 d2 d3 d4 d5 d6 d7 d8 d9 d10 d11 d12 d13 hs3 u3 C2;have hnc6:=HNC.out;go_wp2_with fail
 go_loopg [8] nc (fun gg s8 wr=>∃i:Nat,Hid (gg=nc - i)∧i≤nc∧s8=.int .i64 i∧Hid ((D.take i).all id=true)∧Hid (Upd Non w3 wr))
 case atStart=>exact ⟨0,rfl,by omega,rfl,by show _=_;simp,Upd.refl⟩
 case round =>
  obtain ⟨i,Hg,hi,rfl,HAl,HUr⟩:=hrel;obtain ⟨wr,rfl⟩:∃z:World,z=wr:=⟨_,rfl⟩;have HU4:=h_ (HU3.out.then_non HUr.out);obtain ⟨_,_,_,_,_,_,_,_,_,_,_,y11,_,_⟩:=HRB.out wr HU4.out;rw [Hnc.out] at y11;have hsr:=HS3.out.upd HUr.out (fun _ _ _ f=>f);have hil:i<D.length:=by have:=HDL.out;omega
  obtain ⟨ob,oo,rfl,_,_,h0⟩:=hsr.at_ (k:=i) (by rw [b8s_len];exact hil);have y0:wr.cell? ⟨ob,oo+i,none⟩=some (.int .u8 (bW D[i])):=by rw [h0];simp [b8s,b8]
  clear h0;have HTK:Hid ((D.take (i+1)).all id=D[i]):=by show _=_;rw [List.take_succ_eq_append_getElem hil,List.all_append,HAl.out];simp
  have HDI:Hid (D.getD i false=D[i]):=by show _=_;exact getD_of hil
  obtain ⟨di,Hdi⟩:=nm D[i];rw [Hdi.out] at y0 HTK HDI;clear hsr;by_cases hlt:i<nc
  ·have t1:(i:Int)<(nc:Int):=by omega
   have t2:(i:Int)<(nc:Int)+1:=by omega
   have t3:(0:Int)≤(i:Int):=by omega
   cases di with
   | false =>
    have HFIN:Hid (safeF r b=true):=by
     show _=_
     have : (D.take nc).all id=false:=by
      rw [Bool.eq_false_iff];intro h;have h2:=List.all_eq_true.1 h D[i] (List.mem_take_iff_getElem.2 ⟨i,by omega,rfl⟩);rw [Hdi.out] at h2;cases h2
     rw [HSB.out,Hnc.out,this];simp
    go_wp2_with fail
    go_ret;exact ⟨by rw [HFIN.out];rfl,HU.out.then_non HU4.out⟩
   | true =>
    go_wp2_with fail
    go_roundg (nc - (i+1))
    case measure=>rw [Hg.out];omega
    case rel=>exact ⟨i+1,rfl,by omega,by go_num,HTK.out,HUr.out⟩
  ·obtain rfl:nc=i:=by omega
   have HFIN:Hid (safeF r b=(!ok1 || !ok2 || !di)):=by
    show _=_;rw [HSB.out,Hnc.out,HAl.out,HDI.out];cases ok1 <;> cases ok2 <;> cases di <;> rfl
   obtain ⟨sf,Hsf⟩:=nm (safeF r b);rw [Hsf.out] at HFIN;have t2:(nc:Int)<(nc:Int)+1:=by omega
   have t3:(0:Int)≤(nc:Int):=by omega
   cases ok1 <;> cases ok2 <;> cases di
   all_goals
    obtain rfl:=HFIN.out;go_wp2_with fail
    go_ret;exact ⟨by rw [Hsf.out];rfl,HU.out.then_non HU4.out⟩
def tIdx:List Bool→Nat→List Nat
 | [],_=>[]
 | g::gs,a=>(if g then [a] else [])++tIdx gs (a+1)
theorem tIdx_app:∀(l m:List Bool) (a:Nat),tIdx (l++m) a=tIdx l a++tIdx m (a+l.length)
 | [],_,_=>rfl
 | g::gs,m,a=>by rw [List.cons_append,tIdx,tIdx,tIdx_app gs m,List.append_assoc,List.length_cons,Nat.add_assoc,Nat.add_comm 1]
theorem tIdx_rep:∀(n a:Nat),tIdx (List.replicate n false) a=[]
 | 0,_=>rfl
 | n+1,a=>by rw [List.replicate_succ,tIdx,tIdx_rep n];rfl
theorem tIdx_ge:∀(l:List Bool) (a:Nat),∀q∈tIdx l a,a≤q
 | [],_,q,h=>by cases h
 | g::gs,a,q,h=>by
  rw [tIdx,List.mem_append] at h;rcases h with h | h
  ·cases g with
   | false=>cases h
   | true=>simp at h;omega
  ·have:=tIdx_ge gs (a+1) q h;omega
theorem tIdx_nodup:∀(l:List Bool) (a:Nat),(tIdx l a).Nodup
 | [],_=>List.nodup_nil
 | g::gs,a=>by
  rw [tIdx,List.nodup_append];refine ⟨by cases g <;> simp,tIdx_nodup gs (a+1),fun x hx y hy e=>?_⟩;have:=tIdx_ge gs (a+1) y hy
  cases g with
  | false=>cases hx
  | true=>simp at hx;omega
theorem tIdx_frO (op:Int) (n a:Nat):tIdx (frO op n) a=if isG op then [a] else []:=by
 unfold frO
 cases isG op with
 | false=>rw [if_neg (by decide),if_neg (by decide),tIdx_rep]
 | true=>rw [if_pos rfl,if_pos rfl,tIdx,tIdx_rep];rfl
theorem tIdx_frP (p:Pt):∀a,tIdx (frP p) a=(gpos p a).map fun q=>q.2:=by
 induction p using Pt.ind with
 | h p ih =>
  intro a;rw [frP_iff,gpos_iff];by_cases hv:0<p.v
  ·rw [if_pos hv,if_pos hv];rfl
  ·rw [if_neg hv,if_neg hv,tIdx_app,tIdx_frO,frO_len,List.map_append]
   have : ∀l:List Pt,(∀q∈l,q∈p.kids)→∀a,tIdx (frL l) a=(gposL l a).map fun q=>q.2:=by
    intro l
    induction l with
    | nil=>intro _ a;rfl
    | cons q qs h=>intro hq a;rw [frL,tIdx_app,gposL,List.map_append,ih q (hq q (by simp)),frP_len,h (fun x hx=>hq x (by simp [hx]))]
   rw [this _ (fun _ h=>h)]
   congr 1
   cases isG p.op <;> rfl
def frR (r:Rl):List Bool:=frP r.l++frP r.r++List.replicate r.conds.length false++[false]
theorem frR_len (r:Rl):(frR r).length=stN r:=by unfold frR stN;simp only [List.length_append,List.length_replicate,List.length_singleton,frP_len]
theorem tIdx_frR (r:Rl):tIdx (frR r) 0=(gposR r).map fun q=>q.2:=by
 unfold frR gposR;rw [tIdx_app,tIdx_app,tIdx_app,tIdx_rep,tIdx_frP,tIdx_frP,frP_len,Nat.zero_add,List.map_append];simp [tIdx]
def xpS (i:Nat) (out:List (List Bool)):List (List Bool):=out.flatMap fun x=>[x,x.set i true]
def xpF:List Bool→Nat→List (List Bool)→List (List Bool)
 | [],_,out=>out
 | g::gs,i,out=>xpF gs (i+1) (if g then xpS i out else out)
def xpP:List Nat→List (List Bool)→List (List Bool)
 | [],out=>out
 | p::ps,out=>xpP ps (xpS p out)
theorem xpF_xpP:∀(G:List Bool) (i:Nat) (out:List (List Bool)),xpF G i out=xpP (tIdx G i) out
 | [],_,_=>rfl
 | g::gs,i,out=>by
  rw [xpF,tIdx,xpF_xpP gs];cases g <;> rfl
theorem xpF_snoc:∀(G:List Bool) (g:Bool) (i:Nat) (out:List (List Bool)),xpF (G++[g]) i out=if g then xpS (i+G.length) (xpF G i out) else xpF G i out
 | [],g,i,out=>rfl
 | h::gs,g,i,out=>by rw [List.cons_append,xpF,xpF_snoc gs g,xpF,List.length_cons,Nat.add_assoc,Nat.add_comm 1]
theorem xpS_len (i:Nat) (out:List (List Bool)):(xpS i out).length=2 * out.length:=by
 unfold xpS
 induction out with
 | nil=>rfl
 | cons x xs ih=>rw [List.flatMap_cons,List.length_append,ih];simp only [List.length_cons,List.length_nil];omega
theorem xpP_len:∀(ps:List Nat) (out:List (List Bool)),(xpP ps out).length=out.length * 2 ^ ps.length
 | [],out=>by rw [xpP,List.length_nil,Nat.pow_zero,Nat.mul_one]
 | p::ps,out=>by rw [xpP,xpP_len ps,xpS_len,List.length_cons,Nat.pow_succ];rw [Nat.mul_comm 2 out.length,Nat.mul_assoc,Nat.mul_comm 2]
theorem xpP_rows {n:Nat}:∀(ps:List Nat) (out:List (List Bool)),(∀x∈out,x.length=n)→∀x∈xpP ps out,x.length=n
 | [],_,h=>h
 | p::ps,out,h=>xpP_rows ps _ fun x hx=>by
  obtain ⟨y,hy,hx⟩:=List.mem_flatMap.1 hx;simp only [List.mem_cons,List.not_mem_nil,or_false] at hx;rcases hx with rfl | rfl
  ·exact h _ hy
  ·rw [List.length_set];exact h _ hy
def setP (g:Nat→Bool):List Nat→Nat→List Bool→List Bool
 | [],_,b=>b
 | q::qs,i,b=>setP g qs (i+1) (b.set q (g i))
theorem setG_setP (g:Nat→Bool):∀(l:List (Int×Nat)) (i:Nat) (b:List Bool),setG g l i b=setP g (l.map fun q=>q.2) i b
 | [],_,_=>rfl
 | q::qs,i,b=>by rw [setG,setG_setP g qs];rfl
theorem setP_congr {f g:Nat→Bool}:∀(ps:List Nat) (i:Nat) (b:List Bool),(∀j,i≤j→f j=g j)→setP f ps i b=setP g ps i b
 | [],_,_,_=>rfl
 | q::qs,i,b,h=>by rw [setP,setP,h i (Nat.le_refl _),setP_congr qs _ _ (fun j hj=>h j (by omega))]
theorem set_swap {b:List Bool} {p q:Nat} {x y:Bool} (h:p≠q):(b.set p x).set q y=(b.set q y).set p x:=List.set_comm _ _ h
theorem setP_swap (g:Nat→Bool) {p:Nat} {v:Bool}:∀(ps:List Nat) (i:Nat) (b:List Bool),p ∉ ps→(setP g ps i b).set p v=setP g ps i (b.set p v)
 | [],_,_,_=>rfl
 | q::qs,i,b,h=>by
  rw [List.mem_cons,not_or] at h;rw [setP,setP_swap g qs _ _ h.2,set_swap (fun e=>h.1 e.symm)];rfl
theorem setP_false {q:Nat}:∀(ps:List Nat) (i:Nat) (b:List Bool),q∈ps→(setP (fun _=>false) ps i b).set q false=setP (fun _=>false) ps i b
 | p::ps,i,b,h=>by
  rw [setP];by_cases hm:q∈ps
  ·exact setP_false ps _ _ hm
  ·rcases List.mem_cons.1 h with rfl | h
   ·rw [setP_swap _ _ _ _ hm,List.set_set]
   ·exact absurd h hm
theorem mem_xpP {x:List Bool}:∀(ps:List Nat) (i:Nat) (out:List (List Bool)),ps.Nodup→(∀y∈out,∀q∈ps,y.set q false=y)→(x∈xpP ps out↔∃g,∃y∈out,x=setP g ps i y)
 | [],i,out,_,_=>⟨fun h=>⟨fun _=>false,x,h,rfl⟩,fun ⟨_,y,h,e⟩=>by rw [e];exact h⟩
 | p::ps,i,out,hn,hz=>by
  have hp:=List.nodup_cons.1 hn
  have hin:∀y∈out,∀b:Bool,y.set p b∈xpS p out:=fun y hy b=>List.mem_flatMap.2 ⟨y,hy,by
   cases b with
   | false=>rw [hz y hy p (by simp)];simp
   | true=>simp⟩
  have hout:∀z∈xpS p out,∃y∈out,∃b:Bool,z=y.set p b:=fun z h=>by
   obtain ⟨y,hy,h⟩:=List.mem_flatMap.1 h;simp only [List.mem_cons,List.not_mem_nil,or_false] at h;rcases h with rfl | rfl
   ·exact ⟨_,hy,false,(hz _ hy p (by simp)).symm⟩
   ·exact ⟨y,hy,true,rfl⟩
  rw [xpP,mem_xpP ps (i+1) _ hp.2 (fun z h q hq=>by
   obtain ⟨y,hy,b,rfl⟩:=hout z h
   rw [set_swap (fun e=>by subst e;exact hp.1 hq),hz y hy q (by simp [hq])])]
  constructor
  ·rintro ⟨g,z,h,rfl⟩;obtain ⟨y,hy,b,rfl⟩:=hout z h;refine ⟨fun j=>if j=i then b else g j,y,hy,?_⟩;rw [setP,if_pos rfl];exact setP_congr _ _ _ fun j hj=>(if_neg (by omega)).symm
  ·rintro ⟨g,y,hy,rfl⟩;exact ⟨g,_,hin y hy (g i),rfl⟩
theorem inP_congr {f g:Nat→Bool} (p:Pt):∀i,(∀j,j<gN p→f (i+j)=g (i+j))→inP f p i=inP g p i:=by
 induction p using Pt.ind with
 | h p ih =>
  intro i h;rw [inP_iff,inP_iff];rw [gN_iff] at h;by_cases hv:0<p.v
  ·rw [if_pos hv,if_pos hv]
  ·rw [if_neg hv,if_neg hv];rw [if_neg hv] at h
   have hl:∀(l:List Pt),(∀q∈l,q∈p.kids)→∀i,(∀j,j<gL l→f (i+j)=g (i+j))→inL f l i=inL g l i:=by
    intro l
    induction l with
    | nil=>intro _ i _;rfl
    | cons q qs ihl =>
     intro hq i h;rw [gL] at h;rw [inL,inL,ih q (hq q (by simp)) i (fun j hj=>h j (by omega)),ihl (fun x hx=>hq x (by simp [hx])) (i+gN q) (fun j hj=>by have:=h (gN q+j) (by omega);rwa [←Nat.add_assoc] at this)]
   rw [hl p.kids (fun _ h=>h) _ (fun j hj=>by have:=h ((isG p.op).toNat+j) (by omega);rwa [←Nat.add_assoc] at this)]
   congr 1
   cases hg:isG p.op with
   | false=>rw [←inO_no _ hg (f i),inO_no _ hg (g i)]
   | true =>
    have:=h 0 (by rw [hg];simp;omega);rw [Nat.add_zero] at this;rw [this]
theorem initF_congr {f g:Nat→Bool} {r:Rl} (h:∀j,j<gR r→f j=g j):initF f r=initF g r:=by
 unfold gR at h;unfold initF;rw [inP_congr (g:=g) r.l 0 (fun j hj=>by rw [Nat.zero_add];exact h j (by omega)),inP_congr (g:=g) r.r (gN r.l) (fun j hj=>h _ (by omega))]
theorem initZ_false (r:Rl):initZ r=initF (fun _=>false) r:=by
 unfold initZ initF;rw [inP_const,inP_const]
def rinF (r:Rl):List (List Bool):=xpF (frR r) 0 [initZ r]
theorem rinF_len (r:Rl):(rinF r).length=2 ^ gR r:=by
 unfold rinF;rw [xpF_xpP,xpP_len,tIdx_frR,List.length_map,gposR_len,List.length_singleton,Nat.one_mul]
theorem initZ_len (r:Rl):(initZ r).length=stN r:=by rw [initZ_false,initF_len]
theorem rinF_rows (r:Rl):∀x∈rinF r,x.length=stN r:=by
 unfold rinF;rw [xpF_xpP];exact xpP_rows _ _ fun x hx=>by rw [List.mem_singleton] at hx;subst hx;exact initZ_len r
theorem mem_rinF {r:Rl} {x:List Bool}:x∈rinF r↔x∈initsF r:=by
 unfold rinF;have hz:setP (fun _=>false) (tIdx (frR r) 0) 0 (initZ r)=initZ r:=by rw [tIdx_frR,←setG_setP,setG_init,←initZ_false]
 rw [xpF_xpP,mem_xpP _ 0 _ (tIdx_nodup _ _) (fun y hy q hq=>by
  rw [List.mem_singleton] at hy;subst hy;have:=setP_false (tIdx (frR r) 0) 0 (initZ r) hq
  rwa [hz] at this)]
 unfold initsF;rw [List.mem_map];constructor
 ·rintro ⟨g,y,hy,rfl⟩;rw [List.mem_singleton] at hy;subst hy;obtain ⟨h,h1,h2⟩:=bits_num ((List.range (gR r)).map g);rw [List.length_map,List.length_range] at h1 h2;refine ⟨h,List.mem_range.2 h1,?_⟩;rw [tIdx_frR,←setG_setP,setG_init];exact initF_congr fun j hj=>by rw [h2 j hj];simp [hj]
 ·rintro ⟨h,_,rfl⟩;exact ⟨h.testBit,initZ r,by simp,by rw [tIdx_frR,←setG_setP,setG_init]⟩
end Go.Proofs.YtdbjgihnngigeaaGreat
