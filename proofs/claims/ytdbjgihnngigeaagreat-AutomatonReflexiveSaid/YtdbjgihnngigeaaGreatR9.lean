/-
  Lemmas and walks that the claim rests on, part 9 (packed by a program).
-/
import Derived.Test.YtdbjgihnngigeaaGreatR8
import Derived.Test.YtdbjgihnngigeaaGreatR6
import Derived.Test.YtdbjgihnngigeaaGreatR5
import Derived.Test.YtdbjgihnngigeaaGreatR4
import Derived.Test.YtdbjgihnngigeaaGreatR3
import Derived.Test.YtdbjgihnngigeaaGreatR2
import Derived.Test.YtdbjgihnngigeaaGreatR1
namespace Go.Proofs.YtdbjgihnngigeaaGreat
open Go.RowKit
theorem tIdx_take (G:List Bool) (j a:Nat):(tIdx (G.take j) a).length≤(tIdx G a).length:=by
 conv=>rhs;rw [←List.take_append_drop j G,tIdx_app,List.length_append]
 omega
theorem rin_take {r:Rl} (h:gR r≤6) (j:Nat) (out:List (List Bool)) (ho:out.length=1):(xpF ((frR r).take j) 0 out).length≤64:=by
 rw [xpF_xpP,xpP_len,ho,Nat.one_mul];have h1:=tIdx_take (frR r) j 0;rw [tIdx_frR,List.length_map,gposR_len] at h1;exact Nat.le_trans (Nat.pow_le_pow_right (by decide) (Nat.le_trans h1 h)) (by decide)
theorem xpS_snoc {i k:Nat} {O:List (List Bool)} (h:k<O.length):xpS i (O.take (k+1))=xpS i (O.take k)++[O[k],O[k].set i true]:=by
 unfold xpS;rw [List.take_succ_eq_append_getElem h,List.flatMap_append];simp
theorem ub_sup {r:Rl} (h:applF r=true):gR r≤6∧implF r=true:=by
 unfold applF at h;simp only [Bool.and_eq_true,decide_eq_true_eq] at h;exact ⟨h.1.2,h.1.1.1.1.1⟩
set_option maxRecDepth 100000 in
set_option maxHeartbeats 16000000 in
theorem rInitStates_c (r:Rl) (a:RlA) (F:Nat→Prop) (w:World) (hk:RlK w F r a) (hap:applF r=true) :
  Calls Tryz.prog 41 #[rlv r a] w fun e w'=>∃OA on oc,e=.returned (.slice OA on oc)∧ElO ElRow 1 85 w' (U8B w') OA on oc ((rinF r).map bbs)∧(∀i,At OA i→w.heap.size≤i)∧Upd Non w w':=by
 obtain ⟨W,HW⟩:=nm (w.alloc (.cells (rlCells r a) 27));have hU:Upd Non w W:=by rw [←HW.out];exact Upd.refl.alloc _
 obtain ⟨rb,hrb⟩:∃b,w.heap.size=b:=⟨_,rfl⟩;have hb:Blk W rb 27 (rlCells r a):=by rw [←HW.out,←hrb];exact Blk.new _ _ _
 have e0:=HW.out;have hK:=(hk.mono (G:=fun k=>k<w.heap.size) (fun _ h _=>h)).upd hU (fun _ _ _ f=>f);obtain ⟨hg6,himp⟩:=ub_sup hap;have hi:=imok_of himp;have hst:=stN_le hi;have hsup:=applF_sup hap;have hbl:bN r.l+bN r.r+r.conds.length+1=stN r:=rfl;have hBF0:BF W none 0 [] none 0 []:=⟨Own.none_,Own.none_⟩;have C1:=h_ (rInit_c r.l W _ a.la a.lc none 0 none 0 [] [] hsup.1 hi.wl hK.l (fun _ _=>⟨At.none_,At.none_⟩) hBF0 (by simp;omega) (by simp;omega))
 have HK:=h_ hK;have HU:=h_ hU;have HI:=h_ hi;have HSP:=h_ hsup;have HB:=h_ (fun (w':World) (u:Upd Non W w')=>rl_cells (hb.upd u (fun f=>f)));obtain ⟨c0,c1,c2,c3,c4,c5,c6,c7,c8,c9,c10,c11,c12,c13⟩:=HB.out W Upd.refl;simp only [List.nil_append,List.length_nil] at C1;unfold pv at C1;have HW0:Hid (w.heap.size≤W.heap.size):=hU.size;clear hk hK hU hi hsup hb hBF0 himp;unfold rlv;unfold rlCells at e0 ⊢;go_enter Tryz.func41,Tryz.ntmps41;go_wp2_with fail
 refine C1.out.mono ?_;rintro e w2 hR1;obtain ⟨A1,k1,B1,d1,rfl,hF1,hA1,hB1,hu1⟩:=hR1;have u1:Upd Non W w2:=hu1.mono (fun i _ q=>by rcases q with q | q <;> exact (At.none_ q).elim);clear c0 c1 c2 c3 c4 c5 c6 c7 c8 c9 c10 c11 c12 c13 hu1 C1;obtain ⟨c0,c1,c2,c3,c4,c5,c6,c7,c8,c9,c10,c11,c12,c13⟩:=HB.out w2 u1;have HU1:=h_ u1;have HA1:Hid (∀i,At A1 i→W.heap.size≤i):=fun i q=>(hA1 i q).elim (fun q=>(At.none_ q).elim) id
 have HB1:Hid (∀i,At B1 i→W.heap.size≤i):=fun i q=>(hB1 i q).elim (fun q=>(At.none_ q).elim) id
 have C2:=h_ (rInit_c r.r w2 _ a.ra a.rc A1 k1 B1 d1 (iP r.l) (frP r.l) HSP.out.2 HI.out.wr ((HK.out.upd u1 (fun _ _ _ f=>f)).mono (G:=fun k=>k<w.heap.size) (fun _ _ h=>h)).r (fun i h=>by
  have h0:=HW0.out
  exact ⟨fun q=>by have:=HA1.out i q;omega,fun q=>by have:=HB1.out i q;omega⟩) hF1 (by rw [iP_len];omega) (by rw [frP_len];omega))
 unfold pv at C2;obtain ⟨n1,Hn1⟩:=nm (iP r.l).length;obtain ⟨g1,Hg1⟩:=nm (frP r.l).length;rw [Hn1.out,Hg1.out] at C2;rw [Hn1.out,Hg1.out];clear hF1 hA1 hB1 u1;go_wp2_with fail
 refine C2.out.mono ?_;rintro e w3 hR2;obtain ⟨A2,k2,B2,d2,rfl,hF2,hA2,hB2,hu2⟩:=hR2
 have u2:Upd Non W w3:=HU1.out.trans hu2 (fun i hi q=>by
  rcases q with q | q
  ·have:=HA1.out i q;omega
  ·have:=HB1.out i q;omega)
 have HA2:Hid (∀i,At A2 i→W.heap.size≤i):=fun i q=>by
  have:=HU1.out.size;rcases hA2 i q with q | q
  ·exact HA1.out i q
  ·omega
 have HB2:Hid (∀i,At B2 i→W.heap.size≤i):=fun i q=>by
  have:=HU1.out.size;rcases hB2 i q with q | q
  ·exact HB1.out i q
  ·omega
 have HU2:=h_ u2;have HF2:=h_ hF2;clear c0 c1 c2 c3 c4 c5 c6 c7 c8 c9 c10 c11 c12 c13 hF2 hA2 hB2 hu2 u2 C2;obtain ⟨N0,HN0⟩:=nm (iP r.l++iP r.r);obtain ⟨G0,HG0⟩:=nm (frP r.l++frP r.r);rw [HN0.out,HG0.out] at HF2;rw [HN0.out,HG0.out];have HN0L:Hid (N0.length=bN r.l+bN r.r):=by show _=_;rw [←HN0.out,List.length_append,iP_len,iP_len]
 have HG0L:Hid (G0.length=bN r.l+bN r.r):=by show _=_;rw [←HG0.out,List.length_append,frP_len,frP_len]
 obtain ⟨CA,hCA⟩:∃x,a.ca=x:=⟨_,rfl⟩;have HCV:Hid (CondsV W (fun k=>k<w.heap.size) CA r.conds):=by rw [←hCA];exact HK.out.c
 obtain ⟨nc,Hnc⟩:=nm r.conds.length;have hnc6:nc≤6:=by rw [←Hnc.out];exact HI.out.cn
 have HC11:Hid (∀w',Upd Non W w'→w'.cell? ⟨rb,11,none⟩=some (.slice CA nc a.cc)):=fun w' u=>by
  obtain ⟨_,_,_,_,_,_,_,_,_,_,_,h,_,_⟩:=HB.out w' u;rw [hCA,Hnc.out] at h;exact h
 rw [Hnc.out] at hbl;have HBL:=h_ hbl;clear hCA hbl;go_wp2_with fail
 go_loopg [3,4,5] nc (fun gg s3 s4 i wr=>∃(j:Nat) (A3:Option Addr) (k3:Nat) (B3:Option Addr) (d3:Nat) (N1 G1:List Bool),Hid (gg=nc - j)∧j≤nc∧s3=.slice A3 N1.length k3∧s4=.slice B3 G1.length d3∧i=.int .i64 j ∧
  Hid (N1=N0++(r.conds.take j).map cdIn)∧Hid (G1=G0++List.replicate j false)∧Hid (BF wr A3 k3 N1 B3 d3 G1)∧Hid (∀i,At A3 i→W.heap.size≤i)∧Hid (∀i,At B3 i→W.heap.size≤i)∧Hid (Upd Non W wr))
 case atStart=>exact ⟨0,A2,k2,B2,d2,N0,G0,rfl,by omega,rfl,rfl,rfl,by show _=_;simp,by show _=_;simp,HF2.out,HA2.out,HB2.out,HU2.out⟩
 case round =>
  obtain ⟨j,A3,k3,B3,d3,N1,G1,Hgg,hj,rfl,rfl,rfl,HN1,HG1,HF3,HA3,HB3,HU3⟩:=hrel;have y11:=HC11.out wr HU3.out;have hbl:=HBL.out;have hn1e:N1.length=bN r.l+bN r.r+j:=by rw [HN1.out,List.length_append,HN0L.out,List.length_map,List.length_take,Hnc.out];omega
  have hg1e:G1.length=bN r.l+bN r.r+j:=by rw [HG1.out,List.length_append,HG0L.out,List.length_replicate]
  obtain ⟨n1,Hn1⟩:=nm N1.length;obtain ⟨g1,Hg1⟩:=nm G1.length;have hn1l:n1≤4000:=by rw [←Hn1.out];omega
  have hg1l:g1≤4000:=by rw [←Hg1.out];omega
  have HN1E:=h_ hn1e;have HG1E:=h_ hg1e;clear hbl hn1e hg1e;rw [Hn1.out,Hg1.out];have hA:=HF3.out.1;have hB:=HF3.out.2;rw [Hn1.out] at hA;rw [Hg1.out] at hB;by_cases hlt:j<nc
  ·have hjl:j<r.conds.length:=by rw [Hnc.out];exact hlt
   obtain ⟨b,o,rfl,_,hbw,q0,q1,q2,q3⟩:=(HCV.out.upd HU3.out (fun _ _ _ f=>f)).at_ hjl;have htk:=List.take_succ_eq_append_getElem hjl;obtain ⟨kind,Hkind⟩:=nm r.conds[j].kind;rw [Hkind.out] at q0;have hjn:(j:Int)<(nc:Int):=by omega
   have hj0:(0:Int)≤(j:Int):=by omega
   by_cases h2:kind=2
   ·have hcd:cdIn r.conds[j]=true:=by unfold cdIn;rw [Hkind.out];simp [h2]
    subst h2
    go_wp2_with (at_builtin;refine wpList_app rfl rfl T_u8s rfl (hA.alloc _) rfl (Sl.new _ _ _) rfl (by simp [Value.oneCell']) (by simp only [maxLen];omega) (by omega) ?_)
    intro A4 k4 w4 ho4 hu4 hat4;have hB4:=(hB.alloc _).upd hu4 (fun k hk hA'=>own_two HF3.out.1 HF3.out.2 k hA' hk)
    go_wp2_with (at_builtin;refine wpList_app rfl rfl T_bls rfl (hB4.alloc _) rfl (Sl.new _ _ _) rfl (by simp [Value.oneCell']) (by simp only [maxLen];omega) (by omega) ?_)
    intro B5 d5 w5 ho5 hu5 hat5;obtain ⟨A6,k6,B6,d6,e6,e7,HF6,HA6,HB6,HU6⟩:=BF.step (o:=[cdIn r.conds[j]]) (f:=[false]) HF3.out Hn1.out Hg1.out rfl rfl (Upd.refl.alloc _) (by rw [hcd];exact ho4) hu4 (fun k q=>(hat4 k q).imp id (fun z=>by rw [z];simp)) (Upd.refl.alloc _) ho5 hu5 (fun k q=>(hat5 k q).imp id (fun z=>by rw [z];simp))
    have e6:Value.slice A4 (n1+1) k4=.slice A6 (N1++[cdIn r.conds[j]]).length k6:=e6;have e7:Value.slice B5 (g1+1) d5=.slice B6 (G1++[false]).length d6:=e7;have HF7:=h_ HF6
    have HU7:Hid (Upd Non W w5):=HU3.out.trans HU6 (fun i hi q=>by
     rcases q with q | q
     ·have:=HA3.out i q;omega
     ·have:=HB3.out i q;omega)
    have hsz:=HU3.out.size
    have HA7:Hid (∀i,At A6 i→W.heap.size≤i):=fun i q=>by
     rcases HA6 i q with q | q
     ·exact HA3.out i q
     ·omega
    have HB7:Hid (∀i,At B6 i→W.heap.size≤i):=fun i q=>by
     rcases HB6 i q with q | q
     ·exact HB3.out i q
     ·omega
    have HN7:Hid (N1++[cdIn r.conds[j]]=N0++(r.conds.take (j+1)).map cdIn):=by show _=_;rw [htk,List.map_append,HN1.out,List.append_assoc];rfl
    have HG7:Hid (G1++[false]=G0++List.replicate (j+1) false):=by show _=_;rw [HG1.out,List.append_assoc,List.replicate_succ']
    clear ho4 hu4 hat4 ho5 hu5 hat5 hB4 HF6 HA6 HB6 HU6 hsz;rw [e6,e7];go_wp2_with fail
    go_roundg (nc - (j+1))
    case measure=>rw [Hgg.out];omega
    case rel=>exact ⟨j+1,A6,k6,B6,d6,_,_,rfl,by omega,rfl,rfl,by go_num,HN7.out,HG7.out,HF7.out,HA7.out,HB7.out,HU7.out⟩
   ·by_cases h3:kind=3
    ·have hcd:cdIn r.conds[j]=true:=by unfold cdIn;rw [Hkind.out];simp [h3]
     subst h3
     go_wp2_with (at_builtin;refine wpList_app rfl rfl T_u8s rfl (hA.alloc _) rfl (Sl.new _ _ _) rfl (by simp [Value.oneCell']) (by simp only [maxLen];omega) (by omega) ?_)
     intro A4 k4 w4 ho4 hu4 hat4;have hB4:=(hB.alloc _).upd hu4 (fun k hk hA'=>own_two HF3.out.1 HF3.out.2 k hA' hk)
     go_wp2_with (at_builtin;refine wpList_app rfl rfl T_bls rfl (hB4.alloc _) rfl (Sl.new _ _ _) rfl (by simp [Value.oneCell']) (by simp only [maxLen];omega) (by omega) ?_)
     intro B5 d5 w5 ho5 hu5 hat5;obtain ⟨A6,k6,B6,d6,e6,e7,HF6,HA6,HB6,HU6⟩:=BF.step (o:=[cdIn r.conds[j]]) (f:=[false]) HF3.out Hn1.out Hg1.out rfl rfl (Upd.refl.alloc _) (by rw [hcd];exact ho4) hu4 (fun k q=>(hat4 k q).imp id (fun z=>by rw [z];simp)) (Upd.refl.alloc _) ho5 hu5 (fun k q=>(hat5 k q).imp id (fun z=>by rw [z];simp))
     have e6:Value.slice A4 (n1+1) k4=.slice A6 (N1++[cdIn r.conds[j]]).length k6:=e6;have e7:Value.slice B5 (g1+1) d5=.slice B6 (G1++[false]).length d6:=e7;have HF7:=h_ HF6
     have HU7:Hid (Upd Non W w5):=HU3.out.trans HU6 (fun i hi q=>by
      rcases q with q | q
      ·have:=HA3.out i q;omega
      ·have:=HB3.out i q;omega)
     have hsz:=HU3.out.size
     have HA7:Hid (∀i,At A6 i→W.heap.size≤i):=fun i q=>by
      rcases HA6 i q with q | q
      ·exact HA3.out i q
      ·omega
     have HB7:Hid (∀i,At B6 i→W.heap.size≤i):=fun i q=>by
      rcases HB6 i q with q | q
      ·exact HB3.out i q
      ·omega
     have HN7:Hid (N1++[cdIn r.conds[j]]=N0++(r.conds.take (j+1)).map cdIn):=by show _=_;rw [htk,List.map_append,HN1.out,List.append_assoc];rfl
     have HG7:Hid (G1++[false]=G0++List.replicate (j+1) false):=by show _=_;rw [HG1.out,List.append_assoc,List.replicate_succ']
     clear ho4 hu4 hat4 ho5 hu5 hat5 hB4 HF6 HA6 HB6 HU6 hsz;rw [e6,e7];go_wp2_with fail
     go_roundg (nc - (j+1))
     case measure=>rw [Hgg.out];omega
     case rel=>exact ⟨j+1,A6,k6,B6,d6,_,_,rfl,by omega,rfl,rfl,by go_num,HN7.out,HG7.out,HF7.out,HA7.out,HB7.out,HU7.out⟩
    ·have hcd:cdIn r.conds[j]=false:=by unfold cdIn;rw [Hkind.out];simp [h2,h3]
     have t2:(kind==2)=false:=beq_eq_false_iff_ne.2 h2;have t3:(kind==3)=false:=beq_eq_false_iff_ne.2 h3
     go_wp2_with (at_builtin;refine wpList_app rfl rfl T_u8s rfl (hA.alloc _) rfl (Sl.new _ _ _) rfl (by simp [Value.oneCell']) (by simp only [maxLen];omega) (by omega) ?_)
     intro A4 k4 w4 ho4 hu4 hat4;have hB4:=(hB.alloc _).upd hu4 (fun k hk hA'=>own_two HF3.out.1 HF3.out.2 k hA' hk)
     go_wp2_with (at_builtin;refine wpList_app rfl rfl T_bls rfl (hB4.alloc _) rfl (Sl.new _ _ _) rfl (by simp [Value.oneCell']) (by simp only [maxLen];omega) (by omega) ?_)
     intro B5 d5 w5 ho5 hu5 hat5;obtain ⟨A6,k6,B6,d6,e6,e7,HF6,HA6,HB6,HU6⟩:=BF.step (o:=[cdIn r.conds[j]]) (f:=[false]) HF3.out Hn1.out Hg1.out rfl rfl (Upd.refl.alloc _) (by rw [hcd];exact ho4) hu4 (fun k q=>(hat4 k q).imp id (fun z=>by rw [z];simp)) (Upd.refl.alloc _) ho5 hu5 (fun k q=>(hat5 k q).imp id (fun z=>by rw [z];simp))
     have e6:Value.slice A4 (n1+1) k4=.slice A6 (N1++[cdIn r.conds[j]]).length k6:=e6;have e7:Value.slice B5 (g1+1) d5=.slice B6 (G1++[false]).length d6:=e7;have HF7:=h_ HF6
     have HU7:Hid (Upd Non W w5):=HU3.out.trans HU6 (fun i hi q=>by
      rcases q with q | q
      ·have:=HA3.out i q;omega
      ·have:=HB3.out i q;omega)
     have hsz:=HU3.out.size
     have HA7:Hid (∀i,At A6 i→W.heap.size≤i):=fun i q=>by
      rcases HA6 i q with q | q
      ·exact HA3.out i q
      ·omega
     have HB7:Hid (∀i,At B6 i→W.heap.size≤i):=fun i q=>by
      rcases HB6 i q with q | q
      ·exact HB3.out i q
      ·omega
     have HN7:Hid (N1++[cdIn r.conds[j]]=N0++(r.conds.take (j+1)).map cdIn):=by show _=_;rw [htk,List.map_append,HN1.out,List.append_assoc];rfl
     have HG7:Hid (G1++[false]=G0++List.replicate (j+1) false):=by show _=_;rw [HG1.out,List.append_assoc,List.replicate_succ']
     clear ho4 hu4 hat4 ho5 hu5 hat5 hB4 HF6 HA6 HB6 HU6 hsz;rw [e6,e7];go_wp2_with fail
     go_roundg (nc - (j+1))
     case measure=>rw [Hgg.out];omega
     case rel=>exact ⟨j+1,A6,k6,B6,d6,_,_,rfl,by omega,rfl,rfl,by go_num,HN7.out,HG7.out,HF7.out,HA7.out,HB7.out,HU7.out⟩
  ·obtain rfl:nc=j:=by omega
   go_wp2_with (at_builtin;refine wpList_app rfl rfl T_u8s rfl (hA.alloc _) rfl (Sl.new _ _ _) rfl (by simp [Value.oneCell']) (by simp only [maxLen];omega) (by omega) ?_)
   intro A4 k4 w4 ho4 hu4 hat4;have hB4:=(hB.alloc _).upd hu4 (fun k hk hA'=>own_two HF3.out.1 HF3.out.2 k hA' hk)
   go_wp2_with (at_builtin;refine wpList_app rfl rfl T_bls rfl (hB4.alloc _) rfl (Sl.new _ _ _) rfl (by simp [Value.oneCell']) (by simp only [maxLen];omega) (by omega) ?_)
   intro B5 d5 w5 ho5 hu5 hat5;obtain ⟨A6,k6,B6,d6,e6,e7,HF6,HA6,HB6,HU6⟩:=BF.step (o:=[false]) (f:=[false]) HF3.out Hn1.out Hg1.out rfl rfl (Upd.refl.alloc _) ho4 hu4 (fun k q=>(hat4 k q).imp id (fun z=>by rw [z];simp)) (Upd.refl.alloc _) ho5 hu5 (fun k q=>(hat5 k q).imp id (fun z=>by rw [z];simp))
   have e6:Value.slice A4 (n1+1) k4=.slice A6 (N1++[false]).length k6:=e6;have e7:Value.slice B5 (g1+1) d5=.slice B6 (G1++[false]).length d6:=e7
   have HU7:Hid (Upd Non W w5):=HU3.out.trans HU6 (fun i hi q=>by
    rcases q with q | q
    ·have:=HA3.out i q;omega
    ·have:=HB3.out i q;omega)
   have hsz:=HU3.out.size
   have HA7:Hid (∀i,At A6 i→W.heap.size≤i):=fun i q=>by
    rcases HA6 i q with q | q
    ·exact HA3.out i q
    ·omega
   have HB7:Hid (∀i,At B6 i→W.heap.size≤i):=fun i q=>by
    rcases HB6 i q with q | q
    ·exact HB3.out i q
    ·omega
   have HN7:Hid (N1++[false]=initZ r):=by show _=_;rw [HN1.out,List.take_of_length_le (by rw [Hnc.out];exact Nat.le_refl _),←HN0.out];unfold initZ;rfl
   have HG7:Hid (G1++[false]=frR r):=by show _=_;rw [HG1.out,←HG0.out];unfold frR;rw [Hnc.out]
   rw [HN7.out,HG7.out] at HF6;rw [HN7.out] at e6;rw [HG7.out] at e7;have HF7:=h_ HF6;clear ho4 hu4 hat4 ho5 hu5 hat5 hB4 HF6 HA6 HB6 HU6 hsz;rw [e6,e7];have hzl:=initZ_len r;have hfl:=frR_len r;obtain ⟨sn,Hsn⟩:=nm (stN r);obtain ⟨Z,HZ⟩:=nm (initZ r);obtain ⟨Fr,HFr⟩:=nm (frR r);rw [HZ.out,HFr.out] at HF7;rw [HZ.out,Hsn.out] at hzl;rw [HFr.out,Hsn.out] at hfl;rw [HZ.out,HFr.out];have HZL:=h_ hzl;have HFL:=h_ hfl;obtain ⟨qb,rfl⟩:=HF7.out.1.some_ (by rw [hzl,←Hsn.out,←HBL.out];omega);obtain ⟨fb,rfl⟩:=HF7.out.2.some_ (by rw [hfl,←Hsn.out,←HBL.out];omega);rw [hzl,hfl];rw [Hsn.out] at hst;have hs0:0<sn:=by rw [←Hsn.out,←HBL.out];omega
   obtain ⟨W6,HW6⟩:=nm (w5.alloc (.cells #[.slice (some ⟨qb,0,none⟩) sn k6] 85));have u6:Upd Non w5 W6:=by rw [←HW6.out];exact Upd.refl.alloc _
   have hO0:ElO ElRow 1 85 W6 (U8B W6) (some ⟨w5.heap.size,0,none⟩) 1 1 ((xpF (Fr.take 0) 0 [Z]).map bbs):=by
    have h1:Own W6 85 1 (some ⟨w5.heap.size,0,none⟩) 1 1 [.slice (some ⟨qb,0,none⟩) sn k6]:=by rw [←HW6.out];exact own_one _ _ _
    have h2:=HF7.out.1.upd u6 (fun _ _ f=>f);rw [hzl] at h2;refine ⟨rfl,_,h1,?_⟩;refine (ElCells.nil.snoc elRow (elRow_of h2 hzl ⟨own_u8 h2,fun q=>?_⟩));rw [At.some_] at q;exact h1.ne_blk (own_u8 h2).choose_spec (by decide) (At.some_.2 q)
   have hFO:=HF7.out.2.upd u6 (fun _ _ f=>f);rw [hfl] at hFO;have HFO:=h_ hFO;have HO0:=h_ hO0;have HU6:=h_ (HU7.out.then_non u6);have HS6:Hid (w5.heap.size<W6.heap.size):=hO0.lt (At.some_.2 rfl);have HWS:Hid (W.heap.size≤w5.heap.size):=HU7.out.size;clear hzl hfl u6 hO0 hFO
   go_upto_region 14 with fail
   rw [HW6.out];obtain ⟨ob,hob⟩:∃b,w5.heap.size=b:=⟨_,rfl⟩;rw [hob] at HO0 HS6 HWS;rw [hob];obtain ⟨B6,hB6⟩:∃b,W6.heap.size=b:=⟨_,rfl⟩;have HB6:=h_ hB6
   have HROW:Hid (∀j,∀y∈xpF (Fr.take j) 0 [Z],y.length=sn):=fun j=>by
    rw [xpF_xpP];exact xpP_rows _ _ fun y hy=>by rw [List.mem_singleton] at hy;subst hy;exact HZL.out
   have HGR:Hid (∀j,(xpF (Fr.take j) 0 [Z]).length≤64):=fun j=>by rw [←HFr.out];exact rin_take hg6 j _ rfl
   clear hob hB6;go_wp2_with fail
   go_loopg [7,8] sn (fun gg s7 s8 wr=>∃(j:Nat) (OA:Option Addr) (on oc:Nat),Hid (gg=sn - j)∧j≤sn∧s7=.slice OA on oc∧s8=.int .i64 j∧Hid (ElO ElRow 1 85 wr (U8B wr) OA on oc ((xpF (Fr.take j) 0 [Z]).map bbs))∧Hid (∀i,At OA i→ob≤i)∧Hid (Upd Non W6 wr))
   case atStart=>exact ⟨0,some ⟨ob,0,none⟩,1,1,rfl,by omega,rfl,rfl,HO0.out,fun i q=>by rw [At.some_] at q;omega,Upd.refl⟩
   case round =>
    obtain ⟨j,OA,on,oc,Hg2,hj2,rfl,rfl,HO,HAO,HUr⟩:=hrel;by_cases hjs:j<sn
    ·have hjn2:(j:Int)<(sn:Int):=by omega
     have hjf:j<Fr.length:=by rw [HFL.out];exact hjs
     have hfj:wr.cell? ⟨fb,j,none⟩=some (.bool Fr[j]):=by
      have h1:=(HFO.out.upd HUr.out (fun _ _ f=>f)).cell_ (i:=j) (by rw [bls_len];exact hjf);rw [h1];simp [bls]
     have htk2:=List.take_succ_eq_append_getElem hjf
     have hex:xpF (Fr.take (j+1)) 0 [Z]=if Fr[j] then xpS j (xpF (Fr.take j) 0 [Z]) else xpF (Fr.take j) 0 [Z]:=by
      rw [htk2,xpF_snoc,List.length_take,Nat.zero_add,Nat.min_eq_left (by omega)]
     have hj0:(0:Int)≤(j:Int):=by omega
     have hgr:=HGR.out j;have hgr2:=HGR.out (j+1);obtain ⟨O,HOO⟩:=nm (xpF (Fr.take j) 0 [Z]);rw [HOO.out] at HO hex hgr;obtain ⟨fr,Hfr⟩:=nm Fr[j];rw [Hfr.out] at hfj hex;have HEX:=h_ hex;clear hex htk2 hjf Hfr
     cases fr with
     | false =>
      have HO2:Hid (ElO ElRow 1 85 wr (U8B wr) OA on oc ((xpF (Fr.take (j+1)) 0 [Z]).map bbs)):=by rw [HEX.out];exact HO.out
      clear hgr hgr2;go_wp2_with fail
      go_roundg (sn - (j+1))
      case measure=>rw [Hg2.out];omega
      case rel=>exact ⟨j+1,OA,on,oc,rfl,by omega,rfl,by go_num,HO2.out,HAO.out,HUr.out⟩
     | true =>
      have HE2:Hid (xpF (Fr.take (j+1)) 0 [Z]=xpS j O):=HEX.out;have hon:on=O.length:=by rw [HO.out.1,List.length_map]
      have HON:=h_ hon;have hon64:on≤64:=by omega
      have HSW:Hid (ob≤wr.heap.size):=by have h1:=HUr.out.size;have h2:=HS6.out;show ob≤_;omega
      obtain ⟨wj,rfl⟩:∃x:World,x=wr:=⟨_,rfl⟩;clear hon hgr hgr2 HEX;go_wp2_with fail
      go_loopg [9,10] on (fun gg s9 s10 wr=>∃(k:Nat) (NA:Option Addr) (nn nc2:Nat),Hid (gg=on - k)∧k≤on∧s9=.slice NA nn nc2∧s10=.int .i64 k∧Hid (ElO ElRow 1 85 wr (U8B wr) NA nn nc2 ((xpS j (O.take k)).map bbs))∧Hid (∀i,At NA i→wj.heap.size≤i)∧Hid (Upd Non wj wr))
      case atStart=>exact ⟨0,none,0,0,rfl,by omega,rfl,rfl,by rw [List.take_zero];exact ElO.none_,fun i q=>(At.none_ q).elim,Upd.refl⟩
      case round =>
       obtain ⟨k,NA,nn,nc2,Hg3,hk3,rfl,rfl,HN,HAN,HUk⟩:=hrel;obtain ⟨wk,rfl⟩:∃x:World,x=wr:=⟨_,rfl⟩;by_cases hks:k<on
       ·have hkn:(k:Int)<(on:Int):=by omega
        have hkO:k<O.length:=by rw [←HON.out];exact hks
        have HOk:=h_ (HO.out.u8 elRow HUk.out (fun _ _ f=>f) (fun _ _ _ f=>f));obtain ⟨g,RA,rc,rfl,hcell,hrc,hsl⟩:=rows_at HOk.out (i:=k) (by rw [List.length_map];exact hkO);obtain ⟨x,Hx⟩:=nm O[k]
        have hxl:x.length=sn:=by
         rw [←Hx.out];refine HROW.out j _ ?_;rw [HOO.out];exact List.getElem_mem hkO
        have hrow:(O.map bbs)[k]'(by rw [List.length_map];exact hkO)=bbs x:=by rw [List.getElem_map,Hx.out]
        rw [hrow] at hcell hrc hsl;have hbl2:(bbs x).length=sn:=by unfold bbs;rw [List.length_map,hxl]
        rw [hbl2] at hcell hrc;have HSL:=h_ (hsl.mono (G:=fun i=>U8B wk i) (fun _ _ q=>q.1));have HX2:Hid (xpS j (O.take (k+1))=xpS j (O.take k)++[x,x.set j true]):=by show _=_;rw [xpS_snoc hkO,Hx.out]
        have HXL:=h_ hxl;have HBL2:=h_ hbl2;have hgl:g<wk.heap.size:=HOk.out.lt (At.some_.2 rfl);have hk0:(0:Int)≤(k:Int):=by omega
        obtain ⟨W7,HW7⟩:=nm (wk.alloc (.cells #[] 5));have u7:Upd Non wk W7:=by rw [←HW7.out];exact Upd.refl.alloc _
        have hoE:Own W7 5 1 (some ⟨wk.heap.size,0,none⟩) 0 0 []:=by rw [←HW7.out];exact own_empty _ _ _
        have hs7:=HSL.out.upd u7 (fun _ _ _ f=>f);clear hrow hsl hxl hbl2
        go_wp2_with (at_builtin;rw [HW7.out];refine wpList_app rfl rfl T_u8s rfl hoE rfl hs7 (by unfold u8s;rw [List.length_map,HBL2.out,Nat.mul_one]) (by intro u hu;unfold u8s at hu;obtain ⟨z,_,rfl⟩:=List.mem_map.1 hu;rfl) (by simp only [maxLen];omega) (by omega) ?_)
        intro A8 c8 w8 ho8 hu8 hat8;obtain ⟨cb,rfl⟩:=ho8.some_ hs0;have u8:Upd Non wk w8:=u7.trans hu8 (fun i hi q=>by rw [At.some_] at q;omega)
        have hcbW:wk.heap.size≤cb:=by
         rcases hat8 cb (At.some_.2 rfl) with q | q
         ·rw [At.some_] at q;omega
         ·have:=u7.size;omega
        have ho8b:Own w8 5 1 (some ⟨cb,0,none⟩) sn c8 (b8s x):=by rw [b8s_u8s];exact ho8
        obtain ⟨W9,HW9⟩:=nm (w8.setCell ⟨cb,j,none⟩ (.int .u8 1));have ho9:Own W9 5 1 (some ⟨cb,0,none⟩) sn c8 (b8s (x.set j true)):=by rw [←HW9.out,←b8s_set];exact ho8b.set_ j _
        have u9:Upd Non wk W9:=by rw [←HW9.out];exact u8.trans (updCell w8 cb j _) (fun i hi e=>by omega)
        have hcj:=ho8b.cell_ (i:=j) (by rw [b8s_len,HXL.out];exact hjs);have hfj2:=ho8b.frozen_ j;have hc9:=u_ (S:=Non) hcell u9 (fun f=>f);obtain ⟨hnn,csn,hoN,hCN⟩:=HN.out;have hoN9:=hoN.upd u9 (fun _ _ f=>f);have hg9:g<W9.heap.size:=Nat.lt_of_lt_of_le hgl u9.size
        have hnnb:nn≤128:=by
         rw [hnn,List.length_map,xpS_len,List.length_take,←HON.out];omega
        have HNN:=h_ hnn;have HHN:=h_ (And.intro hoN hCN);have HO9:=h_ ho9;have HU9:=h_ u9;have HCB:=h_ hcbW;clear ho8 hu8 hat8 u8 hoE hs7 u7 hcell hgl ho8b hnn hoN hCN ho9 hcbW
        go_upto_region 24 with fail
        rw [HW9.out];clear hcj hfj2 u9
        go_wp2_with (at_builtin;refine wpList_app rfl rfl T_rows rfl (hoN9.alloc _) rfl (Sl.new _ _ _) rfl (by simp [Value.oneCell']) (by simp only [maxLen];omega) (by omega) ?_)
        intro A10 c10 w10 ho10 hu10 hat10
        have HN10:Hid (ElO ElRow 1 85 w10 (U8B w10) A10 (nn+2) c10 ((xpS j (O.take (k+1))).map bbs)):=by
         obtain ⟨hoN,hCN⟩:=HHN.out;have hal:Upd Non wk (W9.alloc (.cells #[.slice RA sn rc,.slice (some ⟨cb,0,none⟩) sn c8] 85)):=HU9.out.alloc _
         have h1:ElRow (W9.alloc (.cells #[.slice RA sn rc,.slice (some ⟨cb,0,none⟩) sn c8] 85)) (fun i=>U8B (W9.alloc (.cells #[.slice RA sn rc,.slice (some ⟨cb,0,none⟩) sn c8] 85)) i∧¬At NA i) [.slice RA sn rc] (bbs x):=by
          refine ⟨RA,rc,by rw [HBL2.out],by rw [HBL2.out];exact hrc,?_⟩;refine (HSL.out.mono (G:=fun i=>U8B wk i∧¬At NA i) (fun i _ q=>⟨q,by obtain ⟨z,hb⟩:=q;exact hoN.ne_blk hb (by decide)⟩)).upd hal (fun _ _ _ f=>f) |>.mono (fun i _ q=>⟨q.1.upd hal (fun f=>f),q.2⟩)
         have ho9a:=HO9.out.alloc (.cells #[.slice RA sn rc,.slice (some ⟨cb,0,none⟩) sn c8] 85);have h2:=elRow_of (K:=fun i=>U8B (W9.alloc (.cells #[.slice RA sn rc,.slice (some ⟨cb,0,none⟩) sn c8] 85)) i∧¬At NA i) ho9a (by rw [List.length_set,HXL.out]) ⟨own_u8 ho9a,fun q=>by have h3:=hoN.lt q;have h4:=HCB.out;omega⟩
         rw [HX2.out,List.map_append];exact ElO.apps8 (w:=W9.alloc (.cells #[.slice RA sn rc,.slice (some ⟨cb,0,none⟩) sn c8] 85)) elRow HNN.out hCN hal ((ElCells.nil.snoc elRow h1).snoc elRow h2) rfl ho10 hu10 (fun i q=>(hat10 i q).imp id (fun z=>by rw [z];simp))
        have HA10:Hid (∀i,At A10 i→wj.heap.size≤i):=fun i q=>by
         have h1:=HUk.out.size;have h2:=HU9.out.size;rcases hat10 i q with q | q
         ·exact HAN.out i q
         ·omega
        have HU10:Hid (Upd Non wj w10):=(HUk.out.then_non (HU9.out.alloc _)).trans hu10 (fun i hi q=>by have:=HAN.out i q;omega);clear ho10 hu10 hat10 hoN9;go_wp2_with fail
        go_roundg (on - (k+1))
        case measure=>rw [Hg3.out];omega
        case rel=>exact ⟨k+1,A10,nn+2,c10,rfl,by omega,rfl,by go_num,HN10.out,HA10.out,HU10.out⟩
       ·obtain rfl:on=k:=by omega
        have HN2:Hid (ElO ElRow 1 85 wk (U8B wk) NA nn nc2 ((xpF (Fr.take (j+1)) 0 [Z]).map bbs)):=by
         have h:=HN.out;rw [List.take_of_length_le (by rw [←HON.out];exact Nat.le_refl _),←HE2.out] at h;exact h
        have HAN2:Hid (∀i,At NA i→ob≤i):=fun i q=>by have h1:=HAN.out i q;have h2:=HSW.out;omega
        go_wp2_with fail
        go_roundg (sn - (j+1))
        case measure=>rw [Hg2.out];omega
        case rel=>exact ⟨j+1,NA,nn,nc2,rfl,by omega,rfl,by go_num,HN2.out,HAN2.out,HUr.out.then_non HUk.out⟩
    ·obtain rfl:sn=j:=by omega
     have HFIN:Hid (ElO ElRow 1 85 wr (U8B wr) OA on oc ((rinF r).map bbs)):=by
      have h:=HO.out;rw [List.take_of_length_le (by rw [HFL.out];exact Nat.le_refl _)] at h;unfold rinF;rw [HFr.out,HZ.out];exact h
     go_wp2_with fail
     go_ret;exact ⟨OA,on,oc,rfl,HFIN.out,fun i q=>by have h1:=HAO.out i q;have h2:=HWS.out;have h3:=HW0.out;omega,HU.out.then_non (HU6.out.then_non HUr.out)⟩
def VoP (p:Pt):Prop:=∀q∈nodes p,0<q.v→q.op=0
theorem VoP.kid {p k:Pt} (h:VoP p) (hk:k∈p.kids):VoP k:=fun q hq=>h q (by
 cases p
 simp only [nodes,List.mem_cons]
 exact .inr (nodesL_mem hk hq))
theorem vo_of_vPt (p:Pt):∀(s m:Int) (vs:List Int),(vPt p s m vs).1=true→VoP p:=by
 induction p using Pt.ind with
 | h p ih =>
  intro s m vs h q hq hv;by_cases hp:p.v=0
  ·rw [vPt_op hp] at h
   split at h
   ·have hl:∀(ks:List Pt) (ss:List Int) (us:List Int),us.length=vs.length→(∀k∈ks,k∈p.kids)→(vKids ks ss m us).1=true→∀k∈ks,VoP k:=by
     intro ks
     induction ks with
     | nil=>intro ss us _ _ _ k hk;simp at hk
     | cons k ks ihk =>
      intro ss us hu hm hk;simp only [vKids] at hk
      split at hk
      ·rename_i hk1;intro k' hk';rcases List.mem_cons.1 hk' with rfl | hk'
       ·exact ih _ (hm _ (by simp)) _ _ _ hk1
       ·exact ihk _ _ (by rw [vPt_len];exact hu) (fun x hx=>hm x (by simp [hx])) hk k' hk'
      ·exact absurd hk (by simp)
    have hk:=hl _ _ _ rfl (fun k hk=>hk) h
    have hn:q=p∨q∈nodesL p.kids:=by
     obtain ⟨v,op,imm,iv,kids⟩:=p;rw [nodes,List.mem_cons] at hq;exact hq
    rcases hn with rfl | hn
    ·omega
    ·have : ∀l:List Pt,(∀k∈l,k∈p.kids)→q∈nodesL l→q.op=0:=by
      intro l
      induction l with
      | nil=>intro _ hq;simp [nodesL] at hq
      | cons k ks ihl =>
       intro hk2 hq;rw [nodesL,List.mem_append] at hq;rcases hq with hq | hq
       ·exact hk k (hk2 k (by simp)) q hq hv
       ·exact ihl (fun x hx=>hk2 x (by simp [hx])) hq
     exact this _ (fun _ h=>h) hn
   ·simp at h
  ·rw [vPt_var hp] at h
   split at h
   ·simp at h
   ·rename_i hc;have h0:p.kids=[]:=List.length_eq_zero_iff.1 (by omega)
    have hn:q=p∨q∈nodesL p.kids:=by
     obtain ⟨v,op,imm,iv,kids⟩:=p;rw [nodes,List.mem_cons] at hq;exact hq
    rw [h0] at hn;rcases hn with rfl | hn
    ·omega
    ·simp [nodesL] at hn
theorem applF_vo {r:Rl} (h:implF r=true):VoP r.l∧VoP r.r:=by
 unfold implF at h;simp only [Bool.and_eq_true,decide_eq_true_eq] at h;obtain ⟨⟨⟨⟨⟨_,hl⟩,hr⟩,_⟩,_⟩,_⟩:=h;unfold validF at hl hr;rw [Bool.and_eq_true] at hl hr;exact ⟨vo_of_vPt _ _ _ _ hl.2,vo_of_vPt _ _ _ _ hr.2⟩
theorem gL_snoc (q:Pt):∀l:List Pt,gL (l++[q])=gL l+gN q
 | []=>by simp [gL]
 | x::l=>by rw [List.cons_append,gL,gL,gL_snoc q l];omega
def spR (p:Pt):Ending:=.returned (.tuple #[.int .i64 (if supF p=true then (gN p:Int) else 0),.bool (supF p)])
theorem spR_no {p:Pt} (h:supF p=false):spR p=.returned (.tuple #[.int .i64 0,.bool false]):=by unfold spR;rw [h];rfl
theorem spR_yes {p:Pt} {n:Nat} (h:supF p=true) (hn:n=gN p):spR p=.returned (.tuple #[.int .i64 (n:Int),.bool true]):=by unfold spR;rw [h,hn];rfl
theorem rGuesses_c (op:Int) (w:World):Calls Tryz.prog 61 #[.int .i64 op] w fun e w'=>e=.returned (.int .i64 ((isG op).toNat:Int))∧w=w':=by
 by_cases h:15≤op∧op≤19∨op=22
 ·have hg:isG op=true:=dT_ h;rw [hg];rcases (show op=15∨op=16∨op=17∨op=18∨op=19∨op=22 by omega) with rfl | rfl | rfl | rfl | rfl | rfl <;>
  ·go_enter Tryz.func61,Tryz.ntmps61;go_wp2_with fail
   go_ret;exact ⟨rfl,rfl⟩
 ·have hg:isG op=false:=dF_ h;rw [hg];have h22:(op==22)=false:=beq_eq_false_iff_ne.2 (by omega);by_cases h15:15≤op
  ·have t1:decide (op ≥ 15)=true:=dT_ h15;have t2:decide (op≤19)=false:=dF_ (by omega);clear h h15;go_enter Tryz.func61,Tryz.ntmps61;go_wp2_with fail
   go_ret;exact ⟨rfl,rfl⟩
  ·have t1:decide (op ≥ 15)=false:=dF_ h15;clear h h15;go_enter Tryz.func61,Tryz.ntmps61;go_wp2_with fail
   go_ret;exact ⟨rfl,rfl⟩
set_option maxRecDepth 100000 in
set_option maxHeartbeats 16000000 in
theorem rSupported_c (m:Nat) (p:Pt):∀(w:World) (F:Nat→Prop) (KA:Option Addr) (kc:Nat),PtK w F p KA kc→WfP m p→VoP p→p.size≤1000000000000 →
  Calls Tryz.prog 31 #[pv p KA kc] w fun e w'=>e=spR p∧Upd Non w w':=by
 induction p using Pt.ind with
 | h p ih =>
  intro w F KA kc hp hw hvo hs;rw [WfP.iff] at hw;have hle:=Pt.len_le p.kids;have hse:=Pt.size_eq p;have hn12:p.kids.length≤1000000000000:=by omega
  have HI:=h_ ih;obtain ⟨W,HW⟩:=nm (w.alloc (.cells #[.int .i64 p.v,.int .i64 p.op,.int .i64 p.imm,.int .i64 p.iv,.slice KA p.kids.length kc] 24));have hU:Upd Non w W:=by rw [←HW.out];exact Upd.refl.alloc _
  have hb:Blk W w.heap.size 24 #[.int .i64 p.v,.int .i64 p.op,.int .i64 p.imm,.int .i64 p.iv,.slice KA p.kids.length kc]:=by rw [←HW.out];exact Blk.new _ _ _
  have e0:=HW.out;have c0:=hb.cell 0;have c1:=hb.cell 1;have c4:=hb.cell 4;have hpW:=PtK.upd hU (fun _ _ _ f=>f) p KA kc hp;have HS:=h_ hse;have HWF:=h_ hw.2.2.2;have HAR:=h_ hw.2.2.1;have HVO:=h_ hvo;have hv0:=hw.1;have hgl:gL p.kids≤1000000000000:=by have:=gL_le p.kids (fun k _=>gN_le k);omega
  have HGL:=h_ hgl;unfold pv;clear ih hse hp hw hle hvo hgl;by_cases hv:0<p.v
  ·have t0:decide (p.v > 0)=true:=dT_ hv;have HR:Hid (supF p=true):=supF_var hv;have HG:Hid (0=gN p):=by show _=_;rw [gN_iff,if_pos hv]
   go_enter Tryz.func31,Tryz.ntmps31;go_wp2_with fail
   go_ret2;exact ⟨(spR_yes HR.out HG.out).symm,hU⟩
  ·have t0:decide (p.v > 0)=false:=dF_ hv;have HR:Hid (supF p=(supO p.op p.kids&&p.kids.all supF)):=supF_op hv;have HGN:Hid (gN p=(isG p.op).toNat+gL p.kids):=by show _=_;rw [gN_iff,if_neg hv]
   have har:Hid (p.kids.length=(oSortsF p.op).1.length):=HAR.out (by omega);clear HAR hv;by_cases h1:p.op=1
   ·have hk0:p.kids=[]:=List.length_eq_zero_iff.1 (by rw [har.out,h1];rfl);have HR:Hid (supF p=true):=by show _=_;rw [HR.out,hk0,h1];rfl
    have HG:Hid (0=gN p):=by show _=_;rw [HGN.out,hk0,h1];rfl
    rw [h1] at c1 e0;rw [h1];clear hk0 har h1;go_enter Tryz.func31,Tryz.ntmps31;go_wp2_with fail
    go_ret2;exact ⟨(spR_yes HR.out HG.out).symm,hU⟩
   ·by_cases hop:p.op=4∨p.op=5∨p.op=9∨p.op=10∨p.op=11∨p.op=20∨p.op=21∨p.op=15∨p.op=16∨p.op=17∨p.op=18∨p.op=19∨p.op=22
    ·have HR:Hid (supF p=p.kids.all supF):=by
      show _=_;rw [HR.out,show supO p.op p.kids=true by unfold supO;exact dT_ (by omega)];rfl
     obtain ⟨n,Hn⟩:=nm p.kids.length;rw [Hn.out] at c4 e0 hn12;obtain ⟨op,Hop⟩:=nm p.op;rw [Hop.out] at c1 e0 hop HGN;rw [Hn.out,Hop.out];have CG:=h_ (rGuesses_c op);obtain ⟨gi,Hgi⟩:=nm (isG op).toNat;rw [Hgi.out] at HGN CG;have hgi:gi≤1:=by rw [←Hgi.out];cases isG op <;> simp
     clear har Hop h1 Hgi;go_enter Tryz.func31,Tryz.ntmps31
     go_upto_block 0 with fail
     go_cut [] (fun wx=>wx=W)
     case first =>
      rcases hop with h | h | h | h | h | h | h | h | h | h | h | h | h
      all_goals
       subst h;go_wp2_with fail
       go_meet
       case rel=>rfl
     case rest =>
      rw [hcut];clear hcut;go_wp2_with fail
      refine (CG.out _).mono ?_;rintro e wz ⟨rfl,hwz⟩;subst hwz;go_wp2_with fail
      go_loopg [4,5] n (fun g s4 i wr=>∃k s:Nat,Hid (g=n - k)∧k≤n∧s4=.int .i64 (s:Int)∧i=.int .i64 k∧Hid ((p.kids.take k).all supF=true)∧Hid (s=gi+gL (p.kids.take k))∧Upd Non W wr)
      case atStart=>exact ⟨0,gi,rfl,by omega,rfl,rfl,rfl,by rw [List.take_zero];rfl,Upd.refl⟩
      case round =>
       obtain ⟨k,s,Hg,hk,rfl,rfl,HT,HSum,hu⟩:=hrel
       have hsb:s≤1000000000001:=by
        have h1:=HSum.out
        have h2:gL (p.kids.take k)≤gL p.kids:=by
         conv=>rhs;rw [←List.take_append_drop k p.kids]
         generalize p.kids.take k=l1;generalize p.kids.drop k=l2
         induction l1 with
         | nil=>exact Nat.zero_le _
         | cons x l ih=>rw [List.cons_append,gL,gL];omega
        have h3:=HGL.out;omega
       have c4r:=u_ c4 hu (fun f=>f);by_cases hlt:k<n
       ·have hkl:k<p.kids.length:=by rw [Hn.out];exact hlt
        obtain ⟨b,o,eKA,hF,hbw,KB,kd,h0,h1,h2,h3,h4,h5⟩:=(PtK.upd hu (fun _ _ _ f=>f) p _ kc hpW).at_ hkl
        first | subst eKA | (injection eKA with eKA;injection eKA with eK1 eK2;subst eK1 eK2)
        have hks:p.kids[k].size≤1000000000000:=by have:=Pt.kids_lt (List.getElem_mem hkl);omega
        have hmem:=List.getElem_mem hkl;have hgq:=gN_le p.kids[k];have HT2:Hid (supF p.kids[k]=true→(p.kids.take (k+1)).all supF=true):=fun e=>by rw [List.take_succ_eq_append_getElem hkl,List.all_append,HT.out];simp [e]
        have HF2:Hid (supF p.kids[k]=false→p.kids.all supF=false):=fun e=>by
         rw [Bool.eq_false_iff];intro q;rw [List.all_eq_true] at q;rw [q _ hmem] at e;cases e
        have HS2:Hid (s+gN p.kids[k]=gi+gL (p.kids.take (k+1))):=by show _=_;rw [List.take_succ_eq_append_getElem hkl,gL_snoc,HSum.out];omega
        have hk0:(0:Int)≤(k:Int):=by omega
        have hkn:(k:Int)<(n:Int):=by omega
        generalize p.kids[k]=q at *;have C1:=h_ (HI.out q hmem wr F KB kd h5 (HWF.out q hmem) (HVO.out.kid hmem) hks);obtain ⟨gq,Hgq⟩:=nm (gN q);rw [Hgq.out] at HS2 hgq;have hgqb:gq≤1000000000000:=by omega
        unfold pv at C1;clear h5 hmem hgq hks
        cases hsq:supF q with
        | false =>
         rw [spR_no hsq] at C1;have HF3:=h_ (HF2.out hsq);clear hsq HT2 HF2;go_wp2_with fail
         refine C1.out.mono ?_;rintro e w4 ⟨rfl,hu4⟩;go_wp2_with fail
         go_ret2;exact ⟨(spR_no (by rw [HR.out,HF3.out])).symm,hU.then_non (hu.then_non hu4)⟩
        | true =>
         rw [spR_yes hsq Hgq.out.symm] at C1;have HT3:=h_ (HT2.out hsq);clear hsq HT2 HF2;go_wp2_with fail
         refine C1.out.mono ?_;rintro e w4 ⟨rfl,hu4⟩;go_wp2_with fail
         go_roundg (n - (k+1))
         case measure=>rw [Hg.out];omega
         case rel=>exact ⟨k+1,s+gq,rfl,by omega,by go_num,by go_num,HT3.out,HS2.out,hu.then_non hu4⟩
       ·obtain rfl:n=k:=by omega
        have HA:Hid (p.kids.all supF=true):=by have:=HT.out;rw [List.take_of_length_le (by rw [Hn.out];omega)] at this;exact this
        have HSE:Hid (s=gN p):=by show _=_;rw [HSum.out,List.take_of_length_le (by rw [Hn.out];omega),HGN.out]
        go_wp2_with fail
        go_ret2;exact ⟨(spR_yes (by rw [HR.out,HA.out]) HSE.out).symm,hU.then_non hu⟩
    ·by_cases h12:p.op=12
     ·have hlen:Hid (p.kids.length=2):=by have:=har.out;rw [h12] at this;exact this
      obtain ⟨k0,k1,ek⟩:∃k0 k1,p.kids=[k0,k1]:=by
       match p.kids,hlen.out with
       | [x,y],_=>exact ⟨x,y,rfl⟩
      have e1:supO 12 [k0,k1]=(decide (k1.op=1)&&decide ((k1.imm % 64).toNat≤8)):=by
       unfold supO;rw [Bool.eq_iff_iff];simp [kid]
      have HSO:Hid (supO p.op p.kids=(decide (k1.op=1)&&decide ((k1.imm % 64).toNat≤8))):=by show _=_;rw [h12,ek,e1]
      have hA:=hpW.at_ (i:=1) (by rw [hlen.out];decide);obtain ⟨b',o',eb,_,_,KB',kd',g0,g1,g2,g3,g4,g5⟩:=hA;have q1:p.kids[1]'(by rw [hlen.out];decide)=k1:=by simp [ek]
      rw [q1] at g0 g1 g2 g3 g4 g5
      have hv1:k1.op=1→¬0<k1.v:=fun e q=>by
       have:=HVO.out k1 (by
        obtain ⟨v,op,imm,iv,kids⟩:=p;rw [nodes,List.mem_cons]
        exact .inr (nodesL_mem (show k1∈kids by rw [show kids=[k0,k1] from ek];simp) (nodes_self k1))) q
       omega
      have ha:=and63 k1.imm;obtain ⟨mm,Hm⟩:=nm (k1.imm % 64).toNat;rw [Hm.out] at ha HSO;rw [h12] at c1 e0 HGN HR HSO;obtain ⟨n,Hn⟩:=nm p.kids.length;have hn2:=hlen.out;rw [Hn.out] at c4 e0 hn12 hn2;rw [Hn.out,h12];have hn2':(1:Int)<(n:Int):=by omega
      clear g5 har q1 hop g3 g4 h12 h1 Hm hn2 e1;by_cases h1:k1.op=1
      ·have hz1:k1.v=0:=by
        have h2:=hv1 h1;have h3:=((WfP.iff m k1).1 (HWF.out k1 (by rw [ek];simp))).1;omega
       rw [hz1] at g0;rw [h1] at g1;by_cases h8:mm≤8
       ·have t8:decide ((mm:Int) > 8)=false:=dF_ (by omega);have HR:Hid (supF p=p.kids.all supF):=by show _=_;rw [HR.out,HSO.out,dT_ h1,dT_ h8];rfl
        have CG:=h_ (rGuesses_c 12);obtain ⟨gi,Hgi⟩:=nm (isG 12).toNat;rw [Hgi.out] at HGN CG;have hgi:gi≤1:=by rw [←Hgi.out];decide
        clear h1 hv1 h8 hz1 ek;subst eb;go_enter Tryz.func31,Tryz.ntmps31;go_wp2_with fail
        refine (CG.out _).mono ?_;rintro e wz ⟨rfl,hwz⟩;subst hwz;clear g0 g1 g2;go_wp2_with fail
        go_loopg [4,5] n (fun g s4 i wr=>∃k s:Nat,Hid (g=n - k)∧k≤n∧s4=.int .i64 (s:Int)∧i=.int .i64 k∧Hid ((p.kids.take k).all supF=true)∧Hid (s=gi+gL (p.kids.take k))∧Upd Non W wr)
        case atStart=>exact ⟨0,gi,rfl,by omega,rfl,rfl,rfl,by rw [List.take_zero];rfl,Upd.refl⟩
        case round =>
         obtain ⟨k,s,Hg,hk,rfl,rfl,HT,HSum,hu⟩:=hrel
         have hsb:s≤1000000000001:=by
          have h1:=HSum.out
          have h2:gL (p.kids.take k)≤gL p.kids:=by
           conv=>rhs;rw [←List.take_append_drop k p.kids]
           generalize p.kids.take k=l1;generalize p.kids.drop k=l2
           induction l1 with
           | nil=>exact Nat.zero_le _
           | cons x l ih=>rw [List.cons_append,gL,gL];omega
          have h3:=HGL.out;omega
         have c4r:=u_ c4 hu (fun f=>f);by_cases hlt:k<n
         ·have hkl:k<p.kids.length:=by rw [Hn.out];exact hlt
          obtain ⟨b,o,eKA,hF,hbw,KB,kd,h0,h1,h2,h3,h4,h5⟩:=(PtK.upd hu (fun _ _ _ f=>f) p _ kc hpW).at_ hkl
          first | subst eKA | (injection eKA with eKA;injection eKA with eK1 eK2;subst eK1 eK2)
          have hks:p.kids[k].size≤1000000000000:=by have:=Pt.kids_lt (List.getElem_mem hkl);omega
          have hmem:=List.getElem_mem hkl;have hgq:=gN_le p.kids[k];have HT2:Hid (supF p.kids[k]=true→(p.kids.take (k+1)).all supF=true):=fun e=>by rw [List.take_succ_eq_append_getElem hkl,List.all_append,HT.out];simp [e]
          have HF2:Hid (supF p.kids[k]=false→p.kids.all supF=false):=fun e=>by
           rw [Bool.eq_false_iff];intro q;rw [List.all_eq_true] at q;rw [q _ hmem] at e;cases e
          have HS2:Hid (s+gN p.kids[k]=gi+gL (p.kids.take (k+1))):=by show _=_;rw [List.take_succ_eq_append_getElem hkl,gL_snoc,HSum.out];omega
          have hk0:(0:Int)≤(k:Int):=by omega
          have hkn:(k:Int)<(n:Int):=by omega
          generalize p.kids[k]=q at *;have C1:=h_ (HI.out q hmem wr F KB kd h5 (HWF.out q hmem) (HVO.out.kid hmem) hks);obtain ⟨gq,Hgq⟩:=nm (gN q);rw [Hgq.out] at HS2 hgq;have hgqb:gq≤1000000000000:=by omega
          unfold pv at C1;clear h5 hmem hgq hks
          cases hsq:supF q with
          | false =>
           rw [spR_no hsq] at C1;have HF3:=h_ (HF2.out hsq);clear hsq HT2 HF2;go_wp2_with fail
           refine C1.out.mono ?_;rintro e w4 ⟨rfl,hu4⟩;go_wp2_with fail
           go_ret2;exact ⟨(spR_no (by rw [HR.out,HF3.out])).symm,hU.then_non (hu.then_non hu4)⟩
          | true =>
           rw [spR_yes hsq Hgq.out.symm] at C1;have HT3:=h_ (HT2.out hsq);clear hsq HT2 HF2;go_wp2_with fail
           refine C1.out.mono ?_;rintro e w4 ⟨rfl,hu4⟩;go_wp2_with fail
           go_roundg (n - (k+1))
           case measure=>rw [Hg.out];omega
           case rel=>exact ⟨k+1,s+gq,rfl,by omega,by go_num,by go_num,HT3.out,HS2.out,hu.then_non hu4⟩
         ·obtain rfl:n=k:=by omega
          have HA:Hid (p.kids.all supF=true):=by have:=HT.out;rw [List.take_of_length_le (by rw [Hn.out];omega)] at this;exact this
          have HSE:Hid (s=gN p):=by show _=_;rw [HSum.out,List.take_of_length_le (by rw [Hn.out];omega),HGN.out]
          go_wp2_with fail
          go_ret2;exact ⟨(spR_yes (by rw [HR.out,HA.out]) HSE.out).symm,hU.then_non hu⟩
       ·have t8:decide ((mm:Int) > 8)=true:=dT_ (by omega);have HSO2:Hid (supO 12 p.kids=false):=by show _=_;rw [HSO.out,dT_ h1,dF_ h8];rfl
        clear h1 hv1 h8 hz1 ek;subst eb;have HF:Hid (supF p=false):=by show _=_;rw [HR.out,HSO2.out];rfl
        go_enter Tryz.func31,Tryz.ntmps31;go_wp2_with fail
        go_ret2;exact ⟨(spR_no HF.out).symm,hU⟩
      ·have t1:(k1.op==1)=false:=by simpa using h1
       obtain ⟨o1,Ho1⟩:=nm k1.op;have HSO2:Hid (supO 12 p.kids=false):=by show _=_;rw [HSO.out,dF_ h1];rfl
       rw [Ho1.out] at g1 t1 h1;clear hv1 ek;subst eb;have HF:Hid (supF p=false):=by show _=_;rw [HR.out,HSO2.out];rfl
       go_enter Tryz.func31,Tryz.ntmps31;go_wp2_with fail
       go_ret2;exact ⟨(spR_no HF.out).symm,hU⟩
     ·have HR:Hid (supF p=false):=by
       show _=_;rw [HR.out,show supO p.op p.kids=false by unfold supO;exact dF_ (by omega)];rfl
      clear har hn12;obtain ⟨op,Hop⟩:=nm p.op;rw [Hop.out] at c1 e0 hop h12 h1;rw [Hop.out];clear Hop;obtain ⟨a2,a3,a4,a5,a6,a7,a8,a9,a10,a11,a12,a13,a14⟩:(op==4)=false∧(op==5)=false∧(op==9)=false∧(op==10)=false∧(op==11)=false∧(op==20)=false∧(op==21)=false∧(op==15)=false∧(op==16)=false∧(op==17)=false∧(op==18)=false∧(op==19)=false∧(op==22)=false:=by simp;omega
      have a1:(op==1)=false:=by simpa using h1
      have a15:(op==12)=false:=by simpa using h12
      clear hop h12 h1;go_enter Tryz.func31,Tryz.ntmps31;go_wp2_with fail
      go_ret2;exact ⟨(spR_no HR.out).symm,hU⟩
def BBlk (w:World) (g:Nat) (bs:List Bool):Prop:=Blk w g 4 (bs.map Value.bool).toArray
theorem BBlk.cell {w:World} {g:Nat} {bs:List Bool} (h:BBlk w g bs) {i:Nat} (hi:i<bs.length):w.cell? ⟨g,i,none⟩=some (.bool (bs.getD i false)):=by
 rw [Blk.cell h];simp [List.getD,hi]
theorem BBlk.set_ {w:World} {g:Nat} {bs:List Bool} (h:BBlk w g bs) (i:Nat) (x:Bool):BBlk (w.setCell ⟨g,i,none⟩ (.bool x)) g (bs.set i x):=by
 have:=Blk.set_ h i (.bool x);unfold BBlk;rw [show ((bs.set i x).map Value.bool).toArray=(bs.map Value.bool).toArray.setIfInBounds i (.bool x) by simp [List.map_set]];exact this
theorem BBlk.new (w:World) (n:Nat):BBlk (w.alloc (.cells (Array.replicate n (.bool false)) 4)) w.heap.size (List.replicate n false):=by
 unfold BBlk;rw [show ((List.replicate n false).map Value.bool).toArray=Array.replicate n (.bool false) by simp];exact Blk.new _ _ _
def mk1 (x:Int) (bs:List Bool):List Bool:=if 0<x∧x<(bs.length:Int) then bs.set x.toNat true else bs
theorem mk1_len (x:Int) (bs:List Bool):(mk1 x bs).length=bs.length:=by
 unfold mk1;split <;> simp
theorem markV_node (p:Pt) (bs:List Bool):markV (nodes p) bs=markV (nodesL p.kids) (mk1 p.v bs):=by rw [nodes_eq];rfl
theorem markI_node (p:Pt) (bs:List Bool):markI (nodes p) bs=markI (nodesL p.kids) (mk1 p.iv bs):=by rw [nodes_eq];rfl
theorem markV_len (l:List Pt):∀bs:List Bool,(markV l bs).length=bs.length:=by
 induction l with
 | nil=>intro bs;rfl
 | cons p l ih=>intro bs;show (markV l (mk1 p.v bs)).length=_;rw [ih,mk1_len]
theorem markI_len (l:List Pt):∀bs:List Bool,(markI l bs).length=bs.length:=by
 induction l with
 | nil=>intro bs;rfl
 | cons p l ih=>intro bs;show (markI l (mk1 p.iv bs)).length=_;rw [ih,mk1_len]
theorem markV_app (a b:List Pt) (bs:List Bool):markV (a++b) bs=markV b (markV a bs):=by unfold markV;rw [List.foldl_append]
theorem markI_app (a b:List Pt) (bs:List Bool):markI (a++b) bs=markI b (markI a bs):=by unfold markI;rw [List.foldl_append]
set_option maxRecDepth 100000 in
set_option maxHeartbeats 4000000 in
theorem r15occurring_c (p:Pt):∀(w:World) (F:Nat→Prop) (KA:Option Addr) (kc gv c gi d:Nat) (bs cs:List Bool),PtK w F p KA kc→¬F gv→¬F gi→gv≠gi→BBlk w gv bs→BBlk w gi cs→p.size≤1000000000000 →
  Calls Tryz.prog 59 #[pv p KA kc,.slice (some ⟨gv,0,none⟩) bs.length c,.slice (some ⟨gi,0,none⟩) cs.length d] w fun e w'=>e=.returned (.tuple #[])∧BBlk w' gv (markV (nodes p) bs)∧BBlk w' gi (markI (nodes p) cs)∧Upd (fun k=>k=gv∨k=gi) w w':=by
 induction p using Pt.ind with
 | h p ih =>
  intro w F KA kc gv c gi d bs cs hp hFv hFi hne hgv hgi hs;have HI:=h_ ih;obtain ⟨W,HW⟩:=nm (w.alloc (.cells #[.int .i64 p.v,.int .i64 p.op,.int .i64 p.imm,.int .i64 p.iv,.slice KA p.kids.length kc] 24));have hU:Upd Non w W:=by rw [←HW.out];exact Upd.refl.alloc _
  have hb:Blk W w.heap.size 24 #[.int .i64 p.v,.int .i64 p.op,.int .i64 p.imm,.int .i64 p.iv,.slice KA p.kids.length kc]:=by rw [←HW.out];exact Blk.new _ _ _
  have e0:=HW.out;have hvlt:gv<w.heap.size:=Blk.lt hgv;have hilt:gi<w.heap.size:=Blk.lt hgi;have hgv:BBlk W gv bs:=Blk.upd hgv hU (fun f=>f);have hgi:BBlk W gi cs:=Blk.upd hgi hU (fun f=>f);have hp:=PtK.upd hU (fun _ _ _ f=>f) p KA kc hp;have HZ:=h_ (fun (k:Pt) (h:k∈p.kids)=>Nat.le_trans (Nat.le_of_lt (Pt.kids_lt h)) hs);have hkl:p.kids.length≤1000000000000:=by have h1:=Pt.len_le p.kids;have h2:=Pt.size_eq p;omega
  rw [markV_node,markI_node];have c0:=hb.cell 0;have h2U:Upd (fun k=>k=gv∨k=gi) w W:=hU.mono (fun _ _ f=>f.elim);unfold pv;obtain ⟨v,Hv⟩:=nm p.v;obtain ⟨op,Hop⟩:=nm p.op;obtain ⟨imm,Him⟩:=nm p.imm;obtain ⟨iv,Hiv⟩:=nm p.iv;obtain ⟨k,Hk⟩:=nm p.kids.length;rw [Hv.out] at c0 e0 hb;rw [Hop.out] at e0 hb;rw [Him.out] at e0 hb;rw [Hiv.out] at e0 hb;rw [Hk.out] at e0 hb hkl;rw [Hv.out,Hop.out,Him.out,Hiv.out,Hk.out];obtain ⟨vn,Hvn⟩:=nm bs.length;obtain ⟨mn,Hmn⟩:=nm cs.length;rw [Hvn.out,Hmn.out];have hLV:=mk1_len v bs;have hLI:=mk1_len iv cs;obtain ⟨bs1,Hbs1⟩:=nm (mk1 v bs);obtain ⟨cs1,Hcs1⟩:=nm (mk1 iv cs);rw [Hvn.out,Hbs1.out] at hLV;rw [Hmn.out,Hcs1.out] at hLI;have HLV:=h_ hLV;have HLI:=h_ hLI;rw [Hbs1.out,Hcs1.out];clear ih hs hLV hLI;go_enter Tryz.func59,Tryz.ntmps59;obtain ⟨b1,f1⟩:∃b,decide (0<v)=b:=⟨_,rfl⟩;obtain ⟨b2,f2⟩:∃b,decide (v<(vn:Int))=b:=⟨_,rfl⟩;have F1:=h_ f1;have F2:=h_ f2
  go_upto_region 1 with fail
  go_cut [16] (fun t wx=>t=.bool (b1&&b2)∧wx=W)
  case first =>
   cases b1 with
   | false=>go_wp2_with fail;go_meet;exact ⟨rfl,rfl⟩
   | true=>cases b2 <;> (go_wp2_with fail;go_meet;exact ⟨rfl,rfl⟩)
  case rest =>
   obtain ⟨rfl,ew⟩:=hcut;obtain rfl:W=_:=ew.symm;clear f1 f2
   go_upto_if 16 with fail
   go_cut [] (fun wx=>BBlk wx gv bs1∧Upd (·=gv) W wx)
   case first =>
    cases hT:(b1&&b2) with
    | true =>
     have hb1:b1=true:=by revert hT;cases b1 <;> simp
     have hb2:b2=true:=by revert hT;cases b2 <;> simp
     have h1:0<v:=of_decide_eq_true (by rw [F1.out,hb1]);have h2:v<(vn:Int):=of_decide_eq_true (by rw [F2.out,hb2]);obtain ⟨j,rfl⟩:∃j:Nat,v=(j:Int):=Int.eq_ofNat_of_zero_le (by omega);have hj:j<bs.length:=by rw [Hvn.out];omega
     have hz:=BBlk.cell hgv hj;have hfr:=Blk.frozen hgv;have hE:bs.set j true=bs1:=by rw [←Hbs1.out];unfold mk1;rw [if_pos ⟨h1,by rw [Hvn.out];exact h2⟩];rfl
     obtain ⟨W2,HW2⟩:=nm (W.setCell ⟨gv,j,none⟩ (.bool true));have hgv2:BBlk W2 gv bs1:=by rw [←HW2.out,←hE];exact BBlk.set_ hgv j true
     have u2:Upd (·=gv) W W2:=by rw [←HW2.out];exact updCell _ _ _ _
     have e2:=HW2.out;have HE:=h_ hgv2;have hj2:j<vn:=by omega
     have hT2:=h_ hT;clear hE hgv2 hgv hb1 hb2 hT h1 h2;go_wp2_with fail
     go_meet
     case rel=>exact ⟨HE.out,u2⟩
    | false =>
     have hE:bs=bs1:=by
      rw [←Hbs1.out];unfold mk1;rw [if_neg];rw [Hvn.out];rintro ⟨h1,h2⟩;have a1:=F1.out;have a2:=F2.out;rw [dT_ h1] at a1;rw [dT_ h2] at a2;rw [←a1,←a2] at hT;cases hT
     have HE:=h_ hE;clear hE;go_wp2_with fail
     go_meet
     case rel=>exact ⟨by rw [←HE.out];exact hgv,Upd.refl⟩
   case rest =>
    obtain ⟨hgv1,u1⟩:=hcut;have hbc:=hb.upd u1 (by omega);have hgi1:BBlk wc gi cs:=Blk.upd hgi u1 (fun e=>hne e.symm);have hp1:=PtK.upd u1 (fun q _ hq e=>hFv (by rw [←e];exact hq)) p KA kc hp;have HU1:=h2U.trans u1 (fun q _ h=>.inl h);have hsc:=u1.size;have c0:=hbc.cell 0;have c3:=hbc.cell 3;have c4:=hbc.cell 4;obtain ⟨b3,f3⟩:∃b,decide (0<iv)=b:=⟨_,rfl⟩;obtain ⟨b4,f4⟩:∃b,decide (iv<(mn:Int))=b:=⟨_,rfl⟩;have F3:=h_ f3;have F4:=h_ f4;clear hb;obtain ⟨wd,rfl⟩:∃wd:World,wd=wc:=⟨_,rfl⟩
    go_upto_region 3 with fail
    go_cut [30] (fun t wx=>t=.bool (b3&&b4)∧wx=wd)
    case first =>
     cases b3 with
     | false=>go_wp2_with fail;go_meet;exact ⟨rfl,rfl⟩
     | true=>cases b4 <;> (go_wp2_with fail;go_meet;exact ⟨rfl,rfl⟩)
    case rest =>
     obtain ⟨rfl,ew⟩:=hcut;obtain rfl:wd=_:=ew.symm;clear f3 f4
     go_upto_if 30 with fail
     go_cut [] (fun wx=>BBlk wx gi cs1∧Upd (·=gi) wd wx)
     case first =>
      cases hT:(b3&&b4) with
      | true =>
       have hb1:b3=true:=by revert hT;cases b3 <;> simp
       have hb2:b4=true:=by revert hT;cases b4 <;> simp
       have h1:0<iv:=of_decide_eq_true (by rw [F3.out,hb1]);have h2:iv<(mn:Int):=of_decide_eq_true (by rw [F4.out,hb2]);obtain ⟨j,rfl⟩:∃j:Nat,iv=(j:Int):=Int.eq_ofNat_of_zero_le (by omega);have hj:j<cs.length:=by rw [Hmn.out];omega
       have hz:=BBlk.cell hgi1 hj;have hfr:=Blk.frozen hgi1;have hE:cs.set j true=cs1:=by rw [←Hcs1.out];unfold mk1;rw [if_pos ⟨h1,by rw [Hmn.out];exact h2⟩];rfl
       obtain ⟨W2,HW2⟩:=nm (wd.setCell ⟨gi,j,none⟩ (.bool true));have hgi2:BBlk W2 gi cs1:=by rw [←HW2.out,←hE];exact BBlk.set_ hgi1 j true
       have u2:Upd (·=gi) wd W2:=by rw [←HW2.out];exact updCell _ _ _ _
       have e2:=HW2.out;have HE:=h_ hgi2;have hj2:j<mn:=by omega
       have hT2:=h_ hT;clear hE hgi2 hb1 hb2 hT h1 h2;go_wp2_with fail
       go_meet
       case rel=>exact ⟨HE.out,u2⟩
      | false =>
       have hE:cs=cs1:=by
        rw [←Hcs1.out];unfold mk1;rw [if_neg];rw [Hmn.out];rintro ⟨h1,h2⟩;have a1:=F3.out;have a2:=F4.out;rw [dT_ h1] at a1;rw [dT_ h2] at a2;rw [←a1,←a2] at hT;cases hT
       have HE:=h_ hE;clear hE;go_wp2_with fail
       go_meet
       case rel=>exact ⟨by rw [←HE.out];exact hgi1,Upd.refl⟩
     case rest =>
      obtain ⟨W4,rfl⟩:∃W4:World,W4=wc:=⟨_,rfl⟩;obtain ⟨hgi2,u2⟩:=hcut;have hbc2:=hbc.upd u2 (by omega);have hgv2:BBlk W4 gv bs1:=Blk.upd hgv1 u2 hne;have hp4:=PtK.upd u2 (fun q _ hq e=>hFi (by rw [←e];exact hq)) p KA kc hp1;have HU4:=HU1.trans u2 (fun q _ h=>.inr h);have hs4:=u2.size;have c4:=hbc2.cell 4;have hgi2:=h_ hgi2;have hgv2:=h_ hgv2;clear hgv1 hgi1 hp1 c0 c3 hbc u1 hgv hgi;go_wp2_with fail
      go_loopg [6] k (fun g i wr=>∃q:Nat,Hid (g=k - q)∧q≤k∧i=.int .i64 q∧Hid (BBlk wr gv (markV (nodesL (p.kids.take q)) bs1))∧Hid (BBlk wr gi (markI (nodesL (p.kids.take q)) cs1))∧Upd (fun q=>q=gv∨q=gi) W4 wr)
      case atStart=>exact ⟨0,rfl,by omega,rfl,hgv2.out,hgi2.out,Upd.refl⟩
      case round =>
       obtain ⟨q,Hg,hq,rfl,HV,HM,hu⟩:=hrel;have d4:=(hbc2.upd hu (by omega)).cell 4;by_cases hlt:q<k
       ·have hql:q<p.kids.length:=by rw [Hk.out];exact hlt
        have hpr:=PtK.upd hu (fun q _ hq e=>by rcases e with rfl | rfl;exact hFv hq;exact hFi hq) p KA kc hp4;obtain ⟨b,o,rfl,hF,hbw,KB,kd,h0,h1,h2,h3,h4,h5⟩:=hpr.at_ hql;have HTK:Hid (p.kids.take (q+1)=p.kids.take q++[p.kids[q]]):=take_snoc' hql;have hmem:=List.getElem_mem hql;generalize p.kids[q]=t at *;have hts:=HZ.out t hmem;have C1:=h_ (HI.out t hmem wr F KB kd gv c gi d (markV (nodesL (p.kids.take q)) bs1) (markI (nodesL (p.kids.take q)) cs1) h5 hFv hFi hne HV.out HM.out hts)
        rw [markV_len,markI_len,HLV.out,HLI.out] at C1;unfold pv at C1;have HV2:Hid (markV (nodes t) (markV (nodesL (p.kids.take q)) bs1)=markV (nodesL (p.kids.take (q+1))) bs1):=by show _=_;rw [HTK.out,nodesL_snoc,markV_app]
        have HM2:Hid (markI (nodes t) (markI (nodesL (p.kids.take q)) cs1)=markI (nodesL (p.kids.take (q+1))) cs1):=by show _=_;rw [HTK.out,nodesL_snoc,markI_app]
        rw [HV2.out,HM2.out] at C1;clear h5 HV HM HTK hmem;go_wp2_with fail
        refine C1.out.mono ?_;rintro e w7 ⟨rfl,hv7,hm7,hu7⟩;have HV7:=h_ hv7;have HM7:=h_ hm7;have HU7:Upd (fun q=>q=gv∨q=gi) W4 w7:=hu.trans hu7 (fun _ _ h=>h);clear hv7 hm7 C1;go_wp2_with fail
        go_roundg (k - (q+1))
        case measure=>rw [Hg.out];omega
        case rel=>exact ⟨q+1,rfl,by omega,by go_num,HV7.out,HM7.out,HU7⟩
       ·obtain rfl:k=q:=by omega
        have HT:Hid (p.kids.take k=p.kids):=List.take_of_length_le (by rw [Hk.out];exact Nat.le_refl _);rw [HT.out] at HV HM;have HU:=HU4.trans hu (fun _ _ h=>h);go_wp2_with fail
        go_end0
        exact ⟨rfl,HV.out,HM.out,HU⟩
theorem isVal_lo {ss:List Int} {n:Int} (h:¬1≤n):isValF ss n=false:=dF_ (fun q=>h q.1)
theorem isVal_hi {ss:List Int} {n:Int} (h:¬n<ss.length):isValF ss n=false:=dF_ (fun q=>h q.2.1)
theorem isVal_at {ss:List Int} {j:Nat} (h:1≤(j:Int)) (g:(j:Int)<ss.length):isValF ss j=(ss.getD j 0==1):=by
 unfold isValF;rw [Bool.eq_iff_iff];simp only [Int.toNat_natCast,decide_eq_true_eq,beq_iff_eq];exact ⟨fun q=>q.2.2,fun q=>⟨h,g,q⟩⟩
set_option maxRecDepth 100000 in
set_option maxHeartbeats 4000000 in
theorem r15validCond_c (x:Cd) (ss:List Int) (m:Int) (A:Option Addr) (c:Nat) (F:Nat→Prop) (w:World) (hs:Ints w F A ss) :
  Calls Tryz.prog 60 #[.agg #[.int .i64 x.kind,.int .i64 x.a,.int .i64 x.b,.int .i64 x.n],.slice A ss.length c,.int .i64 m] w fun e w'=>e=.returned (.bool (condF x ss m))∧Upd Non w w':=by
 obtain ⟨k,a,b,n⟩:=x;dsimp only;obtain ⟨W,HW⟩:=nm (w.alloc (.cells #[.int .i64 k,.int .i64 a,.int .i64 b,.int .i64 n] 63));have U:Upd Non w W:=by rw [←HW.out];exact Upd.refl.alloc _
 have b1:Blk W w.heap.size 63 #[.int .i64 k,.int .i64 a,.int .i64 b,.int .i64 n]:=by rw [←HW.out];exact Blk.new _ _ _
 have e1:=HW.out;have hs:=hs.upd U (fun _ _ _ f=>f);have c0:=b1.cell 0;have c1:=b1.cell 1;have c2:=b1.cell 2;have c3:=b1.cell 3;have HVL:=h_ (fun (i:Int)=>@isVal_lo ss i);have HVH:=h_ (fun (i:Int)=>@isVal_hi ss i);have HVA:=h_ (fun (j:Nat)=>@isVal_at ss j);obtain ⟨l,Hl⟩:=nm ss.length;obtain ⟨R,HR⟩:=nm (condF ⟨k,a,b,n⟩ ss m);rw [HR.out,Hl.out];have HR1:Hid (R=condF ⟨k,a,b,n⟩ ss m):=HR.out.symm;unfold condF at HR1;dsimp only at HR1;obtain ⟨va,Hva⟩:=nm (isValF ss a);obtain ⟨vb,Hvb⟩:=nm (isValF ss b);rw [Hva.out,Hvb.out] at HR1;clear b1 HR;obtain ⟨tb,ftb⟩:∃t,(b==0)=t:=⟨_,rfl⟩;obtain ⟨tn,ftn⟩:∃t,(n==0)=t:=⟨_,rfl⟩;obtain ⟨tab,ftab⟩:∃t,(b != a)=t:=⟨_,rfl⟩;obtain ⟨tab2,ftab2⟩:∃t,(a != b)=t:=⟨_,rfl⟩;obtain ⟨b1,fb1⟩:∃t,decide (1≤b)=t:=⟨_,rfl⟩;obtain ⟨bm,fbm⟩:∃t,decide (b≤m)=t:=⟨_,rfl⟩;obtain ⟨a1,fa1⟩:∃t,decide (1≤a)=t:=⟨_,rfl⟩;obtain ⟨am,fam⟩:∃t,decide (a≤m)=t:=⟨_,rfl⟩;obtain ⟨bl,fbl⟩:∃t,decide (b<(l:Int))=t:=⟨_,rfl⟩;obtain ⟨al,fal⟩:∃t,decide (a<(l:Int))=t:=⟨_,rfl⟩
 have gtb:decide (b=0)=tb:=by rw [←ftb,Bool.eq_iff_iff];simp
 have gtn:decide (n=0)=tn:=by rw [←ftn,Bool.eq_iff_iff];simp
 have gtab:decide (a≠b)=tab2:=by rw [←ftab2,Bool.eq_iff_iff];simp
 have gtab2:tab2=tab:=by rw [←ftab,←ftab2,Bool.eq_iff_iff];simp;exact ⟨fun h q=>h q.symm,fun h q=>h q.symm⟩
 have gia:isImmF m a=(a1&&am):=by unfold isImmF;rw [←fa1,←fam,Bool.eq_iff_iff];simp
 have gib:isImmF m b=(b1&&bm):=by unfold isImmF;rw [←fb1,←fbm,Bool.eq_iff_iff];simp
 rw [gtb,gtn,gtab,gtab2,gia,gib] at HR1;rw [gtab2] at ftab2;have FA1:=h_ fa1;have FAL:=h_ fal;have FB1:=h_ fb1;have FBL:=h_ fbl;clear gtb gtn gtab gia gib gtab2;go_enter Tryz.func60,Tryz.ntmps60
 go_upto_region 1 with fail
 go_cut [7] (fun t wx=>t=.bool va∧W=wx)
 case first =>
  cases a1 with
  | false =>
   have hv:va=false:=by rw [←Hva.out];exact HVL.out a (of_decide_eq_false FA1.out)
   subst hv;go_wp2_with fail
   go_meet;exact ⟨rfl,rfl⟩
  | true =>
   cases al with
   | false =>
    have hv:va=false:=by rw [←Hva.out];exact HVH.out a (by rw [Hl.out];exact of_decide_eq_false FAL.out)
    subst hv;go_wp2_with fail
    go_meet;exact ⟨rfl,rfl⟩
   | true =>
    obtain ⟨j,rfl⟩:∃j:Nat,a=(j:Int):=Int.eq_ofNat_of_zero_le (by have:=of_decide_eq_true FA1.out;omega);have hj:(j:Int)<l:=of_decide_eq_true FAL.out;have hj0:(0:Int)≤j:=by omega
    have hv:va=(ss.getD j 0==1):=by rw [←Hva.out];exact HVA.out j (of_decide_eq_true FA1.out) (by rw [Hl.out];exact hj)
    obtain ⟨blk,off,rfl,_,_,z⟩:=Sl.at_ (k:=j) hs (by simp [Hl.out];omega);rw [show ((ss.map fun (x:Int)=>Value.int .i64 x))[j]'(by simp [Hl.out];omega)=.int .i64 (ss.getD j 0) by simp [List.getD,show j<ss.length by rw [Hl.out];omega]] at z
    obtain ⟨y,Hy⟩:=nm (ss.getD j 0);rw [Hy.out] at z hv;have fv:(y==1)=va:=hv.symm;clear hv;go_wp2_with fail
    go_meet;exact ⟨rfl,rfl⟩
 case rest =>
  obtain ⟨rfl,ew⟩:=hcut;obtain rfl:W=_:=ew;by_cases h1:k=1
  ·subst h1;have HE0:Hid (R=(va&&(tb&&tn))):=by show _=_;rw [HR1.out,if_pos rfl,Bool.and_assoc]
   cases va with
   | false =>
    have HE:Hid (R=false):=by show _=_;rw [HE0.out];simp
    go_wp2_with fail
    go_ret;exact ⟨by rw [HE.out];rfl,U⟩
   | true =>
    have HE0:Hid (R=(tb&&tn)):=by show _=_;rw [HE0.out];simp
    cases tb with
    | false =>
     have HE:Hid (R=false):=by show _=_;rw [HE0.out];simp
     go_wp2_with fail
     go_ret;exact ⟨by rw [HE.out];rfl,U⟩
    | true =>
     have HE0:Hid (R=(tn)):=by show _=_;rw [HE0.out];simp
     have HE:Hid (R=tn):=HE0.out;go_wp2_with fail
     go_ret;exact ⟨by rw [HE.out];rfl,U⟩
  ·by_cases h2:k=2∨k=3
   ·have HE0:Hid (R=(va&&tb)):=by have:=HR1.out;rw [if_neg h1,if_pos h2] at this;exact this
    rcases h2 with rfl | rfl
    ·cases va with
     | false =>
      have HE:Hid (R=false):=by show _=_;rw [HE0.out];simp
      go_wp2_with fail
      go_ret;exact ⟨by rw [HE.out];rfl,U⟩
     | true =>
      have HE0:Hid (R=(tb)):=by show _=_;rw [HE0.out];simp
      have HE:Hid (R=tb):=HE0.out;go_wp2_with fail
      go_ret;exact ⟨by rw [HE.out];rfl,U⟩
    ·cases va with
     | false =>
      have HE:Hid (R=false):=by show _=_;rw [HE0.out];simp
      go_wp2_with fail
      go_ret;exact ⟨by rw [HE.out];rfl,U⟩
     | true =>
      have HE0:Hid (R=(tb)):=by show _=_;rw [HE0.out];simp
      have HE:Hid (R=tb):=HE0.out;go_wp2_with fail
      go_ret;exact ⟨by rw [HE.out];rfl,U⟩
   ·have HR2:=HR1.out;rw [if_neg h1,if_neg h2] at HR2;have t1:(k==1)=false:=by simpa using h1
    have t2:(k==2)=false:=by simp;omega
    have t3:(k==3)=false:=by simp;omega
    have HR1:=h_ HR2;clear HR2 h1 h2;by_cases h4:k=4
    ·subst h4;have HE0:Hid (R=(va&&(vb&&(tab&&tn)))):=by show _=_;rw [HR1.out,if_pos rfl];simp [Bool.and_assoc]
     cases va with
     | false =>
      have HE:Hid (R=false):=by show _=_;rw [HE0.out];simp
      go_wp2_with fail
      go_ret;exact ⟨by rw [HE.out];rfl,U⟩
     | true =>
      have HE0:Hid (R=(vb&&(tab&&tn))):=by show _=_;rw [HE0.out];simp
      cases b1 with
      | false =>
       have hv:vb=false:=by rw [←Hvb.out];exact HVL.out b (of_decide_eq_false FB1.out)
       have HE:Hid (R=false):=by show _=_;rw [HE0.out,hv];simp
       clear hv;go_wp2_with fail
       go_ret;exact ⟨by rw [HE.out];rfl,U⟩
      | true =>
       cases bl with
       | false =>
        have hv:vb=false:=by rw [←Hvb.out];exact HVH.out b (by rw [Hl.out];exact of_decide_eq_false FBL.out)
        have HE:Hid (R=false):=by show _=_;rw [HE0.out,hv];simp
        clear hv;go_wp2_with fail
        go_ret;exact ⟨by rw [HE.out];rfl,U⟩
       | true =>
        obtain ⟨j,rfl⟩:∃j:Nat,b=(j:Int):=Int.eq_ofNat_of_zero_le (by have:=of_decide_eq_true FB1.out;omega);have hj:(j:Int)<l:=of_decide_eq_true FBL.out;have hj0:(0:Int)≤j:=by omega
        have hv:vb=(ss.getD j 0==1):=by rw [←Hvb.out];exact HVA.out j (of_decide_eq_true FB1.out) (by rw [Hl.out];exact hj)
        obtain ⟨blk,off,rfl,_,_,z⟩:=Sl.at_ (k:=j) hs (by simp [Hl.out];omega);rw [show ((ss.map fun (x:Int)=>Value.int .i64 x))[j]'(by simp [Hl.out];omega)=.int .i64 (ss.getD j 0) by simp [List.getD,show j<ss.length by rw [Hl.out];omega]] at z
        obtain ⟨y,Hy⟩:=nm (ss.getD j 0);rw [Hy.out] at z hv;have fv:(y==1)=vb:=hv.symm;clear hv
        cases vb with
        | false =>
         have HE:Hid (R=false):=by show _=_;rw [HE0.out];simp
         go_wp2_with fail
         go_ret;exact ⟨by rw [HE.out];rfl,U⟩
        | true =>
         have HE0:Hid (R=(tab&&tn)):=by show _=_;rw [HE0.out];simp
         cases tab with
         | false =>
          have HE:Hid (R=false):=by show _=_;rw [HE0.out];simp
          go_wp2_with fail
          go_ret;exact ⟨by rw [HE.out];rfl,U⟩
         | true =>
          have HE0:Hid (R=(tn)):=by show _=_;rw [HE0.out];simp
          have HE:Hid (R=tn):=HE0.out;go_wp2_with fail
          go_ret;exact ⟨by rw [HE.out];rfl,U⟩
    ·have t4:(k==4)=false:=by simpa using h4
     have HR2:=HR1.out;rw [if_neg h4] at HR2;have HR1:=h_ HR2;clear HR2 h4;by_cases h5:k=5
     ·subst h5;have HE0:Hid (R=(va&&(b1&&(bm&&tn)))):=by show _=_;rw [HR1.out,if_pos rfl];simp [Bool.and_assoc]
      cases va with
      | false =>
       have HE:Hid (R=false):=by show _=_;rw [HE0.out];simp
       go_wp2_with fail
       go_ret;exact ⟨by rw [HE.out];rfl,U⟩
      | true =>
       have HE0:Hid (R=(b1&&(bm&&tn))):=by show _=_;rw [HE0.out];simp
       cases b1 with
       | false =>
        have HE:Hid (R=false):=by show _=_;rw [HE0.out];simp
        go_wp2_with fail
        go_ret;exact ⟨by rw [HE.out];rfl,U⟩
       | true =>
        have HE0:Hid (R=(bm&&tn)):=by show _=_;rw [HE0.out];simp
        cases bm with
        | false =>
         have HE:Hid (R=false):=by show _=_;rw [HE0.out];simp
         go_wp2_with fail
         go_ret;exact ⟨by rw [HE.out];rfl,U⟩
        | true =>
         have HE0:Hid (R=(tn)):=by show _=_;rw [HE0.out];simp
         have HE:Hid (R=tn):=HE0.out;go_wp2_with fail
         go_ret;exact ⟨by rw [HE.out];rfl,U⟩
     ·have t5:(k==5)=false:=by simpa using h5
      have HR2:=HR1.out;rw [if_neg h5] at HR2;have HR1:=h_ HR2;clear HR2 h5;by_cases h6:k=6
      ·subst h6;have HE0:Hid (R=(a1&&(am&&(b1&&(bm&&(tab&&tn)))))):=by show _=_;rw [HR1.out,if_pos rfl];simp [Bool.and_assoc]
       cases a1 with
       | false =>
        have HE:Hid (R=false):=by show _=_;rw [HE0.out];simp
        go_wp2_with fail
        go_ret;exact ⟨by rw [HE.out];rfl,U⟩
       | true =>
        have HE0:Hid (R=(am&&(b1&&(bm&&(tab&&tn))))):=by show _=_;rw [HE0.out];simp
        cases am with
        | false =>
         have HE:Hid (R=false):=by show _=_;rw [HE0.out];simp
         go_wp2_with fail
         go_ret;exact ⟨by rw [HE.out];rfl,U⟩
        | true =>
         have HE0:Hid (R=(b1&&(bm&&(tab&&tn)))):=by show _=_;rw [HE0.out];simp
         cases b1 with
         | false =>
          have HE:Hid (R=false):=by show _=_;rw [HE0.out];simp
          go_wp2_with fail
          go_ret;exact ⟨by rw [HE.out];rfl,U⟩
         | true =>
          have HE0:Hid (R=(bm&&(tab&&tn))):=by show _=_;rw [HE0.out];simp
          cases bm with
          | false =>
           have HE:Hid (R=false):=by show _=_;rw [HE0.out];simp
           go_wp2_with fail
           go_ret;exact ⟨by rw [HE.out];rfl,U⟩
          | true =>
           have HE0:Hid (R=(tab&&tn)):=by show _=_;rw [HE0.out];simp
           cases tab with
           | false =>
            have HE:Hid (R=false):=by show _=_;rw [HE0.out];simp
            go_wp2_with fail
            go_ret;exact ⟨by rw [HE.out];rfl,U⟩
           | true =>
            have HE0:Hid (R=(tn)):=by show _=_;rw [HE0.out];simp
            have HE:Hid (R=tn):=HE0.out;go_wp2_with fail
            go_ret;exact ⟨by rw [HE.out];rfl,U⟩
      ·have t6:(k==6)=false:=by simpa using h6
       have HE:Hid (R=false):=by show _=_;rw [HR1.out,if_neg h6]
       clear h6;go_wp2_with fail
       go_ret;exact ⟨by rw [HE.out];rfl,U⟩
set_option maxHeartbeats 1000000 in
theorem r15Size_c (p:Pt):∀(w:World) (F:Nat→Prop) (KA:Option Addr) (kc:Nat),PtK w F p KA kc→p.size≤1000000000000 →
  Calls Tryz.prog 56 #[pv p KA kc] w fun e w'=>e=.returned (.int .i64 (p.size:Int))∧Upd Non w w':=by
 induction p using Pt.ind with
 | h p ih =>
  intro w F KA kc hp hs;have hse:=Pt.size_eq p;have hle:=Pt.len_le p.kids;have HI:=h_ ih;obtain ⟨W,HW⟩:=nm (w.alloc (.cells #[.int .i64 p.v,.int .i64 p.op,.int .i64 p.imm,.int .i64 p.iv,.slice KA p.kids.length kc] 24));have hU:Upd Non w W:=by rw [←HW.out];exact Upd.refl.alloc _
  have hb:Blk W w.heap.size 24 #[.int .i64 p.v,.int .i64 p.op,.int .i64 p.imm,.int .i64 p.iv,.slice KA p.kids.length kc]:=by rw [←HW.out];exact Blk.new _ _ _
  have e0:=HW.out;have c4:=hb.cell 4;have hpW:=PtK.upd hU (fun _ _ _ f=>f) p KA kc hp;have HS:=h_ hse;unfold pv;clear ih hse hp;obtain ⟨n,Hn⟩:=nm p.kids.length;rw [Hn.out] at c4 hle e0;have hn12:n≤1000000000000:=by have:=HS.out;omega
  rw [Hn.out];go_enter Tryz.func56,Tryz.ntmps56;go_wp2_with fail
  go_loopg [3,4] n (fun g v i wr=>∃k:Nat,Hid (g=n - k)∧k≤n∧i=.int .i64 k∧v=.int .i64 ((1+Pt.sizeL (p.kids.take k):Nat):Int)∧Upd Non W wr)
  case atStart=>exact ⟨0,rfl,by omega,rfl,by simp [Pt.sizeL],Upd.refl⟩
  case round =>
   obtain ⟨k,Hg,hk,rfl,rfl,hu⟩:=hrel;have c4':=u_ c4 hu (fun f=>f);by_cases hlt:k<n
   ·have hkl:k<p.kids.length:=by rw [Hn.out];exact hlt
    obtain ⟨b,o,rfl,hF,hbw,KB,kd,h0,h1,h2,h3,h4,h5⟩:=(PtK.upd hu (fun _ _ _ f=>f) p KA kc hpW).at_ hkl;have hks:p.kids[k].size≤1000000000000:=by have:=Pt.kids_lt (List.getElem_mem hkl);omega
    have hkk:=Pt.sizeL_take p.kids k hkl;have hkt:=Pt.sizeL_take_le p.kids (k+1);have hmem0:=List.getElem_mem hkl;generalize p.kids[k]=q at *;have C1:=h_ (HI.out q hmem0 wr F KB kd h5 hks);unfold pv at C1;obtain ⟨z,Hz⟩:=nm (1+Pt.sizeL (p.kids.take k));have hz1:1+Pt.sizeL (p.kids.take (k+1))=z+q.size:=by rw [←Hz.out];omega
    have HZ:=h_ hz1;have hz2:z+q.size≤2000000000000:=by have:=HS.out;omega
    rw [Hz.out];clear hkk hkt hz1 h5;go_wp2_with fail
    refine C1.out.mono ?_;rintro e w4 ⟨rfl,hu4⟩;go_wp2_with fail
    go_roundg (n - (k+1))
    case measure=>rw [Hg.out];omega
    case rel=>exact ⟨k+1,rfl,by omega,by go_num,by rw [HZ.out];go_num,hu.then_non hu4⟩
   ·obtain rfl:n=k:=by omega
    have HT:Hid (1+Pt.sizeL (p.kids.take n)=p.size):=by show _=_;rw [HS.out,←Hn.out];simp
    rw [HT.out];go_wp2_with fail
    go_ret;exact ⟨rfl,hU.then_non hu⟩
set_option maxRecDepth 100000 in
set_option maxHeartbeats 8000000 in
theorem r15fits_c (p:Pt):∀(w:World) (F:Nat→Prop) (KA:Option Addr) (kc g c:Nat) (s m:Int) (vs:List Int),PtK w F p KA kc→¬F g→VBlk w g (0::vs)→p.size≤1000000000000→vs.length≤1000000→0≤m →
  Calls Tryz.prog 57 #[pv p KA kc,.int .i64 s,.slice (some ⟨g,0,none⟩) (vs.length+1) c,.int .i64 m] w fun e w'=>e=.returned (.bool (vPt p s m vs).1)∧VBlk w' g (0::(vPt p s m vs).2)∧Upd (·=g) w w':=by
 induction p using Pt.ind with
 | h p ih =>
  intro w F KA kc g c s m vs hp hFg hg hs hvs hm0;have hle:=Pt.len_le p.kids;have hse:=Pt.size_eq p;have HI:=h_ ih;have HPS:=h_ hs;have HV:=h_ (@vPt_var p);have HO:=h_ (@vPt_op p);obtain ⟨W,HW⟩:=nm (w.alloc (.cells #[.int .i64 p.v,.int .i64 p.op,.int .i64 p.imm,.int .i64 p.iv,.slice KA p.kids.length kc] 24));have hU:Upd Non w W:=by rw [←HW.out];exact Upd.refl.alloc _
  have hb:Blk W w.heap.size 24 #[.int .i64 p.v,.int .i64 p.op,.int .i64 p.imm,.int .i64 p.iv,.slice KA p.kids.length kc]:=by rw [←HW.out];exact Blk.new _ _ _
  have e0:=HW.out;have hgW:VBlk W g (0::vs):=Blk.upd hg hU (fun f=>f);have hpW:=PtK.upd hU (fun _ _ _ f=>f) p KA kc hp;have hUg:Upd (·=g) w W:=hU.mono (fun _ _ f=>f.elim);have hglt:g<w.heap.size:=Blk.lt hg;have hsz:=hU.size;have hn12:p.kids.length≤1000000000000:=by omega
  unfold pv;obtain ⟨R,HR⟩:=nm (vPt p s m vs);rw [HR.out];have HIM:=h_ (@imm_ok p m hm0);obtain ⟨v,Hv⟩:=nm p.v;obtain ⟨op,Hop⟩:=nm p.op;obtain ⟨imm,Him⟩:=nm p.imm;obtain ⟨iv,Hiv⟩:=nm p.iv;obtain ⟨n,Hn⟩:=nm p.kids.length;rw [Hv.out,Hop.out,Him.out,Hiv.out,Hn.out] at hb e0;rw [Hv.out,Hop.out,Him.out,Hiv.out,Hn.out];rw [Hn.out] at hn12;rw [Hop.out,Him.out,Hiv.out] at HIM;have c0:=hb.cell 0;have c1:=hb.cell 1;have c2:=hb.cell 2;have c3:=hb.cell 3;have c4:=hb.cell 4;have hlb:=hb.lt;clear ih hp hse hle hg hs;by_cases hv:v=0
  ·subst hv;obtain ⟨z,Hz⟩:∃z,oSortsF op=z:=⟨_,rfl⟩;obtain ⟨ss,own,ok⟩:=z
   have HO2:Hid (R=if ok=true∧n=ss.length∧(s=0∨s=own)∧pImmF p m=true then vKids p.kids ss m vs else (false,vs)):=by
    show _=_;rw [←HR.out,HO.out Hv.out,Hop.out,Hz,Hn.out]
   have HAO:=h_ (allowed_ok op);have HAP:=h_ (@allowed_parts op);have CA:=h_ (fun w=>arity_c op w);have CB:=h_ (fun w=>r15allowed_c op w);have CS:=h_ (fun w=>pSort_c op w);have CH:=h_ (fun w=>r15HasImm_c op w);have CV:=h_ (fun w=>validImm_c op imm w);have COS:=h_ (fun (k:Int) w=>operandSort_c op k w);rw [HAO.out] at CB;rw [Hz] at CB HAP HIM;dsimp only at CB HAP HIM;obtain ⟨za,Hza⟩:∃z,arityF op=z:=⟨_,rfl⟩;obtain ⟨ar,aok⟩:=za;rw [Hza] at CA HAP;dsimp only at CA HAP;obtain ⟨sr,Hsr⟩:=nm (pSortF op);rw [Hsr.out] at CS HAP;obtain ⟨hi,Hhi⟩:=nm (hasImmF op);obtain ⟨vi,Hvi⟩:=nm (validImmF op imm);rw [Hhi.out] at CH;rw [Hvi.out] at CV;rw [Hhi.out,Hvi.out] at HIM;clear HV HO HR Hz Hza;obtain ⟨bn,f1⟩:∃b,((n:Int) != ar)=b:=⟨_,rfl⟩;obtain ⟨b3,f3⟩:∃b,(s != 0)=b:=⟨_,rfl⟩;obtain ⟨bs,f4⟩:∃b,(sr != s)=b:=⟨_,rfl⟩;obtain ⟨b5,f5⟩:∃b,decide (iv<0)=b:=⟨_,rfl⟩;obtain ⟨b6,f6⟩:∃b,decide (iv > m)=b:=⟨_,rfl⟩;obtain ⟨b7,f7⟩:∃b,decide (iv > 0)=b:=⟨_,rfl⟩;obtain ⟨b8,f8⟩:∃b,(imm != 0)=b:=⟨_,rfl⟩;obtain ⟨b9,f9⟩:∃b,(iv==0)=b:=⟨_,rfl⟩
   have F1:=h_ f1;have F3:=h_ f3;have F4:=h_ f4;have F5:=h_ f5;have F6:=h_ f6;have F7:=h_ f7;have F8:=h_ f8;have F9:=h_ f9;go_enter Tryz.func57,Tryz.ntmps57;go_wp2_with fail
   refine (CA.out W).mono ?_;rintro e w2 ⟨rfl,rfl⟩
   go_upto_region 8 with fail
   go_cut [110] (fun t wx=>t=.bool (!ok || bn || (b3&&bs) || b5 || b6)∧wx=W)
   case first =>
    cases ok with
    | false =>
     go_wp2_with fail
     refine (CB.out W).mono ?_;rintro e w2 ⟨rfl,rfl⟩;go_wp2_with fail
     go_meet;exact ⟨rfl,rfl⟩
    | true=>cases bn with
     | true =>
      go_wp2_with fail
      refine (CB.out W).mono ?_;rintro e w2 ⟨rfl,rfl⟩;go_wp2_with fail
      go_meet;exact ⟨rfl,rfl⟩
     | false=>cases b3 with
      | true=>cases bs with
       | true =>
        go_wp2_with fail
        refine (CB.out W).mono ?_;rintro e w2 ⟨rfl,rfl⟩;go_wp2_with fail
        refine (CS.out W).mono ?_;rintro e w2 ⟨rfl,rfl⟩;go_wp2_with fail
        go_meet;exact ⟨rfl,rfl⟩
       | false =>
        cases b5 <;> cases b6
        all_goals
         go_wp2_with fail
         refine (CB.out W).mono ?_;rintro e w2 ⟨rfl,rfl⟩;go_wp2_with fail
         refine (CS.out W).mono ?_;rintro e w2 ⟨rfl,rfl⟩;go_wp2_with fail
         go_meet;exact ⟨rfl,rfl⟩
      | false =>
       cases b5 <;> cases b6
       all_goals
        go_wp2_with fail
        refine (CB.out W).mono ?_;rintro e w2 ⟨rfl,rfl⟩;go_wp2_with fail
        go_meet;exact ⟨by cases bs <;> rfl,rfl⟩
   case rest =>
   obtain ⟨rfl,ew⟩:=hcut;obtain rfl:W=_:=ew.symm
   have HCond:Hid ((ok=true∧n=ss.length∧(s=0∨s=own)∧pImmF p m=true)↔((!ok || bn || (b3&&bs) || b5 || b6)=false∧(b7&&(b8 || !hi) || b9&&!vi)=false)):=by
    show _↔_;rw [←F1.out,←F3.out,←F4.out,←F5.out,←F6.out,←F7.out,←F8.out,←F9.out]
    cases ok with
    | false=>simp
    | true =>
     obtain ⟨a1,a2,_⟩:=HAP.out rfl;rw [HIM.out rfl,a1,a2];cases hi <;> cases vi <;> simp <;> omega
   cases hT:(!ok || bn || (b3&&bs) || b5 || b6) with
   | true =>
    have HR2:Hid (R=(false,vs)):=by show _=_;rw [HO2.out,if_neg (fun q=>by rw [(HCond.out.1 q).1] at hT;cases hT)]
    clear HO2 hT;go_wp2_with fail
    go_ret;exact ⟨by rw [HR2.out];rfl,by rw [HR2.out];exact hgW,hUg⟩
   | false =>
    have HT:=h_ hT;clear hT
    go_upto_region 10 with fail
    go_cut [137] (fun t wx=>t=.bool (b7&&(b8 || !hi) || b9&&!vi)∧wx=W)
    case first =>
     cases b7 with
     | true =>
      have b9f:b9=false:=by rw [←F9.out,beq_eq_false_iff_ne];have:=of_decide_eq_true F7.out;omega
      subst b9f
      cases b8 with
      | true =>
       go_wp2_with fail
       go_meet;exact ⟨rfl,rfl⟩
      | false =>
       cases hi
       all_goals
        go_wp2_with fail
        refine (CH.out W).mono ?_;rintro e w2 ⟨rfl,rfl⟩;go_wp2_with fail
        go_meet;exact ⟨rfl,rfl⟩
     | false=>cases b9 with
      | true =>
       go_wp2_with fail
       refine (CV.out W).mono ?_;rintro e w2 ⟨rfl,rfl⟩;go_wp2_with fail
       go_meet;exact ⟨by cases vi <;> rfl,rfl⟩
      | false =>
       go_wp2_with fail
       go_meet;exact ⟨rfl,rfl⟩
    case rest =>
    obtain ⟨rfl,ew⟩:=hcut;obtain rfl:W=_:=ew.symm
    cases hT2:(b7&&(b8 || !hi) || b9&&!vi) with
    | true =>
     have HR2:Hid (R=(false,vs)):=by show _=_;rw [HO2.out,if_neg (fun q=>by rw [(HCond.out.1 q).2] at hT2;cases hT2)]
     clear HO2 hT2;go_wp2_with fail
     go_ret;exact ⟨by rw [HR2.out];rfl,by rw [HR2.out];exact hgW,hUg⟩
    | false =>
     have HCd:=h_ (HCond.out.2 ⟨HT.out,hT2⟩);have HR2:Hid (R=vKids (p.kids.drop 0) (ss.drop 0) m vs):=by show _=_;rw [HO2.out,if_pos HCd.out];simp
     have HNS:Hid (n=ss.length):=HCd.out.2.1;have HST:=h_ (fun k (hk:k<p.kids.length) vk=>@vKids_step p.kids ss m vk k hk (by rw [Hn.out];exact HNS.out));have HVL:=h_ (fun (q:Pt) (s m:Int) vs=>vPt_len q s m vs);have HSO:Hid (∀k (hk:k<ss.length),operandSortF op k=ss[k]):=(HAP.out HCd.out.1).2.2;clear HO2 hT2 HCond f1 f3 f4 f5 f6 f7 f8 f9 CA CB CS CH CV;go_wp2_with fail
     go_loopg [11] n (fun gg i wr=>∃(k:Nat) (vk:List Int),Hid (gg=n - k)∧k≤n∧i=.int .i64 k∧VBlk wr g (0::vk)∧vk.length=vs.length∧Hid (R=vKids (p.kids.drop k) (ss.drop k) m vk)∧Upd (·=g) W wr)
     case atStart=>exact ⟨0,vs,rfl,by omega,rfl,hgW,rfl,HR2,Upd.refl⟩
     case round =>
      obtain ⟨k,vk,Hg,hk,rfl,hgk,hvk,HRk,hu⟩:=hrel;have c4r:wr.cell? ⟨w.heap.size,4,none⟩=some (.slice KA n kc):=u_ c4 hu (by omega);have c1r:wr.cell? ⟨w.heap.size,1,none⟩=some (.int .i64 op):=u_ c1 hu (by omega);by_cases hlt:k<n
      ·have hkl:k<p.kids.length:=by rw [Hn.out];exact hlt
       have hks:k<ss.length:=by have:=HNS.out;omega
       obtain ⟨b,o,rfl,hF,hbw,KB,kd,h0,h1,h2,h3,h4,h5⟩:=(PtK.upd hu (fun k _ hF e=>hFg (by rw [←e];exact hF)) p KA kc hpW).at_ hkl;have hmem0:=List.getElem_mem hkl;have hqs:=Pt.kids_lt hmem0;have HRs:=HST.out k hkl vk;have hps:p.size≤1000000000000:=HPS.out;have hos:=HSO.out k hks;have hbg:b≠g:=fun e=>hFg (by rw [←e];exact hF)
       rw [HRs] at HRk;clear HRs;generalize p.kids[k]=q at *;generalize ss[k]=x at *;have i0:(0:Int)≤(k:Int):=by omega
       have i1:(k:Int)<(n:Int):=by omega
       have hg4:VBlk wr.drew g (0::vk):=hgk;have C1:=h_ (HI.out q hmem0 wr.drew F KB kd g c x m vk (PtK.upd (Upd.refl.drew (S:=Non)) (fun _ _ _ f=>f) q KB kd h5) hFg hg4 (by omega) (by omega) hm0)
       unfold pv at C1;rw [hvk] at C1;have HV1:=h_ (HVL.out q x m vk);obtain ⟨r,Hr⟩:=nm (vPt q x m vk);obtain ⟨rb,rv⟩:=r;rw [Hr.out] at C1 HRk HV1;have hrv:rv.length=vs.length:=by rw [←hvk];exact HV1.out
       have COk:=h_ (fun w=>COS.out (k:Int) w);rw [hos] at COk;clear h5 hps hqs;have hS:∀w',Upd (·=g) wr w'→w'.cell? ⟨w.heap.size,4,none⟩=some (.slice (some ⟨b,o,none⟩) n kc)∧w'.cell? ⟨w.heap.size,1,none⟩=some (.int .i64 op)∧w'.cell? ⟨b,o+k * 5,none⟩=some (.int .i64 q.v)∧w'.cell? ⟨b,o+k * 5+1,none⟩=some (.int .i64 q.op)∧w'.cell? ⟨b,o+k * 5+2,none⟩=some (.int .i64 q.imm)∧w'.cell? ⟨b,o+k * 5+3,none⟩=some (.int .i64 q.iv)∧w'.cell? ⟨b,o+k * 5+4,none⟩=some (.slice KB q.kids.length kd):=fun w' u=>⟨u_ c4r u (by omega),u_ c1r u (by omega),u_ h0 u hbg,u_ h1 u hbg,u_ h2 u hbg,u_ h3 u hbg,u_ h4 u hbg⟩
       obtain ⟨w4,e4⟩:∃w4:World,w4=wr:=⟨_,rfl⟩;subst e4;go_wp2_with fail
       refine wp_region_held_drew (S:=fun w'=>w'.cell? ⟨w.heap.size,4,none⟩=some (.slice (some ⟨b,o,none⟩) n kc)∧w'.cell? ⟨w.heap.size,1,none⟩=some (.int .i64 op)∧w'.cell? ⟨b,o+k * 5,none⟩=some (.int .i64 q.v)∧w'.cell? ⟨b,o+k * 5+1,none⟩=some (.int .i64 q.op)∧w'.cell? ⟨b,o+k * 5+2,none⟩=some (.int .i64 q.imm)∧w'.cell? ⟨b,o+k * 5+3,none⟩=some (.int .i64 q.iv)∧w'.cell? ⟨b,o+k * 5+4,none⟩=some (.slice KB q.kids.length kd)) (by kernel_rfl) (hS _ (Upd.refl (S:=(·=g))).drew) (fun hHeld=>?_)
       refine wpT 0 ?_;(try simp only [y_,z_]);refine wpT 1 ?_;(try simp only [y_,z_]);refine wpT 2 ?_;(try simp only [y_,z_]);refine wpT 3 ?_;(try simp only [y_,z_]);refine wpT 4 ?_;(try simp only [y_,z_]);refine wpT 5 ?_;(try simp only [y_,z_]);refine wpT 6 ?_;(try simp only [y_,z_]);refine wpT 7 ?_;(try simp only [y_,z_]);refine wpAnyH_takeC (i:=8) (v:=?v1) rfl (by kernel_rfl) (by kernel_rfl) (by kernel_rfl) (fun _ _ _ h=>h) ⟨by rfl,?f1,?a1,?r1,?c1⟩ (by assumption) ?m1
       case r1=>intro w;go_simp;constructor <;> with_reducible rfl
       case c1=>intro W hSw;refine (COk.out W).mono ?_;rintro e w' ⟨rfl,rfl⟩;constructor <;> with_reducible rfl
       (try simp only [y_,z_]);refine wpT 9 ?_;(try simp only [y_,z_]);refine wpT 10 ?_;(try simp only [y_,z_]);refine aR_ (rs:=[11]) (by kernel_rfl) (by simp) ?_;refine aC_ rfl (fun K hK=>?_) aN_;go_simp;refine C1.out.mono ?_;rintro e w5 ⟨rfl,hg5,hu5'⟩;have hu5:Upd (·=g) w4 w5:=(Upd.refl.drew (S:=(·=g))).trans hu5' (fun _ _ q=>q);go_wp2_with fail
       refine hK.out _ _ ?_ (fun hHeld=>?_)
       ·exact hS _ hu5
       clear hK K;(try simp only [y_,z_]);refine wpT 12 ?_;(try simp only [y_,z_]);refine aD_ (by kernel_rfl) ?_ _
       cases rb with
       | true =>
        have HRn:Hid (R=vKids (p.kids.drop (k+1)) (ss.drop (k+1)) m rv):=by show _=_;rw [HRk.out];rfl
        clear C1 hS;go_wp2_with fail
        go_roundg (n - (k+1))
        case measure=>rw [Hg.out];omega
        case rel=>exact ⟨k+1,rv,rfl,by omega,by go_num,hg5,hrv,HRn,hu.trans hu5 (fun _ _ q=>q)⟩
       | false =>
        have HRn:Hid (R=(false,rv)):=by show _=_;rw [HRk.out];rfl
        clear C1 hS;go_wp2_with fail
        go_ret;exact ⟨by rw [HRn.out];rfl,by rw [HRn.out];exact hg5,(hUg.trans hu (fun _ _ q=>q)).trans hu5 (fun _ _ q=>q)⟩
      ·obtain rfl:n=k:=by omega
       have HRz:Hid (R=(true,vk)):=by
        show _=_;rw [HRk.out,List.drop_eq_nil_of_le (by rw [Hn.out];exact Nat.le_refl _)];rfl
       go_wp2_with fail
       go_ret;exact ⟨by rw [HRz.out];rfl,by rw [HRz.out];exact hgk,hUg.trans hu (fun _ _ q=>q)⟩
  ·have t0:(v != 0)=true:=by simpa using hv
   have HV2:Hid (R=if v<1∨v > vs.length∨op≠0∨imm≠0∨iv≠0∨0<n then (false,vs) else if vs.getD (v - 1).toNat 0=0 then (true,vs.set (v - 1).toNat s) else (decide (s=0∨s=vs.getD (v - 1).toNat 0),vs)):=by
    show _=_;rw [←HR.out,HV.out (by rw [Hv.out];exact hv),Hv.out,Hop.out,Him.out,Hiv.out,Hn.out]
   clear HV HO HI HIM;by_cases hbad:v<1∨v > vs.length∨op≠0∨imm≠0∨iv≠0∨0<n
   ·have HRv:Hid (R=(false,vs)):=by show _=_;rw [HV2.out,if_pos hbad]
    rw [HRv.out];have Hbad:=h_ hbad;obtain ⟨b1,f1⟩:∃b,decide (v<1)=b:=⟨_,rfl⟩;obtain ⟨b2,f2⟩:∃b,decide (v ≥ (vs.length:Int)+1)=b:=⟨_,rfl⟩;obtain ⟨b3,f3⟩:∃b,(op != 0)=b:=⟨_,rfl⟩;obtain ⟨b4,f4⟩:∃b,(imm != 0)=b:=⟨_,rfl⟩;obtain ⟨b5,f5⟩:∃b,(iv != 0)=b:=⟨_,rfl⟩;obtain ⟨b6,f6⟩:∃b,((n:Int) != 0)=b:=⟨_,rfl⟩
    have HB:Hid ((b1 || b2 || b3 || b4 || b5 || b6)=true):=by
     show _=_;rw [←f1,←f2,←f3,←f4,←f5,←f6];simp;omega
    clear hbad
    cases b1 with
    | true =>
     go_enter Tryz.func57,Tryz.ntmps57;go_wp2_with fail
     go_ret;exact ⟨rfl,hgW,hUg⟩
    | false=>cases b2 with
     | true =>
      go_enter Tryz.func57,Tryz.ntmps57;go_wp2_with fail
      go_ret;exact ⟨rfl,hgW,hUg⟩
     | false=>cases b3 with
      | true =>
       go_enter Tryz.func57,Tryz.ntmps57;go_wp2_with fail
       go_ret;exact ⟨rfl,hgW,hUg⟩
      | false=>cases b4 with
       | true =>
        go_enter Tryz.func57,Tryz.ntmps57;go_wp2_with fail
        go_ret;exact ⟨rfl,hgW,hUg⟩
       | false=>cases b5 with
        | true =>
         go_enter Tryz.func57,Tryz.ntmps57;go_wp2_with fail
         go_ret;exact ⟨rfl,hgW,hUg⟩
        | false=>cases b6 with
         | true =>
          have hn0:n≠0:=by intro q;subst q;simp at f6
          have hn1:(n==0)=false:=by simpa using hn0
          go_enter Tryz.func57,Tryz.ntmps57;go_wp2_with fail
          go_ret;exact ⟨rfl,hgW,hUg⟩
         | false=>exact absurd HB.out (by simp)
   ·rw [if_neg hbad] at HV2;obtain ⟨i,hi⟩:=Int.eq_ofNat_of_zero_le (show 0≤v - 1 by omega);have hil:i<vs.length:=by omega
    obtain rfl:op=0:=by omega
    obtain rfl:imm=0:=by omega
    obtain rfl:iv=0:=by omega
    obtain rfl:n=0:=by omega
    rw [hi,Int.toNat_natCast] at HV2;obtain ⟨j,Hj⟩:=nm (i+1);have hj1:=Hj.out;obtain rfl:v=(j:Int):=by omega
    have t1:decide ((j:Int)<1)=false:=dF_ (by omega);have t2:decide ((j:Int) ≥ (vs.length:Int)+1)=false:=dF_ (by omega);have cg:W.cell? ⟨g,j,none⟩=some (.int .i64 (vs.getD i 0)):=by have:=VBlk.cell hgW (i:=i+1) (by simpa using hil);rw [hj1] at this;rw [this,←hj1];simp
    have fg:=Blk.frozen hgW j;have i0:(0:Int)≤(j:Int):=by omega
    have i1:(j:Int)<(vs.length:Int)+1:=by omega
    have hset:VBlk (W.setCell ⟨g,j,none⟩ (.int .i64 s)) g (0::vs.set i s):=by have:=VBlk.set_ hgW (i+1) s;rw [hj1] at this;rw [show (0::vs.set i s)=(0::vs).set j s by rw [←hj1];rfl];exact this
    have uset:=updCell W g j (.int .i64 s);clear hj1 hi;clear hbad HR Hv Hop Him Hiv Hn hpW;by_cases hs0:s=0
    ·subst hs0
     have HV3:Hid (R=(true,vs)):=by
      show _=_;rw [HV2.out];by_cases hy:vs.getD i 0=0
      ·rw [if_pos hy]
       have : vs.set i 0=vs:=by
        apply List.ext_getElem (by simp);intro j h1 h2;rw [List.getElem_set]
        split
        ·rename_i e;subst e;rw [getD_of hil] at hy;exact hy.symm
        ·rfl
       rw [this]
      ·rw [if_neg hy];simp
     rw [HV3.out];clear HV2 HV3;go_enter Tryz.func57,Tryz.ntmps57;go_wp2_with fail
     go_ret;exact ⟨rfl,hgW,hUg⟩
    ·have ts:(s != 0)=true:=by simpa using hs0
     have ts2:(s==0)=false:=by simpa using hs0
     obtain ⟨y,Hy⟩:=nm (vs.getD i 0);rw [Hy.out] at HV2 cg;by_cases hy:y=0
     ·rw [if_pos hy] at HV2;subst hy;rw [HV2.out];clear HV2;have tss:(s==s)=true:=by simp
      go_enter Tryz.func57,Tryz.ntmps57;go_wp2_with fail
      go_ret;exact ⟨rfl,hset,hUg.trans uset (fun _ _ q=>q)⟩
     ·rw [if_neg hy] at HV2;have ty:(y==0)=false:=by simpa using hy
      by_cases hsy:s=y
      ·subst hsy;have tt:(s==s)=true:=by simp
       have HV3:Hid (R=(true,vs)):=by show _=_;rw [HV2.out];simp
       rw [HV3.out];clear HV2 HV3;go_enter Tryz.func57,Tryz.ntmps57;go_wp2_with fail
       go_ret;exact ⟨rfl,hgW,hUg⟩
      ·have tt:(y==s)=false:=by simp;omega
       have HV3:Hid (R=(false,vs)):=by show _=_;rw [HV2.out];simp [hs0,hsy]
       rw [HV3.out];clear HV2 HV3;go_enter Tryz.func57,Tryz.ntmps57;go_wp2_with fail
       go_ret;exact ⟨rfl,hgW,hUg⟩
theorem T_boolsX:SlT Tryz.prog 114 4 1 1:=by
 obtain ⟨i,h1,h2,h3,h4⟩:=info_parts (show (Tryz.prog.info? 4).map (fun i=>(i.zero,i.size,i.bytes))=some (some (.bool false),1,1) from by kernel_rfl)
 exact ⟨Tryz.underlying114,⟨i,_,h1,h2,h3,h4,rfl⟩,by omega⟩
theorem zero_boolX:(Tryz.prog.info? 4).bind (·.zero)=some (.bool false):=by kernel_rfl
theorem VBlk.new0 (w:World) (n:Nat):VBlk (w.alloc (.cells (Array.replicate (n+1) (.int .i64 0)) 3)) w.heap.size (0::List.replicate n 0):=by
 unfold VBlk;rw [show (icells (0::List.replicate n 0)).toArray=Array.replicate (n+1) (Value.int .i64 0) by rw [←List.replicate_succ];simp [icells]];exact Blk.new _ _ _
set_option maxRecDepth 100000 in
set_option maxHeartbeats 4000000 in
theorem validRule_c (r:Rl) (a:RlA) (F:Nat→Prop) (w:World) (hk:RlK w F r a) (hz:RlSz r) :
  Calls Tryz.prog 30 #[rlv r a] w fun e w'=>e=.returned (.bool (refF r))∧Upd Non w w':=by
 obtain ⟨W,HW⟩:=nm (w.alloc (.cells (rlCells r a) 27));have hU:Upd Non w W:=by rw [←HW.out];exact Upd.refl.alloc _
 have hb:Blk W w.heap.size 27 (rlCells r a):=by rw [←HW.out];exact Blk.new _ _ _
 have hsz:W.heap.size=w.heap.size+1:=by rw [←HW.out];simp
 have e0:=HW.out;have hK:=(hk.mono (G:=fun k=>k<w.heap.size) (fun _ h _=>h)).upd hU (fun _ _ _ f=>f);have HC:=h_ (fun (w':World) (u:Upd Non W w')=>rl_cells (hb.upd u (fun f=>f)));obtain ⟨c0,c1,c2,c3,c4,c5,c6,c7,c8,c9,c10,c11,c12,c13⟩:=HC.out W Upd.refl;have CN:=h_ (fun w'=>r15validName_c r.name w' hz.n);have CSL:=h_ (fun (w':World) (u:Upd Non W w')=>r15Size_c r.l w' _ a.la a.lc (PtK.upd u (fun _ _ _ f=>f) _ _ _ hK.l) hz.l);have CSR:=h_ (fun (w':World) (u:Upd Non W w')=>r15Size_c r.r w' _ a.ra a.rc (PtK.upd u (fun _ _ _ f=>f) _ _ _ hK.r) hz.r);have HZ:=h_ hz;have HK:=h_ hK;unfold pv at CSL CSR;unfold rlv;unfold rlCells at e0 ⊢;obtain ⟨R,HR⟩:=nm (refF r);rw [HR.out];have HR1:Hid (R=refF r):=HR.out.symm;unfold refF at HR1;clear hk hz hK HR hb;obtain ⟨vn,Hvn⟩:=nm (nameF r.name);rw [Hvn.out] at CN HR1;obtain ⟨b1,f1⟩:∃b,decide (r.vars<0)=b:=⟨_,rfl⟩;obtain ⟨b2,f2⟩:∃b,decide (6<r.vars)=b:=⟨_,rfl⟩;obtain ⟨b3,f3⟩:∃b,decide (r.imms<0)=b:=⟨_,rfl⟩;obtain ⟨b4,f4⟩:∃b,decide (6<r.imms)=b:=⟨_,rfl⟩
 obtain ⟨b6,f6⟩:∃b,decide ((6:Int)<(r.conds.length:Int))=b:=⟨_,rfl⟩;have F1:=h_ f1;have F2:=h_ f2;have F3:=h_ f3;have F4:=h_ f4;have F6:=h_ f6;go_enter Tryz.func30,Tryz.ntmps30
 go_upto_region 1 with fail
 go_cut [38] (fun t wx=>t=.bool (b1 || b2 || b3 || b4 || !vn || b6)∧Upd Non W wx)
 case first =>
  cases b1 with
  | true=>go_wp2_with fail;go_meet;exact ⟨rfl,Upd.refl⟩
  | false=>cases b2 with
   | true=>go_wp2_with fail;go_meet;exact ⟨rfl,Upd.refl⟩
   | false=>cases b3 with
    | true=>go_wp2_with fail;go_meet;exact ⟨rfl,Upd.refl⟩
    | false=>cases b4 with
     | true=>go_wp2_with fail;go_meet;exact ⟨rfl,Upd.refl⟩
     | false =>
      go_wp2_with fail
      refine (CN.out _).mono ?_;rintro e w3 ⟨rfl,q3,rfl⟩;have u3:Upd Non W (W.drewN q3):=Upd.refl.drewN _
      cases vn with
      | false=>go_wp2_with fail;go_meet;exact ⟨rfl,u3⟩
      | true=>go_wp2_with fail;go_meet;exact ⟨by cases b6 <;> rfl,u3⟩
 case rest =>
 obtain ⟨w1,rfl⟩:∃w1:World,w1=wc:=⟨_,rfl⟩;obtain ⟨rfl,u1⟩:=hcut;clear c0 c1 c2 c3 c4 c5 c6 c7 c8 c9 c10 c11 c12 c13;obtain ⟨c0,c1,c2,c3,c4,c5,c6,c7,c8,c9,c10,c11,c12,c13⟩:=HC.out _ u1;clear f1 f2 f3 f4 f6
 cases hT:(b1 || b2 || b3 || b4 || !vn || b6) with
 | true =>
  have HF:Hid (R=false):=by
   show _=_;rw [HR1.out];rw [show (decide (0≤r.vars∧r.vars≤6∧0≤r.imms∧r.imms≤6)&&vn&&decide (r.conds.length≤6))=false from ?_]
   ·simp
   ·rw [Bool.eq_false_iff];intro q;simp only [Bool.and_eq_true,decide_eq_true_eq] at q;obtain ⟨⟨⟨q1,q2,q3,q4⟩,q5⟩,q6⟩:=q;rw [←F1.out,←F2.out,←F3.out,←F4.out,←F6.out,q5] at hT;simp at hT;omega
  have HU:=hU.then_non u1;clear hT;go_wp2_with fail
  go_ret;exact ⟨by rw [HF.out];rfl,HU⟩
 | false =>
  obtain ⟨hv,h6,hvn⟩:(0≤r.vars∧r.vars≤6∧0≤r.imms∧r.imms≤6)∧r.conds.length≤6∧vn=true:=by
   rw [←F1.out,←F2.out,←F3.out,←F4.out,←F6.out] at hT;simp only [Bool.or_eq_false_iff,decide_eq_false_iff_not,Bool.not_eq_false'] at hT;obtain ⟨⟨⟨⟨⟨q1,q2⟩,q3⟩,q4⟩,q5⟩,q6⟩:=hT;exact ⟨by omega,by omega,q5⟩
  subst hvn;rw [dT_ hv,dT_ h6] at HR1;have H6:=h_ h6;have HT:=h_ hT;clear h6 hT CN F1 F2 F3 F4 F6;obtain ⟨n,Hn⟩:∃n:Nat,Hid (r.vars=(n:Int)):=Int.eq_ofNat_of_zero_le hv.1;obtain ⟨m,Hm⟩:∃m:Nat,Hid (r.imms=(m:Int)):=Int.eq_ofNat_of_zero_le hv.2.2.1;have hn6:n≤6:=by have:=Hn.out;omega
  have hm6:m≤6:=by have:=Hm.out;omega
  have HVN:Hid (r.vars.toNat=n):=by show _=_;rw [Hn.out];rfl
  rw [HVN.out,Hm.out] at HR1;rw [show ((m:Int)).toNat=m from rfl] at HR1;clear hv;obtain ⟨d0,g0⟩:∃b,(r.l.v != 0)=b:=⟨_,rfl⟩;obtain ⟨d1,g1⟩:∃b,decide ((24:Int)<(r.l.size:Int))=b:=⟨_,rfl⟩;obtain ⟨d2,g2⟩:∃b,decide ((24:Int)<(r.r.size:Int))=b:=⟨_,rfl⟩;have G0:=h_ g0;have G1:=h_ g1;have G2:=h_ g2
  go_upto_region 3 with fail
  go_cut [54] (fun t wx=>t=.bool (d0 || d1 || d2)∧Upd Non W wx)
  case first =>
   cases d0 with
   | true=>go_wp2_with fail;go_meet;exact ⟨rfl,u1⟩
   | false =>
    go_wp2_with fail
    refine (CSL.out _ u1).mono ?_;rintro e w2 ⟨rfl,u2⟩;have U2:=u1.then_non u2;obtain ⟨c0,c1,c2,c3,c4,c5,c6,c7,c8,c9,c10,c11,c12,c13⟩:=HC.out _ U2
    cases d1 with
    | true=>go_wp2_with fail;go_meet;exact ⟨rfl,U2⟩
    | false =>
     go_wp2_with fail
     refine (CSR.out _ U2).mono ?_;rintro e w3 ⟨rfl,u3⟩;go_wp2_with fail
     go_meet;exact ⟨by cases d2 <;> rfl,U2.then_non u3⟩
  case rest =>
  obtain ⟨w2,rfl⟩:∃w2:World,w2=wc:=⟨_,rfl⟩;obtain ⟨rfl,u2⟩:=hcut;clear c0 c1 c2 c3 c4 c5 c6 c7 c8 c9 c10 c11 c12 c13 u1 g0 g1 g2;obtain ⟨c0,c1,c2,c3,c4,c5,c6,c7,c8,c9,c10,c11,c12,c13⟩:=HC.out _ u2
  cases hT:(d0 || d1 || d2) with
  | true =>
   have HF:Hid (R=false):=by
    show _=_;rw [HR1.out,dF_]
    ·simp
    ·rintro ⟨q1,q2,q3⟩;rw [←G0.out,←G1.out,←G2.out,q1] at hT;simp at hT;omega
   have HU:=hU.then_non u2;clear hT;go_wp2_with fail
   go_ret;exact ⟨by rw [HF.out];rfl,HU⟩
  | false =>
   have hq:r.l.v=0∧r.l.size≤24∧r.r.size≤24:=by
    rw [←G0.out,←G1.out,←G2.out] at hT;simp only [Bool.or_eq_false_iff,decide_eq_false_iff_not,bne_eq_false_iff_eq] at hT;obtain ⟨⟨q1,q2⟩,q3⟩:=hT;exact ⟨q1,by omega,by omega⟩
   rw [dT_ hq] at HR1;have HT2:=h_ hT;clear hT hq CSL CSR G0 G1 G2;have hmkN:=fun w=>run_mk (P:=Tryz.prog) T_ints' zero_int_ rfl (n+1) (by omega) (by omega) w
   rw [show ((n+1:Nat):Int)=(n:Int)+1 by omega] at hmkN;have hmkB:=fun w=>run_mk (P:=Tryz.prog) T_boolsX zero_boolX rfl (n+1) (by omega) (by omega) w
   rw [show ((n+1:Nat):Int)=(n:Int)+1 by omega] at hmkB;have hmkC:=fun w=>run_mk (P:=Tryz.prog) T_boolsX zero_boolX rfl (m+1) (by omega) (by omega) w
   rw [show ((m+1:Nat):Int)=(m:Int)+1 by omega] at hmkC;rw [Hn.out] at c12;rw [Hm.out] at c13;have HSZ:Hid (r.l.size≤1000000000000∧r.r.size≤1000000000000):=⟨HZ.out.l,HZ.out.r⟩;obtain ⟨w3,Hw3⟩:=nm (w2.alloc (.cells (Array.replicate (n+1) (.int .i64 0)) 3));have ew3:=Hw3.out;have uA:Upd Non w2 w3:=by rw [←ew3];exact Upd.refl.alloc _
   have hgA:VBlk w3 w2.heap.size (0::List.replicate n 0):=by rw [←ew3];exact VBlk.new0 _ _
   have u3:=u2.then_non uA;have hs2:=u2.size;have hsA:w3.heap.size=w2.heap.size+1:=by rw [←ew3];simp
   clear c0 c1 c2 c3 c4 c5 c6 c7 c8 c9 c10 c11;go_wp2_with fail
   obtain ⟨wD,HwD⟩:=nm w3.drew;have uD:Upd Non w3 wD:=by rw [←HwD.out];exact Upd.refl.drew
   have vD:=u3.then_non uD
   have HS:∀w',Upd Non W w'→(w'.cell? ⟨w.heap.size,1,none⟩=some (.int .i64 r.l.v)∧w'.cell? ⟨w.heap.size,2,none⟩=some (.int .i64 r.l.op)∧w'.cell? ⟨w.heap.size,3,none⟩=some (.int .i64 r.l.imm)∧w'.cell? ⟨w.heap.size,4,none⟩=some (.int .i64 r.l.iv)∧w'.cell? ⟨w.heap.size,5,none⟩=some (.slice a.la r.l.kids.length a.lc)∧w'.cell? ⟨w.heap.size,6,none⟩=some (.int .i64 r.r.v)∧w'.cell? ⟨w.heap.size,7,none⟩=some (.int .i64 r.r.op)∧w'.cell? ⟨w.heap.size,8,none⟩=some (.int .i64 r.r.imm)∧w'.cell? ⟨w.heap.size,9,none⟩=some (.int .i64 r.r.iv)∧w'.cell? ⟨w.heap.size,10,none⟩=some (.slice a.ra r.r.kids.length a.rc)∧w'.cell? ⟨w.heap.size,13,none⟩=some (.int .i64 m)):=fun w' u=>by
    obtain ⟨c0,c1,c2,c3,c4,c5,c6,c7,c8,c9,c10,c11,c12,c13⟩:=HC.out w' u;rw [Hm.out] at c13;exact ⟨c1,c2,c3,c4,c5,c6,c7,c8,c9,c10,c13⟩
   have HS:=h_ HS;have hFg:¬(fun k=>k<w.heap.size) w2.heap.size:=by show ¬w2.heap.size<w.heap.size;omega
   have C2:=h_ (r15fits_c r.l wD _ a.la a.lc w2.heap.size (n+1) 0 m (List.replicate n 0) (PtK.upd vD (fun _ _ _ f=>f) _ _ _ HK.out.l) hFg (Blk.upd hgA uD (fun f=>f)) HSZ.out.1 (by simp;omega) (by omega))
   rw [List.length_replicate] at C2;have hl1:(vPt r.l 0 m (List.replicate n 0)).2.length=n:=by rw [vPt_len,List.length_replicate]
   obtain ⟨p1,Hp1⟩:=nm (vPt r.l 0 m (List.replicate n 0)).1;obtain ⟨v1,Hv1⟩:=nm (vPt r.l 0 m (List.replicate n 0)).2;rw [Hp1.out,Hv1.out] at C2 HR1;rw [Hv1.out] at hl1;have HL1:=h_ hl1;unfold pv at C2;clear hl1 hgA;go_wp2_with fail
   refine wp_region_held_drew (S:=fun w'=>w'.cell? ⟨w.heap.size,1,none⟩=some (.int .i64 r.l.v)∧w'.cell? ⟨w.heap.size,2,none⟩=some (.int .i64 r.l.op)∧w'.cell? ⟨w.heap.size,3,none⟩=some (.int .i64 r.l.imm)∧w'.cell? ⟨w.heap.size,4,none⟩=some (.int .i64 r.l.iv)∧w'.cell? ⟨w.heap.size,5,none⟩=some (.slice a.la r.l.kids.length a.lc)∧w'.cell? ⟨w.heap.size,6,none⟩=some (.int .i64 r.r.v)∧w'.cell? ⟨w.heap.size,7,none⟩=some (.int .i64 r.r.op)∧w'.cell? ⟨w.heap.size,8,none⟩=some (.int .i64 r.r.imm)∧w'.cell? ⟨w.heap.size,9,none⟩=some (.int .i64 r.r.iv)∧w'.cell? ⟨w.heap.size,10,none⟩=some (.slice a.ra r.r.kids.length a.rc)∧w'.cell? ⟨w.heap.size,13,none⟩=some (.int .i64 m)) (by kernel_rfl) (by rw [HwD.out];exact HS.out _ vD) (fun hHeld=>?_)
   rw [HwD.out] at hHeld ⊢;refine wpT 0 ?_;(try simp only [y_,z_]);refine wpT 1 ?_;(try simp only [y_,z_]);refine wpT 2 ?_;(try simp only [y_,z_]);refine wpT 3 ?_;(try simp only [y_,z_]);refine wpT 4 ?_;(try simp only [y_,z_]);refine aR_ (rs:=[5]) (by kernel_rfl) (by simp) ?_;refine aC_ rfl (fun K hK=>?_) aN_;go_simp;refine C2.out.mono ?_;rintro e w5 ⟨rfl,hg5,u5⟩;have U5:Upd Non W w5:=vD.trans u5 (fun i hi h=>by omega);have HG5:=h_ hg5;clear hg5 C2;go_wp2_with fail
   refine hK.out _ _ ?_ (fun hHeld=>?_)
   ·exact HS.out _ U5
   clear hK K;(try simp only [y_,z_])
   cases p1 with
   | false =>
    refine wpT 6 ?_;(try simp only [y_,z_]);refine wpT 7 ?_;(try simp only [y_,z_]);refine wpU 8 ?_;(try simp only [y_,z_]);refine wpU 9 ?_;(try simp only [y_,z_]);refine wpU 10 ?_;(try simp only [y_,z_]);refine wpU 11 ?_;(try simp only [y_,z_]);refine wpU 12 ?_;(try simp only [y_,z_]);refine wpU 13 ?_;(try simp only [y_,z_]);refine wpU 14 ?_;(try simp only [y_,z_]);refine wpU 15 ?_;(try simp only [y_,z_]);refine wpU 16 ?_;(try simp only [y_,z_]);refine wpU 17 ?_;(try simp only [y_,z_]);refine wpU 18 ?_;(try simp only [y_,z_]);refine wpT 19 ?_;(try simp only [y_,z_]);refine aD_ (by kernel_rfl) ?_ _;have HF:Hid (R=false):=by show _=_;rw [HR1.out];simp
    have HU:=hU.then_non U5;go_wp2_with fail
    go_ret;exact ⟨by rw [HF.out];rfl,HU⟩
   | true =>
    have C3:=h_ (fun (w':World) (u:Upd Non w5 w')=>r15fits_c r.r w' _ a.ra a.rc w2.heap.size (n+1) (pSortF r.l.op) m v1 (PtK.upd (U5.then_non u) (fun _ _ _ f=>f) _ _ _ HK.out.r) hFg (Blk.upd HG5.out u (fun f=>f)) HSZ.out.2 (by rw [HL1.out];omega) (by omega))
    rw [HL1.out] at C3;have CP:=h_ (fun (w':World)=>pSort_c r.l.op w');obtain ⟨so,Hso⟩:=nm (pSortF r.l.op);rw [Hso.out] at C3 HR1 CP;have hl2:(vPt r.r so m v1).2.length=n:=by rw [vPt_len,HL1.out]
    obtain ⟨p2,Hp2⟩:=nm (vPt r.r so m v1).1;obtain ⟨v2,Hv2⟩:=nm (vPt r.r so m v1).2;rw [Hp2.out,Hv2.out] at C3 HR1;rw [Hv2.out] at hl2;have HL2:=h_ hl2;unfold pv at C3;clear hl2;refine wpT 6 ?_;(try simp only [y_,z_]);refine wpT 7 ?_;(try simp only [y_,z_]);refine wpT 8 ?_;(try simp only [y_,z_]);refine wpT 9 ?_;(try simp only [y_,z_]);refine wpT 10 ?_;(try simp only [y_,z_]);refine wpT 11 ?_;(try simp only [y_,z_]);refine wpT 12 ?_;(try simp only [y_,z_]);refine wpAnyH_takeC (i:=13) (v:=?v1) rfl (by kernel_rfl) (by kernel_rfl) (by kernel_rfl) (fun _ _ _ h=>h) ⟨by rfl,?f1,?a1,?r1,?c1⟩ (by assumption) ?m1
    case r1=>intro w;go_simp;constructor <;> with_reducible rfl
    case c1=>intro W hSw;refine (CP.out W).mono ?_;rintro e w' ⟨rfl,rfl⟩;constructor <;> with_reducible rfl
    (try simp only [y_,z_]);refine wpT 14 ?_;(try simp only [y_,z_]);refine wpT 15 ?_;(try simp only [y_,z_]);refine wpT 16 ?_;(try simp only [y_,z_]);refine aR_ (rs:=[17]) (by kernel_rfl) (by simp) ?_;refine aC_ rfl (fun K hK=>?_) aN_;go_simp;refine (C3.out _ Upd.refl).mono ?_;rintro e w7 ⟨rfl,hg7,u7⟩;have U7:Upd Non W w7:=U5.trans u7 (fun i hi h=>by omega);have HG7:=h_ hg7;clear hg7 C3;go_wp2_with fail
    refine hK.out _ _ ?_ (fun hHeld=>?_)
    ·exact HS.out _ U7
    clear hK K;(try simp only [y_,z_]);refine wpT 18 ?_;(try simp only [y_,z_]);refine wpT 19 ?_;(try simp only [y_,z_]);refine aD_ (by kernel_rfl) ?_ _
    cases p2 with
    | false =>
     have HF:Hid (R=false):=by show _=_;rw [HR1.out];simp
     have HU:=hU.then_non U7;go_wp2_with fail
     go_ret;exact ⟨by rw [HF.out];rfl,HU⟩
    | true =>
     obtain ⟨x1,Hx1⟩:=nm (((markV (nodes r.l) (List.replicate (n+1) false)).drop 1).all id);obtain ⟨x2,Hx2⟩:=nm (((markI (nodes r.l) (List.replicate (m+1) false)).drop 1).all id);obtain ⟨x3,Hx3⟩:=nm (r.conds.all fun c=>condF c (0::v2) (m:Int));rw [Hx1.out,Hx2.out,Hx3.out] at HR1;have HR2:Hid (R=(x1&&(x2&&x3))):=by show _=_;rw [HR1.out];simp [Bool.and_assoc]
     have HVL1:Hid ((markV (nodes r.l) (List.replicate (n+1) false)).length=n+1):=by show _=_;rw [Go.Proofs.YtdbjgihnngigeaaGreat.markV_len,List.length_replicate]
     have HIL1:Hid ((markI (nodes r.l) (List.replicate (m+1) false)).length=m+1):=by show _=_;rw [Go.Proofs.YtdbjgihnngigeaaGreat.markI_len,List.length_replicate]
     have HB1:Hid (x1=true↔∀i:Nat,1≤i→i≤n→(markV (nodes r.l) (List.replicate (n+1) false)).getD i false=true):=by
      show _↔_;rw [←Hx1.out,all_drop (d:=false) HVL1.out];rfl
     have HB2:Hid (x2=true↔∀i:Nat,1≤i→i≤m→(markI (nodes r.l) (List.replicate (m+1) false)).getD i false=true):=by
      show _↔_;rw [←Hx2.out,all_drop (d:=false) HIL1.out];rfl
     obtain ⟨w8,Hw8⟩:=nm (w7.alloc (.cells (Array.replicate (n+1) (.bool false)) 4));have ew8:=Hw8.out;have u8:Upd Non w7 w8:=by rw [←ew8];exact Upd.refl.alloc _
     have hgp:BBlk w8 w7.heap.size (List.replicate (n+1) false):=by rw [←ew8];exact BBlk.new _ _
     have hs8:w8.heap.size=w7.heap.size+1:=by rw [←ew8];simp
     obtain ⟨w9,Hw9⟩:=nm (w8.alloc (.cells (Array.replicate (m+1) (.bool false)) 4));have ew9:=Hw9.out;have u9:Upd Non w8 w9:=by rw [←ew9];exact Upd.refl.alloc _
     have hgi:BBlk w9 (w7.heap.size+1) (List.replicate (m+1) false):=by rw [←ew9,←hs8];exact BBlk.new _ _
     have hgp9:BBlk w9 w7.heap.size (List.replicate (n+1) false):=Blk.upd hgp u9 (fun f=>f);have U8:=U7.then_non u8;have U9:=U8.then_non u9;have hs7:=U7.size;have hFp:¬(fun k=>k<w.heap.size) w7.heap.size:=by show ¬w7.heap.size<w.heap.size;omega
     have hFi:¬(fun k=>k<w.heap.size) (w7.heap.size+1):=by show ¬w7.heap.size+1<w.heap.size;omega
     have C4:=h_ (r15occurring_c r.l w9 _ a.la a.lc w7.heap.size (n+1) (w7.heap.size+1) (m+1) (List.replicate (n+1) false) (List.replicate (m+1) false) (PtK.upd U9 (fun _ _ _ f=>f) _ _ _ HK.out.l) hFp hFi (by omega) hgp9 hgi HSZ.out.1)
     rw [List.length_replicate,List.length_replicate] at C4;obtain ⟨V1,HV1⟩:=nm (markV (nodes r.l) (List.replicate (n+1) false));obtain ⟨I1,HI1⟩:=nm (markI (nodes r.l) (List.replicate (m+1) false));rw [HV1.out] at C4 HVL1 HB1;rw [HI1.out] at C4 HIL1 HB2;unfold pv at C4;obtain ⟨_,_,_,_,_,_,_,_,_,_,_,_,d12,_⟩:=HC.out _ U7;rw [Hn.out] at d12;obtain ⟨_,_,_,_,_,_,_,_,_,_,_,_,_,d13⟩:=HC.out _ U8;rw [Hm.out] at d13;obtain ⟨_,f1,f2,f3,f4,f5,_,_,_,_,_,_,_,_⟩:=HC.out _ U9;clear hgp hgi hgp9 HR1 c12 c13;go_wp2_with fail
     refine C4.out.mono ?_;rintro e wA ⟨rfl,hgp,hgi,uA⟩;have UA:Upd Non W wA:=U9.trans uA (fun i hi h=>by omega);have HU:=hU.then_non UA
     have HGA:Hid (VBlk wA w2.heap.size (0::v2)):=by
      have h1:=Blk.upd HG7.out u8 (fun f=>f);have h2:=Blk.upd h1 u9 (fun f=>f);exact Blk.upd h2 uA (by have:=Blk.lt HG7.out;omega)
     clear C4 d12 d13 f1 f2 f3 f4 f5 hmkN hmkB hmkC;go_wp2_with fail
     go_loopg [6] n (fun g i wr=>∃k:Nat,Hid (g=n+1 - k)∧1≤k∧k≤n+1∧i=.int .i64 k∧Hid (∀j:Nat,1≤j→j<k→V1.getD j false=true)∧wA=wr)
     case atStart=>exact ⟨1,by show _=_;omega,by omega,by omega,rfl,fun j h1 h2=>by omega,rfl⟩
     case round =>
      obtain ⟨k,Hg,hk1,hk2,rfl,HA,rfl⟩:=hrel;by_cases hlt:k<n+1
      ·have t3:decide ((k:Int)<(n:Int)+1)=true:=dT_ (by omega);have hkN:(k:Int)<(n:Int)+1:=by omega
       have hk0:(0:Int)≤(k:Int):=by omega
       have z1:=BBlk.cell hgp (i:=k) (by rw [HVL1.out];omega);obtain ⟨z,Hz⟩:=nm (V1.getD k false);rw [Hz.out] at z1
       cases z with
       | false =>
        have hb:x1=false:=by
         rw [Bool.eq_false_iff];intro q;have:=HB1.out.1 q k hk1 (by omega);rw [Hz.out] at this;cases this
        have HF:Hid (R=false):=by show _=_;rw [HR2.out,hb];simp
        clear hb;go_wp2_with fail
        go_ret;exact ⟨by rw [HF.out];rfl,HU⟩
       | true =>
        have HA2:Hid (∀j:Nat,1≤j→j<k+1→V1.getD j false=true):=by
         intro j j1 j2;by_cases e:j=k
         ·rw [e];exact Hz.out
         ·exact HA.out j j1 (by omega)
        go_wp2_with fail
        go_roundg (n+1 - (k+1))
        case measure=>rw [Hg.out];omega
        case rel=>exact ⟨k+1,rfl,by omega,by omega,by go_num,HA2,rfl⟩
      ·have t3:decide ((k:Int)<(n:Int)+1)=false:=dF_ (by omega);have hb1:x1=true:=HB1.out.2 (fun i i1 i2=>HA.out i i1 (by omega));subst hb1;have HR3:Hid (R=(x2&&x3)):=by show _=_;rw [HR2.out];rfl
       clear HA Hg hk1 hk2 hlt;go_wp2_with fail
       go_loopg [7] m (fun g i wr=>∃k:Nat,Hid (g=m+1 - k)∧1≤k∧k≤m+1∧i=.int .i64 k∧Hid (∀j:Nat,1≤j→j<k→I1.getD j false=true)∧wA=wr)
       case atStart=>exact ⟨1,by show _=_;omega,by omega,by omega,rfl,fun j h1 h2=>by omega,rfl⟩
       case round =>
        obtain ⟨k,Hg,hk1,hk2,rfl,HA,rfl⟩:=hrel;by_cases hlt:k<m+1
        ·have t3:decide ((k:Int)<(m:Int)+1)=true:=dT_ (by omega);have hkN:(k:Int)<(m:Int)+1:=by omega
         have hk0:(0:Int)≤(k:Int):=by omega
         have z1:=BBlk.cell hgi (i:=k) (by rw [HIL1.out];omega);obtain ⟨z,Hz⟩:=nm (I1.getD k false);rw [Hz.out] at z1
         cases z with
         | false =>
          have hb:x2=false:=by
           rw [Bool.eq_false_iff];intro q;have:=HB2.out.1 q k hk1 (by omega);rw [Hz.out] at this;cases this
          have HF:Hid (R=false):=by show _=_;rw [HR3.out,hb];simp
          clear hb;go_wp2_with fail
          go_ret;exact ⟨by rw [HF.out];rfl,HU⟩
         | true =>
          have HA2:Hid (∀j:Nat,1≤j→j<k+1→I1.getD j false=true):=by
           intro j j1 j2;by_cases e:j=k
           ·rw [e];exact Hz.out
           ·exact HA.out j j1 (by omega)
          go_wp2_with fail
          go_roundg (m+1 - (k+1))
          case measure=>rw [Hg.out];omega
          case rel=>exact ⟨k+1,rfl,by omega,by omega,by go_num,HA2,rfl⟩
        ·have t3:decide ((k:Int)<(m:Int)+1)=false:=dF_ (by omega);have hb1:x2=true:=HB2.out.2 (fun i i1 i2=>HA.out i i1 (by omega));subst hb1;have HR4:Hid (R=(x3)):=by show _=_;rw [HR3.out];rfl
         clear HA Hg hk1 hk2 hlt;obtain ⟨cn,Hcn⟩:=nm r.conds.length;have hcn:=H6.out;rw [Hcn.out] at hcn;go_wp2_with fail
         go_loopg [8] cn (fun g i wr=>∃q:Nat,Hid (g=cn - q)∧q≤cn∧i=.int .i64 q∧Hid (∀j (h:j<r.conds.length),j<q→condF r.conds[j] (0::v2) (m:Int)=true)∧Upd Non wA wr)
         case atStart=>exact ⟨0,rfl,by omega,rfl,fun j h1 h2=>by omega,Upd.refl⟩
         case round =>
          obtain ⟨q,Hg,hq,rfl,HA,hu⟩:=hrel;have HUC:=UA.then_non hu;by_cases hlt:q<cn
          ·have hql:q<r.conds.length:=by rw [Hcn.out];exact hlt
           have hcv:=HK.out.c.upd HUC (fun _ _ _ f=>f);obtain ⟨cb,co,ecA,hF,hcb,k0,k1,k2,k3⟩:=hcv.at_ hql
           have hcond:Hid (∀b,condF r.conds[q] (0::v2) (m:Int)=b→(b=false→R=false)∧(b=true→∀j (h:j<r.conds.length),j<q+1→condF r.conds[j] (0::v2) (m:Int)=true)):=by
            intro b hb;refine ⟨fun h=>?_,fun h j hj1 hj2=>?_⟩
            ·rw [HR4.out,←Hx3.out,Bool.eq_false_iff];intro h2;rw [List.all_eq_true] at h2;have:=h2 _ (List.getElem_mem hql);rw [hb,h] at this;cases this
            ·by_cases e:j=q
             ·subst e;rw [hb,h]
             ·exact HA.out j hj1 (by omega)
           generalize r.conds[q]=x at *;obtain ⟨wE,HwE⟩:=nm wr.drew;have uE:Upd Non wr wE:=by rw [←HwE.out];exact Upd.refl.drew
           have UE:=HUC.then_non uE
           have HS3:Hid (∀w',Upd Non wr w'→(w'.cell? ⟨w.heap.size,11,none⟩=some (.slice (some ⟨cb,co,none⟩) cn a.cc)∧w'.cell? ⟨w.heap.size,13,none⟩=some (.int .i64 m)∧w'.cell? ⟨cb,co+q * 4,none⟩=some (.int .i64 x.kind)∧w'.cell? ⟨cb,co+q * 4+1,none⟩=some (.int .i64 x.a)∧w'.cell? ⟨cb,co+q * 4+2,none⟩=some (.int .i64 x.b)∧w'.cell? ⟨cb,co+q * 4+3,none⟩=some (.int .i64 x.n))):=fun w' u=>by
            obtain ⟨_,_,_,_,_,_,_,_,_,_,_,d11,_,d13⟩:=HC.out _ (HUC.then_non u);rw [ecA,Hcn.out] at d11;rw [Hm.out] at d13;exact ⟨d11,d13,u_ k0 u (fun f=>f),u_ k1 u (fun f=>f),u_ k2 u (fun f=>f),u_ k3 u (fun f=>f)⟩
           have CC:=h_ (r15validCond_c x (0::v2) (m:Int) (some ⟨w2.heap.size,0,none⟩) (n+1) (fun _=>True) wE (VBlk.ints (Blk.upd (Blk.upd HGA.out hu (fun f=>f)) uE (fun f=>f))))
           rw [List.length_cons,HL2.out] at CC;obtain ⟨cr,Hcr⟩:=nm (condF x (0::v2) (m:Int));rw [Hcr.out] at CC hcond;have HCD:=h_ (hcond.out cr rfl);have hq0:(0:Int)≤(q:Int):=by omega
           have hqn:(q:Int)<(cn:Int):=by omega
           obtain ⟨d11,d13,_⟩:=HS3.out wr Upd.refl;have t5:decide (q<cn)=true:=dT_ hlt;clear hcv hcond k0 k1 k2 k3 HA;go_wp2_with fail
           refine wp_region_held_drew (S:=fun w'=>w'.cell? ⟨w.heap.size,11,none⟩=some (.slice (some ⟨cb,co,none⟩) cn a.cc)∧w'.cell? ⟨w.heap.size,13,none⟩=some (.int .i64 m)∧w'.cell? ⟨cb,co+q * 4,none⟩=some (.int .i64 x.kind)∧w'.cell? ⟨cb,co+q * 4+1,none⟩=some (.int .i64 x.a)∧w'.cell? ⟨cb,co+q * 4+2,none⟩=some (.int .i64 x.b)∧w'.cell? ⟨cb,co+q * 4+3,none⟩=some (.int .i64 x.n)) (by kernel_rfl) (by rw [HwE.out];exact HS3.out _ uE) (fun hHeld=>?_)
           rw [HwE.out] at hHeld ⊢;refine wpT 0 ?_;(try simp only [y_,z_]);refine wpT 1 ?_;(try simp only [y_,z_]);refine wpT 2 ?_;(try simp only [y_,z_]);refine wpT 3 ?_;(try simp only [y_,z_]);refine wpT 4 ?_;(try simp only [y_,z_]);refine wpT 5 ?_;(try simp only [y_,z_]);refine wpT 6 ?_;(try simp only [y_,z_]);refine wpT 7 ?_;(try simp only [y_,z_]);refine aR_ (rs:=[8]) (by kernel_rfl) (by simp) ?_;refine aC_ rfl (fun K hK=>?_) aN_;go_simp;refine CC.out.mono ?_;rintro e wG ⟨rfl,uG⟩;go_wp2_with fail
           refine hK.out _ _ ?_ (fun hHeld=>?_)
           ·exact HS3.out _ (uE.then_non uG)
           clear hK K;(try simp only [y_,z_]);refine wpT 9 ?_;(try simp only [y_,z_]);refine aD_ (by kernel_rfl) ?_ _;have HU11:=(hu.then_non uE).then_non uG;have HU:=HU.then_non HU11
           cases cr with
           | false =>
            have HF:Hid (R=false):=HCD.out.1 rfl;go_wp2_with fail
            go_ret;exact ⟨by rw [HF.out];rfl,HU⟩
           | true =>
            have HA2:=h_ (HCD.out.2 rfl);go_wp2_with fail
            simp only [←ecA]
            go_roundg (cn - (q+1))
            case measure=>rw [Hg.out];omega
            case rel=>exact ⟨q+1,rfl,by omega,by go_num,HA2.out,HU11⟩
          ·obtain rfl:cn=q:=by omega
           have HF:Hid (R=true):=by
            show _=_;rw [HR4.out,←Hx3.out,List.all_eq_true];intro c hc;obtain ⟨j,hj,rfl⟩:=List.mem_iff_getElem.1 hc;exact HA.out j hj (by rw [←Hcn.out];exact hj)
           have HU:=HU.then_non hu;obtain ⟨_,_,_,_,_,_,_,_,_,_,_,d11,_,_⟩:=HC.out _ HUC;rw [Hcn.out] at d11;have t5:decide (cn<cn)=false:=by simp
           go_wp2_with fail
           go_ret;exact ⟨by rw [HF.out];rfl,HU⟩
set_option maxRecDepth 100000 in
set_option maxHeartbeats 16000000 in
theorem rApplicable_c (r:Rl) (a:RlA) (F:Nat→Prop) (w:World) (hk:RlK w F r a) (hz:RlSz r) :
  Calls Tryz.prog 11 #[rlv r a] w fun e w'=>e=.returned (.bool (applF r))∧Upd Non w w':=by
 obtain ⟨W,HW⟩:=nm (w.alloc (.cells (rlCells r a) 27));have hU:Upd Non w W:=by rw [←HW.out];exact Upd.refl.alloc _
 obtain ⟨rb,hrb⟩:∃b,w.heap.size=b:=⟨_,rfl⟩;have hb:Blk W rb 27 (rlCells r a):=by rw [←HW.out,←hrb];exact Blk.new _ _ _
 have e0:=HW.out;have hK:=(hk.mono (G:=fun k=>k<w.heap.size) (fun _ h _=>h)).upd hU (fun _ _ _ f=>f);have HC:=h_ (fun (w':World) (u:Upd Non W w')=>rl_cells (hb.upd u (fun f=>f)));obtain ⟨c0,c1,c2,c3,c4,c5,c6,c7,c8,c9,c10,c11,c12,c13⟩:=HC.out W Upd.refl;have CV:=h_ (validRule_c r a _ W hK hz);rw [←imp_ref] at CV;have HK:=h_ hK;have HU:=h_ hU;clear hk hz hK hb hU;unfold rlv at CV ⊢;unfold rlCells at CV e0 ⊢;by_cases hv:implF r=true
 ·have hi:=imok_of hv;have hvo:=applF_vo hv;rw [hv] at CV;have HV:=h_ hv;by_cases him:r.imms > 0
  ·have tim:decide (r.imms > 0)=true:=dT_ him;have HR:Hid (applF r=false):=by show _=_;unfold applF;rw [hv,dF_ (show ¬r.imms=0 by omega)];rfl
   clear him hi hvo hv;go_enter Tryz.func11,Tryz.ntmps11;go_wp2_with fail
   refine CV.out.mono ?_;rintro e w1 ⟨rfl,u1⟩;clear c0 c1 c2 c3 c4 c5 c6 c7 c8 c9 c10 c11 c12 c13;obtain ⟨c0,c1,c2,c3,c4,c5,c6,c7,c8,c9,c10,c11,c12,c13⟩:=HC.out w1 u1;go_wp2_with fail
   go_ret;exact ⟨by rw [HR.out];rfl,HU.out.then_non u1⟩
  ·have him0:r.imms=0:=by
    have h:=hv;rw [imp_ref] at h;unfold refF at h;simp only [Bool.and_eq_true,decide_eq_true_eq] at h;omega
   have tim:decide (r.imms > 0)=false:=dF_ him;have HAP:Hid (applF r=(supF r.l&&supF r.r&&decide (gR r≤6)&&r.conds.all fun c=>decide (1≤c.kind∧c.kind≤4))):=by show _=_;unfold applF;rw [hv,dT_ him0];rfl
   have CL:=h_ (fun (w':World) (u:Upd Non W w')=>rSupported_c 64 r.l w' _ a.la a.lc (PtK.upd u (fun _ _ _ f=>f) _ _ _ HK.out.l) hi.wl hvo.1 (by have:=hi.sl;omega))
   have CR:=h_ (fun (w':World) (u:Upd Non W w')=>rSupported_c 64 r.r w' _ a.ra a.rc (PtK.upd u (fun _ _ _ f=>f) _ _ _ HK.out.r) hi.wr hvo.2 (by have:=hi.sr;omega))
   unfold pv at CL CR;have hgl:=gN_le r.l;have hgr:=gN_le r.r;have hsl:=hi.sl;have hsr:=hi.sr;have HI:=h_ hi;have HG:Hid (gR r=gN r.l+gN r.r):=rfl;obtain ⟨gl,Hgl⟩:=nm (gN r.l);obtain ⟨gr,Hgr⟩:=nm (gN r.r);rw [Hgl.out] at hgl HG;rw [Hgr.out] at hgr HG;have hglb:gl≤24:=by omega
   have hgrb:gr≤24:=by omega
   clear hi hvo him0 him hv hgl hgr hsl hsr;obtain ⟨sl,Hsl⟩:=nm (supF r.l);obtain ⟨sr,Hsr⟩:=nm (supF r.r);unfold spR at CL CR;rw [Hsl.out,Hgl.out] at CL;rw [Hsr.out,Hgr.out] at CR;rw [Hsl.out,Hsr.out] at HAP;obtain ⟨nl,Hnl⟩:=nm (if sl=true then (gl:Int) else 0);obtain ⟨nr,Hnr⟩:=nm (if sr=true then (gr:Int) else 0);rw [Hnl.out] at CL;rw [Hnr.out] at CR;go_enter Tryz.func11,Tryz.ntmps11;go_wp2_with fail
   refine CV.out.mono ?_;rintro e w1 ⟨rfl,u1⟩;clear c0 c1 c2 c3 c4 c5 c6 c7 c8 c9 c10 c11 c12 c13;obtain ⟨c0,c1,c2,c3,c4,c5,c6,c7,c8,c9,c10,c11,c12,c13⟩:=HC.out w1 u1;go_wp2_with fail
   refine (CL.out w1 u1).mono ?_;rintro e w2 ⟨rfl,u2'⟩;have u2:=u1.then_non u2';clear c0 c1 c2 c3 c4 c5 c6 c7 c8 c9 c10 c11 c12 c13 u1 u2';obtain ⟨c0,c1,c2,c3,c4,c5,c6,c7,c8,c9,c10,c11,c12,c13⟩:=HC.out w2 u2;go_wp2_with fail
   refine (CR.out w2 u2).mono ?_;rintro e w3 ⟨rfl,u3'⟩;have u3:=u2.then_non u3';clear c0 c1 c2 c3 c4 c5 c6 c7 c8 c9 c10 c11 c12 c13 u2 u3';obtain ⟨c0,c1,c2,c3,c4,c5,c6,c7,c8,c9,c10,c11,c12,c13⟩:=HC.out w3 u3
   cases sl with
   | false =>
    have HR:Hid (applF r=false):=by show _=_;rw [HAP.out];rfl
    go_wp2_with fail
    go_ret;exact ⟨by rw [HR.out];rfl,HU.out.then_non u3⟩
   | true =>
    cases sr with
    | false =>
     have HR:Hid (applF r=false):=by show _=_;rw [HAP.out];rfl
     go_wp2_with fail
     go_ret;exact ⟨by rw [HR.out];rfl,HU.out.then_non u3⟩
    | true =>
     obtain rfl:(gl:Int)=nl:=by have:=Hnl.out;rwa [if_pos rfl] at this
     obtain rfl:(gr:Int)=nr:=by have:=Hnr.out;rwa [if_pos rfl] at this
     by_cases h6:gl+gr≤6
     ·have t6:decide (gl+gr > 6)=false:=dF_ (by omega);have t6':decide ((gl:Int)+(gr:Int) > 6)=false:=dF_ (by omega);have HAP2:Hid (applF r=r.conds.all fun c=>decide (1≤c.kind∧c.kind≤4)):=by show _=_;rw [HAP.out,HG.out,dT_ h6];rfl
      obtain ⟨CA,hCA⟩:∃x,a.ca=x:=⟨_,rfl⟩;have HCV:Hid (CondsV w3 (fun k=>k<w.heap.size) CA r.conds):=by rw [←hCA];exact HK.out.c.upd u3 (fun _ _ _ f=>f)
      rw [hCA] at c11;obtain ⟨nc,Hnc⟩:=nm r.conds.length;rw [Hnc.out] at c11;have hnc6:nc≤6:=by rw [←Hnc.out];exact HI.out.cn
      have HU3:=h_ (HU.out.then_non u3);clear hCA c0 c1 c2 c3 c4 c5 c6 c7 c8 c9 c10 c12 c13 u3 h6;go_wp2_with fail
      go_loopg [7] nc (fun gg i wr=>∃j:Nat,Hid (gg=nc - j)∧j≤nc∧i=.int .i64 j∧Hid ((r.conds.take j).all (fun c=>decide (1≤c.kind∧c.kind≤4))=true)∧wr=w3)
      case atStart=>exact ⟨0,rfl,by omega,rfl,by rw [List.take_zero];rfl,rfl⟩
      case round =>
       obtain ⟨j,Hg,hj,rfl,HT,rfl⟩:=hrel;by_cases hlt:j<nc
       ·have hjl:j<r.conds.length:=by rw [Hnc.out];exact hlt
        obtain ⟨b,o,rfl,_,hbw,k0,k1,k2,k3⟩:=HCV.out.at_ hjl;have hmem:=List.getElem_mem hjl;have htk:=List.take_succ_eq_append_getElem hjl;generalize r.conds[j]=cd at *;have hj0:(0:Int)≤(j:Int):=by omega
        have hjn:(j:Int)<(nc:Int):=by omega
        obtain ⟨kind,Hkind⟩:=nm cd.kind;rw [Hkind.out] at k0;by_cases hkk:1≤kind∧kind≤4
        ·have HT2:Hid ((r.conds.take (j+1)).all (fun c=>decide (1≤c.kind∧c.kind≤4))=true):=by show _=_;rw [htk,List.all_append,HT.out,List.all_cons,Hkind.out,dT_ hkk];rfl
         have h4:kind=1∨kind=2∨kind=3∨kind=4:=by omega
         clear hmem htk hkk;rcases h4 with h | h | h | h <;>
         ·subst h;go_wp2_with fail
          go_roundg (nc - (j+1))
          case measure=>rw [Hg.out];omega
          case rel=>exact ⟨j+1,rfl,by omega,by go_num,HT2.out,rfl⟩
        ·have HR:Hid (applF r=false):=by
          show _=_;rw [HAP2.out,Bool.eq_false_iff];intro q;have:=of_decide_eq_true (List.all_eq_true.1 q cd hmem);rw [Hkind.out] at this;exact hkk this
         obtain ⟨n1,n2,n3,n4⟩:(kind != 1)=true∧(kind != 2)=true∧(kind != 3)=true∧(kind != 4)=true:=by simp;omega
         clear hmem htk hkk;go_wp2_with fail
         go_ret;exact ⟨by rw [HR.out];rfl,HU3.out⟩
       ·obtain rfl:nc=j:=by omega
        have HR:Hid (applF r=true):=by show _=_;rw [HAP2.out];have:=HT.out;rwa [List.take_of_length_le (by rw [Hnc.out];exact Nat.le_refl _)] at this
        go_wp2_with fail
        go_ret;exact ⟨by rw [HR.out];rfl,HU3.out⟩
     ·have t6:decide (gl+gr > 6)=true:=dT_ (by omega);have t6':decide ((gl:Int)+(gr:Int) > 6)=true:=dT_ (by omega);have HR:Hid (applF r=false):=by show _=_;rw [HAP.out,HG.out,dF_ h6];rfl
      clear h6;go_wp2_with fail
      go_ret;exact ⟨by rw [HR.out];rfl,HU.out.then_non u3⟩
 ·have hv:implF r=false:=by simpa using hv
  rw [hv] at CV;have HR:Hid (applF r=false):=by show _=_;unfold applF;rw [hv];rfl
  clear hv;go_enter Tryz.func11,Tryz.ntmps11;go_wp2_with fail
  refine CV.out.mono ?_;rintro e w1 ⟨rfl,u1⟩;go_wp2_with fail
  go_ret;exact ⟨by rw [HR.out];rfl,HU.out.then_non u1⟩
theorem sortB_app (l m:List (List Bool)):sortB (l++m)=m.foldl (fun a x=>insB x a) (sortB l):=List.foldl_append
theorem sortB_snoc (l:List (List Bool)) (x:List Bool):sortB (l++[x])=insB x (sortB l):=sortB_app l [x]
theorem sortB_rinF (r:Rl):sortB (rinF r)=lvl r 0:=srt_ext (srt_sortB _) (lvl_srt r 0) (fun x=>by rw [mem_sortB,lvl_init,mem_rinF])
def nxB (r:Rl) (k i:Nat):List (List Bool):=if k<64 then ((lvl r k).take i).flatMap (succsF r k) else []
theorem nxB_succ {r:Rl} {k i:Nat} (hk:k<64) (hi:i<(lvl r k).length):nxB r k (i+1)=nxB r k i++succsF r k (lvl r k)[i]:=by
 unfold nxB;rw [if_pos hk,if_pos hk,List.take_succ_eq_append_getElem hi,List.flatMap_append];simp
theorem nxB_end (r:Rl) (i:Nat):nxB r 64 i=[]:=rfl
theorem nxB_all {r:Rl} {k:Nat} (hk:k<64):sortB (nxB r k (lvl r k).length)=lvl r (k+1):=by
 unfold nxB;rw [if_pos hk,List.take_length];rfl
structure RaM (w2 wr:World) (B:Nat) (A:Option Addr) (n c:Nat) (N:List (List Bool)) (OA:Option Addr) (on oc:Nat) (O:List (Nat×List Bool)):Prop where
 now:ElO ElRow 1 85 wr (U8B wr) A n c (N.map bbs)
 out:ElO ElAS 2 89 wr (U8B wr) OA on oc (O.map asE)
 upd:Upd Non w2 wr
 ob:∀i,At OA i→B≤i
 bs:B=w2.heap.size
section
variable {w2 wr w' w3 w4:World} {B n c on oc:Nat} {A OA:Option Addr} {N:List (List Bool)} {O:List (Nat×List Bool)}
theorem RaM.non (h:RaM w2 wr B A n c N OA on oc O) (u:Upd Non wr w'):RaM w2 w' B A n c N OA on oc O :=
 ⟨h.now.u8 elRow u (fun _ _ f=>f) (fun _ _ _ f=>f),h.out.u8 elAS u (fun _ _ f=>f) (fun _ _ _ f=>f),h.upd.then_non u,h.ob,h.bs⟩
theorem RaM.add (h:RaM w2 wr B A n c N OA on oc O) (u3:Upd Non wr w3) {cs:List Value} (hO:Own wr 89 2 OA on oc cs) (hC:ElCells ElAS 2 wr (fun i=>U8B wr i∧¬At OA i) cs (O.map asE)) {x:Nat×List Bool} {RA:Option Addr} {rc:Nat} (hrc:x.2.length≤rc) (hR:Sl wr (U8B wr) RA (u8s (bbs x.2)))
  {OA':Option Addr} {oc':Nat} (ho:Own w4 89 2 OA' (on+1) oc' (cs++[.int .i64 (x.1:Int),.slice RA x.2.length rc])) (u4:Upd (At OA) w3 w4) (hat:∀i,At OA' i→At OA i∨i=w3.heap.size) :
  RaM w2 w4 B A n c N OA' (on+1) oc' (O++[x]):=by
 have h3:=h.non u3;have hO3:=hO.upd u3 (fun _ _ f=>f);have d8:∀i q,Blk w3 i 5 q→¬At OA i:=fun i q hb=>hO3.ne_blk hb (by decide)
 obtain ⟨_,_,hAo,_⟩:=h3.now;have hbl:(bbs x.2).length=x.2.length:=by unfold bbs;rw [List.length_map]
 refine ⟨h3.now.u8 elRow u4 (fun i hi=>hAo.ne_type hO3 (by decide) hi) d8,?_,h3.upd.trans u4 (fun i hi q=>by have:=h.ob i q;have:=h.bs;omega),fun i hi=>?_,h.bs⟩
 ·rw [List.map_append];refine ElO.snoc8 elAS (by decide) h.out.1 hC u3 hO3 ?_ ho u4 hat;refine ⟨RA,rc,?_,?_,?_⟩
  ·show _=[Value.int .i64 ((x.1:Nat):Int),.slice RA (bbs x.2).length rc];rw [hbl]
  ·show (bbs x.2).length≤rc;rw [hbl];exact hrc
  ·refine (hR.mono (G:=fun i=>U8B wr i∧¬At OA i) (fun i _ q=>⟨q,?_⟩)).upd u3 (fun _ _ _ f=>f) |>.mono (fun i hi q=>⟨?_,q.2⟩)
   ·obtain ⟨z,hb⟩:=q;exact hO.ne_blk hb (by decide)
   ·exact q.1.upd u3 (fun f=>f)
 ·rcases hat i hi with q | q
  ·exact h.ob i q
  ·have h1:=h3.upd.size;have:=h.bs;omega
end
set_option maxRecDepth 100000 in
set_option maxHeartbeats 16000000 in
theorem rAutomaton_c (r:Rl) (a:RlA) (F:Nat→Prop) (w:World) (hk:RlK w F r a) (hz:RlSz r) (hI:RlI r) :
  Calls Tryz.prog 16 #[rlv r a] w fun e w'=>PvP r w e w':=by
 obtain ⟨W,HW⟩:=nm (w.alloc (.cells (rlCells r a) 27));have hU:Upd Non w W:=by rw [←HW.out];exact Upd.refl.alloc _
 obtain ⟨rb,hrb⟩:∃b,w.heap.size=b:=⟨_,rfl⟩;have hb:Blk W rb 27 (rlCells r a):=by rw [←HW.out,←hrb];exact Blk.new _ _ _
 have e0:=HW.out;have hK:=(hk.mono (G:=fun k=>k<w.heap.size) (fun _ h _=>h)).upd hU (fun _ _ _ f=>f);obtain ⟨c0,c1,c2,c3,c4,c5,c6,c7,c8,c9,c10,c11,c12,c13⟩:=rl_cells hb;have CB:=h_ (rApplicable_c r a _ W hK hz);have HU:=h_ hU;have HK:=h_ hK;have HBK:=h_ hb;clear hk hz hK hb hU;unfold rlv at CB ⊢;unfold rlCells at CB e0 ⊢;go_enter Tryz.func16,Tryz.ntmps16;go_wp2_with fail
 refine CB.out.mono ?_;rintro e w2 ⟨rfl,uu2⟩;obtain ⟨ap,Hap⟩:=nm (applF r);rw [Hap.out];have HU2:=h_ (HU.out.then_non uu2);have HB2:=h_ (HBK.out.upd uu2 (fun f=>f));have HK2:=h_ (HK.out.upd uu2 (fun _ _ _ f=>f));clear c0 c1 c2 c3 c4 c5 c6 c7 c8 c9 c10 c11 c12 c13 uu2 e0 CB HBK HK
 cases ap with
 | false =>
  go_wp2_with fail
  go_ret2;exact ⟨HU2.out,.inr ⟨autF_not Hap.out,rfl⟩⟩
 | true =>
  have hap:=Hap.out;obtain ⟨hg6,him⟩:=ub_sup hap;have hi:=imok_of him;have hst:=stN_le hi;have hsup:=applF_sup hap;have CI:=h_ (rInitStates_c r a _ w2 HK2.out hap);have HSP:=h_ hsup;have HRO:=h_ (rok_of hap hI);have HST:=h_ hst;have HI:=h_ hi;obtain ⟨sn,Hsn⟩:=nm (stN r);have hsn:sn≤4000:=by rw [←Hsn.out];exact hst
  have hsn0:0<sn:=by rw [←Hsn.out];unfold stN;omega
  have hv6:2 ^ r.vars.toNat≤64:=Nat.le_trans (Nat.pow_le_pow_right (by decide) (show r.vars.toNat≤6 by have:=hi.v6;omega)) (by decide);have HLL:Hid (∀k b,b∈lvl r k→b.length=sn):=fun k b h=>by rw [←Hsn.out];exact lvl_len hsup.1 hsup.2 k b h
  have HSL:Hid (∀k b,(succsF r k b).length=2 ^ r.vars.toNat):=succsF_len r
  have HSLN:Hid (∀k b,b.length=sn→∀x∈succsF r k b,x.length=sn):=fun k b hbl x hx=>by
   obtain ⟨h,_,rfl⟩:=List.mem_map.1 hx;rw [succF_len hsup.1 hsup.2 _ _ (by rw [hbl,Hsn.out]),Hsn.out]
  obtain ⟨H,HH⟩:=nm (2 ^ r.vars.toNat);rw [HH.out] at hv6 HSL;have hv0:=hi.v0;have hv6':r.vars.toNat≤6:=by have:=hi.v6;omega
  have HVV:Hid (0≤r.vars∧r.vars.toNat≤6):=⟨hv0,hv6'⟩;clear hsup hi hst him hap hv0 hv6';unfold rlv rlCells at CI;obtain ⟨c0,c1,c2,c3,c4,c5,c6,c7,c8,c9,c10,c11,c12,c13⟩:=rl_cells HB2.out;go_wp2_with fail
  refine CI.out.mono ?_;rintro e w3 ⟨FA,fn,fc,rfl,hF,_,u3⟩;clear c0 c1 c2 c3 c4 c5 c6 c7 c8 c9 c10 c11 c12 c13 CI;have hfn:fn=(rinF r).length:=by have:=hF.1;rw [List.length_map] at this;exact this
  have hfn6:fn≤64:=by rw [hfn,rinF_len];exact Nat.le_trans (Nat.pow_le_pow_right (by decide) hg6) (by decide)
  have HF:=h_ hF;have HFN:=h_ hfn;have HU3:=h_ u3;clear hF hfn u3 hg6;go_wp2_with fail
  go_loopg [4,6] fn (fun gg s4 s6 wr=>∃(i:Nat) (A:Option Addr) (n c:Nat),Hid (gg=fn - i)∧i≤fn∧s4=.slice A n c∧s6=.int .i64 i∧n≤i∧Hid (ElO ElRow 1 85 wr (U8B wr) A n c ((sortB ((rinF r).take i)).map bbs))∧Hid (Upd Non w3 wr))
  case atStart=>exact ⟨0,none,0,0,rfl,by omega,rfl,rfl,Nat.le_refl _,by rw [List.take_zero];exact ElO.none_,Upd.refl⟩
  case round =>
   obtain ⟨i,A,n,c,Hg,hi,rfl,rfl,hni,HN,HUr⟩:=hrel;obtain ⟨wi,rfl⟩:∃x:World,x=wr:=⟨_,rfl⟩;by_cases hlt:i<fn
   ·have hil:i<(rinF r).length:=by rw [←HFN.out];exact hlt
    obtain ⟨g,RA,rc,rfl,y0,hrc,hsl⟩:=rows_at (HF.out.u8 elRow HUr.out (fun _ _ f=>f) (fun _ _ _ f=>f)) (i:=i) (by rw [List.length_map];exact hil);rw [List.getElem_map] at y0 hrc hsl;have hbl:(bbs (rinF r)[i]).length=sn:=by unfold bbs;rw [List.length_map,rinF_rows r _ (List.getElem_mem hil),Hsn.out]
    rw [hbl] at y0 hrc;rw [←b8s_u8s] at hsl;have C1:=h_ (rInsert_c (bc:=rc) (m:=sn) HN.out (by omega) (hsl.mono (fun _ _ q=>q.1)) (by rw [←hbl];unfold bbs;rw [List.length_map]) hrc)
    have HTK:Hid (insB (rinF r)[i] (sortB ((rinF r).take i))=sortB ((rinF r).take (i+1))):=by
     show _=_;rw [List.take_succ_eq_append_getElem hil,sortB_snoc]
    rw [HTK.out] at C1;have ti:(i:Int)<(fn:Int):=by omega
    have ti0:(0:Int)≤(i:Int):=by omega
    clear hrc hsl hbl;go_wp2_with fail
    refine C1.out.mono ?_;rintro e w5 ⟨A5,n5,c5,rfl,hN5,_,hn5,u5⟩;have HN5:=h_ hN5;have HU5:=h_ (HUr.out.then_non u5);clear hN5 u5 C1 y0;go_wp2_with fail
    go_roundg (fn - (i+1))
    case measure=>rw [Hg.out];omega
    case rel=>exact ⟨i+1,A5,n5,c5,rfl,by omega,rfl,by go_num,by omega,HN5.out,HU5.out⟩
   ·obtain rfl:fn=i:=by omega
    have hN0:=HN.out;rw [HFN.out,List.take_length,sortB_rinF] at hN0;have HM:Hid (RaM wi wi wi.heap.size A n c (lvl r 0) none 0 0 (lvls r 0)):=⟨hN0,ElO.none_,Upd.refl,fun i h=>(At.none_ h).elim,rfl⟩;have HU4:=h_ (HU3.out.then_non HUr.out);have HB4:=h_ (HB2.out.upd HU4.out (fun f=>f));have HK4:=h_ (HK2.out.upd HU4.out (fun _ _ _ f=>f));obtain ⟨B,HBB⟩:=nm wi.heap.size;rw [HBB.out] at HM;have HSZ:Hid (w.heap.size≤wi.heap.size):=(HU2.out.then_non HU4.out).size;have HU24:=h_ (HU2.out.then_non HU4.out);clear hN0;go_wp2_with fail
    go_loopg [4,7,8,9,10,11,12] 65 (fun gg s4 s7 s8 _ _ _ _ wr=>∃(k:Nat) (A:Option Addr) (n c:Nat) (OA:Option Addr) (on oc:Nat) (N:List (List Bool)),Hid (gg=65 - k)∧k≤65∧s4=.slice A n c∧s7=.slice OA on oc∧s8=.int .i64 k∧on≤4096∧n≤300000∧Hid (k<65→N=lvl r k)∧Hid (k=65→∀b∈lvl r 64,safeF r b=true)∧Hid (RaM wi wr B A n c N OA on oc (lvls r k)))
    case atStart=>exact ⟨0,A,n,c,none,0,0,lvl r 0,rfl,by omega,rfl,rfl,rfl,by omega,by omega,fun _=>rfl,fun h=>by omega,HM.out⟩
    case round =>
     clear HM HN HF HFN HUr Hg;obtain ⟨k,A,n,c,OA,on,oc,N,Hg,hk,rfl,rfl,rfl,hon,hn3,HN0,HSF,HMr⟩:=hrel;obtain ⟨wk,rfl⟩:∃x:World,x=wr:=⟨_,rfl⟩;by_cases hlt:k<65
     ·have tk:decide ((k:Int)≤64)=true:=dT_ (by omega);obtain rfl:=HN0.out hlt;have HNL:Hid (n=(lvl r k).length):=by show _=_;have:=HMr.out.now.1;rw [List.length_map] at this;exact this
      go_wp2_with fail
      go_loopg [7,9,10,11,12] n (fun gg s7 s9 s10 _ _ wr=>∃(i:Nat) (OA:Option Addr) (on oc:Nat) (NA:Option Addr) (nn nc:Nat),Hid (gg=n - i)∧i≤n∧s7=.slice OA on oc∧s9=.slice NA nn nc∧s10=.int .i64 i∧on≤4096∧nn≤i * 64∧Hid (k=64→∀b∈(lvl r k).take i,safeF r b=true)∧Hid (RaM wi wr B A n c (lvl r k) OA on oc (lvls r k++((lvl r k).take i).map fun b=>(k,b)))∧Hid (ElO ElRow 1 85 wr (U8B wr) NA nn nc ((sortB (nxB r k i)).map bbs)))
      case atStart=>exact ⟨0,OA,on,oc,none,0,0,rfl,by omega,rfl,rfl,rfl,hon,by omega,(fun _ b hb=>by rw [List.take_zero] at hb;cases hb),by rw [List.take_zero,List.map_nil,List.append_nil];exact HMr.out,by unfold nxB;rw [List.take_zero];simp only [List.flatMap_nil,ite_self];exact ElO.none_⟩
      case round =>
       clear HMr;obtain ⟨i,OA,on,oc,NA,nn,nc,Hg2,hi,rfl,rfl,rfl,hon,hnn,HSF2,HMr,HNX⟩:=hrel;obtain ⟨wj,rfl⟩:∃x:World,x=wr:=⟨_,rfl⟩;by_cases hin:i<n
       ·have hil:i<(lvl r k).length:=by rw [←HNL.out];exact hin
        obtain ⟨g,RA,rc,rfl,y0,hrc,hsl⟩:=rows_at HMr.out.now (i:=i) (by rw [List.length_map];exact hil);rw [List.getElem_map] at y0 hrc hsl;have hbm:=List.getElem_mem hil;have htk:=List.take_succ_eq_append_getElem hil;have HNS:Hid (k<64→nxB r k (i+1)=nxB r k i++succsF r k (lvl r k)[i]):=fun h=>nxB_succ h hil
        have HAT:Hid (∀w',RaM wi w' B (some ⟨g,0,none⟩) n c (lvl r k) OA on oc []→True):=fun _ _=>trivial
        generalize hbe:(lvl r k)[i]=b at y0 hrc hsl hbm htk HNS;have hbl:b.length=sn:=HLL.out k b hbm;have hbb:(bbs b).length=sn:=by unfold bbs;rw [List.length_map,hbl]
        rw [hbb] at y0 hrc;obtain ⟨hoL,cs,hoO,hcO⟩:=HMr.out.out
        have HADD:Hid (∀{w3 w4:World} (u3:Upd Non wj w3) {OA':Option Addr} {oc':Nat} (ho:Own w4 89 2 OA' (on+1) oc' (cs++[.int .i64 (k:Int),.slice RA sn rc])) (u4:Upd (At OA) w3 w4) (hat:∀i,At OA' i→At OA i∨i=w3.heap.size),RaM wi w4 B (some ⟨g,0,none⟩) n c (lvl r k) OA' (on+1) oc' (lvls r k++((lvl r k).take (i+1)).map fun b=>(k,b))∧ElO ElRow 1 85 w4 (U8B w4) NA nn nc ((sortB (nxB r k i)).map bbs)):=fun {w3 w4} u3 {OA'} {oc'} ho u4 hat=>by
         have h1:=HMr.out.add (x:=(k,b)) u3 hoO hcO (by rw [hbl];exact hrc) (hsl.mono (fun _ _ q=>q.1)) (by show Own _ _ _ _ _ _ (cs++[.int .i64 (k:Int),.slice RA b.length rc]);rw [hbl];exact ho) u4 hat
         refine ⟨by rw [htk,List.map_append,←List.append_assoc];exact h1,?_⟩;have hO3:=hoO.upd u3 (fun _ _ f=>f);have h2:=HNX.out.u8 elRow u3 (fun _ _ f=>f) (fun _ _ _ f=>f);have h2':=h2;obtain ⟨_,_,hAo,_⟩:=h2';exact h2.u8 elRow u4 (fun i hi=>hAo.ne_type hO3 (by decide) hi) (fun i q hb=>hO3.ne_blk hb (by decide))
        have HOL:Hid (on=(lvls r k++((lvl r k).take i).map fun b=>(k,b)).length):=by show _=_;rw [hoL,List.length_map]
        have HBM:=h_ hbm;have HTK:Hid ((lvl r k).take (i+1)=(lvl r k).take i++[b]):=htk;have HBL:=h_ hbl;have HBE:=h_ hbe
        have hlen1:(lvls r k++((lvl r k).take (i+1)).map fun b=>(k,b)).length=on+1:=by
         rw [htk,List.map_append,←List.append_assoc,List.length_append,←HOL.out];rfl
        have HLN:=h_ hlen1;have ti0:(0:Int)≤(i:Int):=by omega
        have ti1:(i:Int)<(n:Int):=by omega
        have hi4:i≤4096:=by have:=HOL.out;rw [List.length_append,List.length_map,List.length_take] at this;omega
        have HNO:Hid (autF r=none→∀w',Upd Non wi w'→PvP r w (.returned (.tuple #[.slice none 0 0,.bool false])) w'):=fun h w' uu=>⟨HU24.out.then_non uu,.inr ⟨h,rfl⟩⟩
        clear hcO hoL hsl hbm htk hbl hbb hbe hrc hlen1
        go_wp2_with (at_builtin;refine wpList_app rfl rfl T_AStates rfl (hoO.alloc _) rfl (Sl.new _ _ _) rfl (by simp [Value.oneCell']) (by simp only [maxLen];omega) (by omega) ?_)
        intro A8 c8 w8 ho8 hu8 hat8;obtain ⟨hm8,hn8⟩:=HADD.out (Upd.refl.alloc _) ho8 hu8 (fun i q=>(hat8 i q).imp id (fun z=>by rw [z];simp));have HM8:=h_ hm8;have HN8:=h_ hn8;obtain ⟨o1,Ho1⟩:=nm (on+1);rw [Ho1.out] at HM8 HLN ⊢;clear hm8 hn8 ho8 hu8 hat8 HADD HMr HNX hoO y0;have hk64:k≤64:=by omega
        by_cases hlong:4096<o1
        ·have tl:decide ((o1:Int) > 4096)=true:=dT_ (by omega);have tln:decide (4096<o1)=true:=dT_ hlong
         go_upto_region 18 with fail
         refine wp_region_held_drew (S:=fun w'=>True) (by kernel_rfl) trivial (fun hHeld=>?_);refine wpT 0 ?_;(try simp only [y_,z_]);refine wpT 1 ?_;(try simp only [y_,z_]);refine wpT 2 ?_;(try simp only [y_,z_]);refine wpT 3 ?_;(try simp only [y_,z_]);refine wpU 4 ?_;(try simp only [y_,z_]);refine wpU 5 ?_;(try simp only [y_,z_]);refine wpU 6 ?_;(try simp only [y_,z_]);refine wpU 7 ?_;(try simp only [y_,z_]);refine wpU 8 ?_;(try simp only [y_,z_]);refine wpU 9 ?_;(try simp only [y_,z_]);refine wpU 10 ?_;(try simp only [y_,z_]);refine wpU 11 ?_;(try simp only [y_,z_]);refine wpU 12 ?_;(try simp only [y_,z_]);refine wpU 13 ?_;(try simp only [y_,z_]);refine wpU 14 ?_;(try simp only [y_,z_]);refine wpT 15 ?_;(try simp only [y_,z_]);refine aD_ (by kernel_rfl) ?_ _;clear hHeld;go_wp2_with fail
         go_ret2;refine HNO.out (autF_long hk64 (P:=lvls r k++((lvl r k).take (i+1)).map fun b=>(k,b)) ?_ (by rw [HLN.out];exact hlong)) _ (HM8.out.upd.drewN 1);rw [lvls_succ];exact List.Sublist.append_left ((List.take_sublist _ _).map _) _
        ·have tl:decide ((o1:Int) > 4096)=false:=dF_ (by omega);have tln:decide (4096<o1)=false:=dF_ hlong;obtain ⟨g8,RA8,rc8,eA8,y8,hrc8,hsl8⟩:=rows_at HM8.out.now (i:=i) (by rw [List.length_map];exact hil);injection eA8 with eA8
         injection eA8 with eA8
         subst eA8;rw [List.getElem_map,HBE.out] at y8 hrc8 hsl8;have hbb8:(bbs b).length=sn:=by unfold bbs;rw [List.length_map,HBL.out]
         rw [hbb8] at y8 hrc8;rw [←b8s_u8s] at hsl8;have HS8:Hid (∀w',Upd Non w8 w'→Sl w' (fun _=>True) RA8 (b8s b)):=fun w' u=>(hsl8.upd u (fun _ _ _ f=>f)).mono (fun _ _ _=>trivial)
         have HK8:Hid (∀w',Upd Non w8 w'→RlK w' (fun _=>True) r a):=fun w' u=>(HK4.out.upd (HM8.out.upd.then_non u) (fun _ _ _ f=>f)).mono (fun _ _ _=>trivial)
         have HRC8:=h_ hrc8;have HR8:=h_ (fun (w':World) (u:Upd Non w8 w')=>rl_cells (HB4.out.upd (HM8.out.upd.then_non u) (fun f=>f)));have HY8:=h_ (fun (w':World) (u:Upd Non w8 w')=>u_ (S:=Non) y8 u (fun f=>f));clear hbb8 hsl8 hrc8 y8;by_cases h64:k=64
         ·subst h64;have t64:((64:Nat):Int)==64:=by decide
          have CS:Hid (∀w',Upd Non w8 w'→Calls Tryz.prog 43 #[rlv r a,.slice RA8 sn rc8] w' fun e w''=>e=.returned (.bool (safeF r b))∧Upd Non w' w''):=fun w' u=>by
           have h:=rSafe_c r a HSP.out.1 HSP.out.2 HI.out.wl HI.out.wr HI.out.cn HST.out (b:=b) (bc:=rc8) (by rw [HBL.out,Hsn.out]) (HK8.out w' u) (HS8.out w' u) (by rw [HBL.out];exact HRC8.out)
           rwa [HBL.out] at h
          obtain ⟨sf,Hsf⟩:=nm (safeF r b);rw [Hsf.out] at CS;unfold rlv rlCells at CS;obtain ⟨W9,HW9⟩:=nm w8.drew;have u9:Upd Non w8 W9:=by rw [←HW9.out];exact Upd.refl.drew
          have HU9:=h_ u9;have hS9:=HR8.out W9 u9;have hy9:=HY8.out W9 u9;clear u9
          cases sf with
          | false =>
           go_upto_region 18 with fail
           refine wp_region_held_drew (S:=fun w'=>w'.cell? ⟨g,i,none⟩=some (.slice RA8 sn rc8)∧w'.cell? ⟨rb,0,none⟩=some (.string r.name)∧w'.cell? ⟨rb,1,none⟩=some (.int .i64 r.l.v)∧w'.cell? ⟨rb,2,none⟩=some (.int .i64 r.l.op)∧w'.cell? ⟨rb,3,none⟩=some (.int .i64 r.l.imm)∧w'.cell? ⟨rb,4,none⟩=some (.int .i64 r.l.iv)∧w'.cell? ⟨rb,5,none⟩=some (.slice a.la r.l.kids.length a.lc)∧w'.cell? ⟨rb,6,none⟩=some (.int .i64 r.r.v)∧w'.cell? ⟨rb,7,none⟩=some (.int .i64 r.r.op)∧w'.cell? ⟨rb,8,none⟩=some (.int .i64 r.r.imm)∧w'.cell? ⟨rb,9,none⟩=some (.int .i64 r.r.iv)∧w'.cell? ⟨rb,10,none⟩=some (.slice a.ra r.r.kids.length a.rc)∧w'.cell? ⟨rb,11,none⟩=some (.slice a.ca r.conds.length a.cc)∧w'.cell? ⟨rb,12,none⟩=some (.int .i64 r.vars)∧w'.cell? ⟨rb,13,none⟩=some (.int .i64 r.imms)) (by kernel_rfl) (by rw [HW9.out];exact ⟨hy9,hS9⟩) (fun hHeld=>?_)
           rw [HW9.out] at hHeld ⊢;refine wpT 0 ?_;(try simp only [y_,z_]);refine wpT 1 ?_;(try simp only [y_,z_]);refine wpT 2 ?_;(try simp only [y_,z_]);refine wpT 3 ?_;(try simp only [y_,z_]);refine wpT 4 ?_;(try simp only [y_,z_]);refine wpT 5 ?_;(try simp only [y_,z_]);refine wpT 6 ?_;(try simp only [y_,z_]);refine wpT 7 ?_;(try simp only [y_,z_]);refine wpT 8 ?_;(try simp only [y_,z_]);refine wpT 9 ?_;(try simp only [y_,z_]);refine wpT 10 ?_;(try simp only [y_,z_]);refine wpT 11 ?_;(try simp only [y_,z_]);refine aR_ (rs:=[12]) (by kernel_rfl) (by simp) ?_;refine aC_ rfl (fun K hK=>?_) aN_;go_simp;refine (CS.out W9 HU9.out).mono ?_;rintro e w10 ⟨rfl,u10⟩;refine hK.out _ _ ?_ (fun hHeld=>?_)
           ·exact ⟨HY8.out w10 (HU9.out.then_non u10),HR8.out w10 (HU9.out.then_non u10)⟩
           clear hK K;(try simp only [y_,z_]);refine wpT 13 ?_;(try simp only [y_,z_]);refine wpT 14 ?_;(try simp only [y_,z_]);refine wpT 15 ?_;(try simp only [y_,z_]);refine aD_ (by kernel_rfl) ?_ _;have HU10:=h_ (HU9.out.then_non u10);clear hHeld hy9 hS9 u10;go_wp2_with fail
           go_ret2;exact HNO.out (autF_bad HBM.out Hsf.out) _ (HM8.out.upd.then_non HU10.out)
          | true =>
           have HSF3:Hid (∀b'∈(lvl r 64).take (i+1),safeF r b'=true):=fun b' hb'=>by
            rw [HTK.out,List.mem_append,List.mem_singleton] at hb';rcases hb' with hb' | rfl
            ·exact HSF2.out (by first | rfl | trivial) b' hb'
            ·exact Hsf.out
           go_upto_region 18 with fail
           refine wp_region_held_drew (S:=fun w'=>w'.cell? ⟨g,i,none⟩=some (.slice RA8 sn rc8)∧w'.cell? ⟨rb,0,none⟩=some (.string r.name)∧w'.cell? ⟨rb,1,none⟩=some (.int .i64 r.l.v)∧w'.cell? ⟨rb,2,none⟩=some (.int .i64 r.l.op)∧w'.cell? ⟨rb,3,none⟩=some (.int .i64 r.l.imm)∧w'.cell? ⟨rb,4,none⟩=some (.int .i64 r.l.iv)∧w'.cell? ⟨rb,5,none⟩=some (.slice a.la r.l.kids.length a.lc)∧w'.cell? ⟨rb,6,none⟩=some (.int .i64 r.r.v)∧w'.cell? ⟨rb,7,none⟩=some (.int .i64 r.r.op)∧w'.cell? ⟨rb,8,none⟩=some (.int .i64 r.r.imm)∧w'.cell? ⟨rb,9,none⟩=some (.int .i64 r.r.iv)∧w'.cell? ⟨rb,10,none⟩=some (.slice a.ra r.r.kids.length a.rc)∧w'.cell? ⟨rb,11,none⟩=some (.slice a.ca r.conds.length a.cc)∧w'.cell? ⟨rb,12,none⟩=some (.int .i64 r.vars)∧w'.cell? ⟨rb,13,none⟩=some (.int .i64 r.imms)) (by kernel_rfl) (by rw [HW9.out];exact ⟨hy9,hS9⟩) (fun hHeld=>?_)
           rw [HW9.out] at hHeld ⊢;refine wpT 0 ?_;(try simp only [y_,z_]);refine wpT 1 ?_;(try simp only [y_,z_]);refine wpT 2 ?_;(try simp only [y_,z_]);refine wpT 3 ?_;(try simp only [y_,z_]);refine wpT 4 ?_;(try simp only [y_,z_]);refine wpT 5 ?_;(try simp only [y_,z_]);refine wpT 6 ?_;(try simp only [y_,z_]);refine wpT 7 ?_;(try simp only [y_,z_]);refine wpT 8 ?_;(try simp only [y_,z_]);refine wpT 9 ?_;(try simp only [y_,z_]);refine wpT 10 ?_;(try simp only [y_,z_]);refine wpT 11 ?_;(try simp only [y_,z_]);refine aR_ (rs:=[12]) (by kernel_rfl) (by simp) ?_;refine aC_ rfl (fun K hK=>?_) aN_;go_simp;refine (CS.out W9 HU9.out).mono ?_;rintro e w10 ⟨rfl,u10⟩;refine hK.out _ _ ?_ (fun hHeld=>?_)
           ·exact ⟨HY8.out w10 (HU9.out.then_non u10),HR8.out w10 (HU9.out.then_non u10)⟩
           clear hK K;(try simp only [y_,z_]);refine wpT 13 ?_;(try simp only [y_,z_]);refine wpT 14 ?_;(try simp only [y_,z_]);refine wpT 15 ?_;(try simp only [y_,z_]);refine aD_ (by kernel_rfl) ?_ _;have HU10:=h_ (HU9.out.then_non u10);clear hHeld hy9 hS9 u10;have HM10:=h_ (HM8.out.non HU10.out)
           have HN10:Hid (ElO ElRow 1 85 w10 (U8B w10) NA nn nc ((sortB (nxB r 64 (i+1))).map bbs)):=by
            have h:=HN8.out;rw [nxB_end] at h;rw [nxB_end];exact h.u8 elRow HU10.out (fun _ _ f=>f) (fun _ _ _ f=>f)
           go_wp2_with fail
           go_roundg (n - (i+1))
           case measure=>rw [Hg2.out];omega
           case rel=>exact ⟨i+1,A8,o1,c8,NA,nn,nc,rfl,by omega,rfl,rfl,by go_num,by omega,by omega,fun _=>HSF3.out,HM10.out,HN10.out⟩
         ·have t64:((k:Int)==64)=false:=by simp;omega
          have t64n:decide (k=64)=false:=dF_ h64;have t64m:(k==64)=false:=by simp;omega
          have hk6:k<64:=by omega
          have t65:decide ((k:Int)<64)=true:=dT_ (by omega)
          have CS:Hid (∀w',Upd Non w8 w'→Calls Tryz.prog 44 #[rlv r a,.int .i64 k,.slice RA8 sn rc8] w' fun e w''=>∃NA n nc,e=.returned (.slice NA n nc)∧ElO ElRow 1 85 w'' (U8B w'') NA n nc ((succsF r k b).map bbs)∧(∀i,At NA i→w'.heap.size≤i)∧Upd Non w' w''):=fun w' u=>by
           have h:=rSuccessors_c r a k hk6 b (oc:=rc8) HRO.out HVV.out.1 HVV.out.2 HI.out.cn HST.out (by rw [HBL.out,Hsn.out]) (HK8.out w' u) (HS8.out w' u) (by rw [HBL.out];exact HRC8.out)
           rwa [HBL.out] at h
          unfold rlv rlCells at CS;obtain ⟨W9,HW9⟩:=nm w8.drew;have HU9:Hid (Upd Non w8 W9):=by show Upd Non w8 W9;rw [←HW9.out];exact Upd.refl.drew
          obtain ⟨W10,HW10⟩:=nm W9.drew;have u10:Upd Non w8 W10:=by rw [←HW10.out];exact HU9.out.then_non Upd.refl.drew
          have HU10:=h_ u10;have hS10:=HR8.out W10 u10;have hy10:=HY8.out W10 u10;clear u10
          go_upto_region 18 with fail
          refine wp_region_held_drew (S:=fun w'=>True) (by kernel_rfl) trivial (fun hHeld=>?_);rw [HW9.out];refine wpT 0 ?_;(try simp only [y_,z_]);refine wpT 1 ?_;(try simp only [y_,z_]);refine wpT 2 ?_;(try simp only [y_,z_]);refine wpT 3 ?_;(try simp only [y_,z_]);refine wpT 4 ?_;(try simp only [y_,z_]);refine wpT 5 ?_;(try simp only [y_,z_]);refine wpT 6 ?_;(try simp only [y_,z_]);refine wpU 7 ?_;(try simp only [y_,z_]);refine wpU 8 ?_;(try simp only [y_,z_]);refine wpU 9 ?_;(try simp only [y_,z_]);refine wpU 10 ?_;(try simp only [y_,z_]);refine wpU 11 ?_;(try simp only [y_,z_]);refine wpU 12 ?_;(try simp only [y_,z_]);refine wpU 13 ?_;(try simp only [y_,z_]);refine wpT 14 ?_;(try simp only [y_,z_]);refine wpT 15 ?_;(try simp only [y_,z_]);refine aD_ (by kernel_rfl) ?_ _;clear hHeld
          go_upto_region 21 with fail
          refine wp_region_held_drew (S:=fun w'=>w'.cell? ⟨g,i,none⟩=some (.slice RA8 sn rc8)∧w'.cell? ⟨rb,0,none⟩=some (.string r.name)∧w'.cell? ⟨rb,1,none⟩=some (.int .i64 r.l.v)∧w'.cell? ⟨rb,2,none⟩=some (.int .i64 r.l.op)∧w'.cell? ⟨rb,3,none⟩=some (.int .i64 r.l.imm)∧w'.cell? ⟨rb,4,none⟩=some (.int .i64 r.l.iv)∧w'.cell? ⟨rb,5,none⟩=some (.slice a.la r.l.kids.length a.lc)∧w'.cell? ⟨rb,6,none⟩=some (.int .i64 r.r.v)∧w'.cell? ⟨rb,7,none⟩=some (.int .i64 r.r.op)∧w'.cell? ⟨rb,8,none⟩=some (.int .i64 r.r.imm)∧w'.cell? ⟨rb,9,none⟩=some (.int .i64 r.r.iv)∧w'.cell? ⟨rb,10,none⟩=some (.slice a.ra r.r.kids.length a.rc)∧w'.cell? ⟨rb,11,none⟩=some (.slice a.ca r.conds.length a.cc)∧w'.cell? ⟨rb,12,none⟩=some (.int .i64 r.vars)∧w'.cell? ⟨rb,13,none⟩=some (.int .i64 r.imms)) (by kernel_rfl) (by rw [HW10.out];exact ⟨hy10,hS10⟩) (fun hHeld=>?_)
          rw [HW10.out] at hHeld ⊢;refine wpT 0 ?_;(try simp only [y_,z_]);refine wpT 1 ?_;(try simp only [y_,z_]);refine wpT 2 ?_;(try simp only [y_,z_]);refine wpT 3 ?_;(try simp only [y_,z_]);refine wpT 4 ?_;(try simp only [y_,z_]);refine wpT 5 ?_;(try simp only [y_,z_]);refine aR_ (rs:=[6]) (by kernel_rfl) (by simp) ?_;refine aC_ rfl (fun K hK=>?_) aN_;go_simp;refine (CS.out W10 HU10.out).mono ?_;rintro e w11 ⟨SA,sm,sc,rfl,hSE,_,u11⟩;refine hK.out _ _ ?_ (fun hHeld=>?_)
          ·exact ⟨HY8.out w11 (HU10.out.then_non u11),HR8.out w11 (HU10.out.then_non u11)⟩
          clear hK K;(try simp only [y_,z_]);refine wpT 7 ?_;(try simp only [y_,z_]);refine aD_ (by kernel_rfl) ?_ _;have HU11:=h_ (HU10.out.then_non u11);have HSE:=h_ hSE;have hsm:sm=H:=by have:=hSE.1;rw [List.length_map,HSL.out] at this;exact this
          subst hsm;have HSR:Hid (∀x∈succsF r k b,x.length=sn):=HSLN.out k b HBL.out;have HN11:Hid (ElO ElRow 1 85 w11 (U8B w11) NA nn nc ((sortB (nxB r k i)).map bbs)):=HN8.out.u8 elRow HU11.out (fun _ _ f=>f) (fun _ _ _ f=>f);clear hHeld hy10 hS10 u11 hSE CS;go_wp2_with fail
          go_loopg [9,12] sm (fun gg s9 s12 wr=>∃(j:Nat) (NA:Option Addr) (nn nc:Nat),Hid (gg=sm - j)∧j≤sm∧s9=.slice NA nn nc∧s12=.int .i64 j∧nn≤i * 64+j∧Hid (ElO ElRow 1 85 wr (U8B wr) NA nn nc ((sortB (nxB r k i++(succsF r k b).take j)).map bbs))∧Hid (Upd Non w11 wr))
          case atStart=>exact ⟨0,NA,nn,nc,rfl,by omega,rfl,rfl,by omega,by rw [List.take_zero,List.append_nil];exact HN11.out,Upd.refl⟩
          case round =>
           clear HN11 HN8;obtain ⟨j,NA,nn,nc,Hg3,hj,rfl,rfl,hnn4,HNj,HUj⟩:=hrel;obtain ⟨wh,rfl⟩:∃x:World,x=wr:=⟨_,rfl⟩;by_cases hjs:j<sm
           ·have hjl:j<(succsF r k b).length:=by rw [HSL.out];exact hjs
            obtain ⟨gs,RS,rs,rfl,z0,hrs,hsl⟩:=rows_at (HSE.out.u8 elRow HUj.out (fun _ _ f=>f) (fun _ _ _ f=>f)) (i:=j) (by rw [List.length_map];exact hjl)
            rw [List.getElem_map] at z0 hrs hsl;have hbl:(bbs (succsF r k b)[j]).length=sn:=by unfold bbs;rw [List.length_map,HSR.out _ (List.getElem_mem hjl)]
            rw [hbl] at z0 hrs;rw [←b8s_u8s] at hsl;have C1:=h_ (rInsert_c (bc:=rs) (m:=sn) HNj.out (by omega) (hsl.mono (fun _ _ q=>q.1)) (by rw [←hbl];unfold bbs;rw [List.length_map]) hrs)
            have HTJ:Hid (insB (succsF r k b)[j] (sortB (nxB r k i++(succsF r k b).take j))=sortB (nxB r k i++(succsF r k b).take (j+1))):=by
             show _=_;rw [List.take_succ_eq_append_getElem hjl,←List.append_assoc,sortB_snoc]
            rw [HTJ.out] at C1;have tj:(j:Int)<(sm:Int):=by omega
            have tj0:(0:Int)≤(j:Int):=by omega
            clear hrs hsl hbl;go_wp2_with fail
            refine C1.out.mono ?_;rintro e w12 ⟨A12,n12,c12,rfl,hN12,_,hn12,u12⟩;have HN12:=h_ hN12;have HU12:=h_ (HUj.out.then_non u12);clear hN12 u12 C1 z0;go_wp2_with fail
            go_roundg (sm - (j+1))
            case measure=>rw [Hg3.out];omega
            case rel=>exact ⟨j+1,A12,n12,c12,rfl,by omega,rfl,by go_num,by omega,HN12.out,HU12.out⟩
           ·obtain rfl:sm=j:=by omega
            have HNF:Hid (ElO ElRow 1 85 wh (U8B wh) NA nn nc ((sortB (nxB r k (i+1))).map bbs)):=by
             have h:=HNj.out;rw [List.take_of_length_le (by rw [HSL.out];exact Nat.le_refl _),←HNS.out hk6] at h;exact h
            have HMF:=h_ (HM8.out.non (HU11.out.then_non HUj.out));go_wp2_with fail
            go_roundg (n - (i+1))
            case measure=>rw [Hg2.out];omega
            case rel=>exact ⟨i+1,A8,o1,c8,NA,nn,nc,rfl,by omega,rfl,rfl,by go_num,by omega,by omega,fun e=>absurd e h64,HMF.out,HNF.out⟩
       ·obtain rfl:n=i:=by omega
        have HNE:Hid (lvls r k++((lvl r k).take n).map (fun b=>(k,b))=lvls r (k+1)):=by show _=_;rw [HNL.out,List.take_length,lvls_succ]
        have hn4:n≤4096:=by have h:=HMr.out.out.1;rw [List.length_map,List.length_append,List.length_map,List.length_take,←HNL.out] at h;omega
        have HMF:Hid (RaM wi wj B NA nn nc (sortB (nxB r k n)) OA on oc (lvls r (k+1))):=by
         have h:=HMr.out;rw [HNE.out] at h;exact ⟨HNX.out,h.out,h.upd,h.ob,h.bs⟩
        have HNK:Hid (k+1<65→sortB (nxB r k n)=lvl r (k+1)):=fun h=>by rw [HNL.out];exact nxB_all (by omega)
        have HSK:Hid (k+1=65→∀b∈lvl r 64,safeF r b=true):=fun h b hb=>by
         have hk4:k=64:=by omega
         subst hk4;exact HSF2.out rfl b (by rw [HNL.out,List.take_length];exact hb)
        go_wp2_with fail
        go_roundg (65 - (k+1))
        case measure=>rw [Hg.out];omega
        case rel=>exact ⟨k+1,NA,nn,nc,OA,on,oc,_,rfl,by omega,rfl,rfl,by go_num,hon,by omega,HNK.out,HSK.out,HMF.out⟩
     ·obtain rfl:k=65:=by omega
      have HFIN:Hid (PvP r w (.returned (.tuple #[.slice OA on oc,.bool true])) wk):=by
       have h:=HMr.out.out.1;rw [List.length_map] at h;refine ⟨HU24.out.then_non HMr.out.upd,.inl ⟨lvls r 65,OA,on,oc,autF_some.2 ⟨Hap.out,by omega,HSF.out rfl,rfl⟩,rfl,HMr.out.out,fun i hi=>?_⟩⟩
       have h1:=HMr.out.ob i hi;have h2:=HSZ.out;have h3:=HBB.out;omega
      go_wp2_with fail
      go_ret2;exact HFIN.out
end Go.Proofs.YtdbjgihnngigeaaGreat
