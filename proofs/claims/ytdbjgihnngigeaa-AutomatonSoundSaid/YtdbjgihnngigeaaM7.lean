/-
  Lemmas and walks that the claim rests on, part 7 (packed by a program).
-/
import Derived.Test.YtdbjgihnngigeaaM2
import Derived.Test.YtdbjgihnngigeaaM6
import Derived.Test.YtdbjgihnngigeaaM5
import Derived.Test.YtdbjgihnngigeaaM1
import Derived.Test.YtdbjgihnngigeaaRows
import Derived.ProofKit
import Derived.OpenShut
import Derived.SizedLaws
import Derived.Test.YtdbjgihnngigeaaM3
import Derived.IntWalk
namespace Go.Proofs.Ytdbjgihnngigeaa
open Go.RowKit
theorem aCond_one {w:World} {g:Nat} {x0 x1 x2 x3 x4 x5 x6 x7 x8 x9 x10 x11 x12 x13:Value} (b:Blk w g 28 #[x0,x1,x2,x3,x4,x5,x6,x7,x8,x9,x10,x11,x12,x13]) (c:Cd) :
  Blk ((w.alloc (.cells #[.int .i64 c.kind,.int .i64 c.a,.int .i64 c.b,.int .i64 c.n] 75)).setCell ⟨g,11,none⟩ (.slice (some ⟨w.heap.size,0,none⟩) 1 1)) g 28 #[x0,x1,x2,x3,x4,x5,x6,x7,x8,x9,x10,.slice (some ⟨w.heap.size,0,none⟩) 1 1,x12,x13] ∧
  CondsV ((w.alloc (.cells #[.int .i64 c.kind,.int .i64 c.a,.int .i64 c.b,.int .i64 c.n] 75)).setCell ⟨g,11,none⟩ (.slice (some ⟨w.heap.size,0,none⟩) 1 1)) (fun k=>w.heap.size≤k) (some ⟨w.heap.size,0,none⟩) [c] ∧
  Upd (·=g) w ((w.alloc (.cells #[.int .i64 c.kind,.int .i64 c.a,.int .i64 c.b,.int .i64 c.n] 75)).setCell ⟨g,11,none⟩ (.slice (some ⟨w.heap.size,0,none⟩) 1 1)):=by
 have hg:g<w.heap.size:=b.lt;have ua:Upd Non w (w.alloc (.cells #[.int .i64 c.kind,.int .i64 c.a,.int .i64 c.b,.int .i64 c.n] 75)):=Upd.refl.alloc _;have ba:=Blk.new w 75 #[.int .i64 c.kind,.int .i64 c.a,.int .i64 c.b,.int .i64 c.n];obtain ⟨W,HW⟩:=nm (w.alloc (.cells #[.int .i64 c.kind,.int .i64 c.a,.int .i64 c.b,.int .i64 c.n] 75));rw [HW.out] at ua ba ⊢;have us:Upd (·=g) W (W.setCell ⟨g,11,none⟩ (.slice (some ⟨w.heap.size,0,none⟩) 1 1)):=updCell _ _ _ _;have bs:=ba.upd us (by omega);refine ⟨by simpa using (b.upd ua (fun f=>f)).set_ 11 (.slice (some ⟨w.heap.size,0,none⟩) 1 1),.inr ⟨w.heap.size,0,rfl,Nat.le_refl _,fun i hi=>?_⟩,(ua.mono (fun _ _ f=>f.elim)).trans us (fun _ _ h=>h)⟩
 obtain rfl:i=0:=by simpa using hi
 exact ⟨bs.cell 0,bs.cell 1,bs.cell 2,bs.cell 3⟩
def sdA (p:Pt):Pt:=if 0<p.v then .mk 0 21 0 0 [p] else p
theorem condsV_one {w:World} {F:Nat→Prop} {e:Nat} (c:Cd) (b:Blk w e 75 #[.int .i64 c.kind,.int .i64 c.a,.int .i64 c.b,.int .i64 c.n]) (hF:F e):CondsV w F (some ⟨e,0,none⟩) [c]:=by
 refine .inr ⟨e,0,rfl,hF,fun i hi=>?_⟩;obtain rfl:i=0:=by simpa using hi
 exact ⟨b.cell 0,b.cell 1,b.cell 2,b.cell 3⟩
set_option maxRecDepth 100000 in
set_option maxHeartbeats 32000000 in
theorem aRule_c (w:World) (F:Nat→Prop) (A:Option Addr) (c:Nat) (xs:List Int) (hx:Ints w F A xs) (hc:xs.length≤c) (hI:∀x∈xs,I64 x) (hn:xs.length≤100000000000000) :
  Calls Try.prog 12 #[.slice A xs.length c] w fun e w'=>∃a:RlA,e=.returned (rlv (aRuleF (xs.take 16)) a)∧RlK w' (fun k=>w.heap.size≤k) (aRuleF (xs.take 16)) a∧Upd Non w w':=by
 have hx0:=hx.mono (G:=(·<w.heap.size)) (fun k hk _=>hk);obtain ⟨W,HW⟩:=nm (w.alloc (.cells #[.string ⟨#[]⟩,.int .i64 0,.int .i64 0,.int .i64 0,.int .i64 0,.slice none 0 0,.int .i64 0,.int .i64 0,.int .i64 0,.int .i64 0,.slice none 0 0,.slice none 0 0,.int .i64 0,.int .i64 0] 28))
 have hU:Upd Non w W:=by rw [←HW.out];exact Upd.refl.alloc _
 have hb:Blk W w.heap.size 28 #[.string ⟨#[]⟩,.int .i64 0,.int .i64 0,.int .i64 0,.int .i64 0,.slice none 0 0,.int .i64 0,.int .i64 0,.int .i64 0,.int .i64 0,.slice none 0 0,.slice none 0 0,.int .i64 0,.int .i64 0]:=by rw [←HW.out];exact Blk.new _ _ _
 have hsW:W.heap.size=w.heap.size+1:=by rw [←HW.out];simp
 have e0:=HW.out;have hxW:=hx0.upd hU (fun _ _ _ f=>f);obtain ⟨l,Hl⟩:=nm xs.length;rw [Hl.out] at hc;rw [Hl.out];go_enter Try.func12,Try.ntmps12
 go_upto_region 1 with fail
 go_cut [3] (fun s wx=>∃p,s=.pointer (some ⟨p,0,none⟩)∧w.heap.size<p∧Rd wx (fun k=>w.heap.size<k∧k≠p) p (xs.take 16)∧Upd Non W wx)
 case first =>
  obtain ⟨W2,HW2⟩:=nm (W.alloc (.cells #[] 3));have hU2:Upd Non W W2:=by rw [←HW2.out];exact Upd.refl.alloc _
  have ho2:Own W2 3 1 (some ⟨w.heap.size+1,0,none⟩) 0 0 (icells []):=by rw [←HW2.out];exact own_empty' 3 1 hsW.symm
  have e2:=HW2.out;have hx2:=hxW.upd hU2 (fun _ _ _ f=>f);obtain ⟨m,hm⟩:∃m:Nat,(xs.take 16).length=m:=⟨_,rfl⟩;have hmx:Ints W2 (·<w.heap.size) A (xs.take 16):=hx2.take_ 16;have hml:m≤16:=by rw [←hm];simp;omega
  have H:∀(A3:Option Addr) (c3:Nat) (w3:World),Own w3 3 1 A3 (0+m) c3 (icells []++icells (xs.take 16))→Upd (At (some ⟨w.heap.size+1,0,none⟩)) W2 w3→(∀k,At A3 k→At (some ⟨w.heap.size+1,0,none⟩) k∨k=W2.heap.size) →
    ∃p,Value.pointer (some ⟨w3.heap.size,0,none⟩)=.pointer (some ⟨p,0,none⟩)∧w.heap.size<p∧Rd (w3.alloc (.cells #[.slice A3 m c3,.int .i64 0] 69)) (fun k=>w.heap.size<k∧k≠p) p (xs.take 16)∧Upd Non W (w3.alloc (.cells #[.slice A3 m c3,.int .i64 0] 69)):=by
   intro A3 c3 w3 ho3 hu3 hat3;have hs3:=hu3.size;have hsW2:W2.heap.size=w.heap.size+1+1:=by rw [←HW2.out];simp [hsW]
   obtain ⟨W4,HW4⟩:=nm (w3.alloc (.cells #[.slice A3 m c3,.int .i64 0] 69));have uA:Upd Non w3 W4:=by rw [←HW4.out];exact Upd.refl.alloc _
   rw [HW4.out];refine ⟨w3.heap.size,rfl,by omega,⟨A3,c3,.int .i64 0,?_,?_,?_,fun x hx=>hI x (List.mem_of_mem_take hx)⟩,?_⟩
   ·rw [←HW4.out,hm];exact Blk.new _ _ _
   ·have ho4:=ho3.upd uA (fun _ _ f=>f);refine (Own.ints ho4).mono (fun k hk h=>?_);have hlt:=ho3.lt h;rcases hat3 k h with h | h
    ·rw [At.some_] at h;omega
    ·omega
   ·have:=ho3.le;omega
   ·exact (hU2.trans hu3 (fun i hi h=>by rw [At.some_] at h;omega)).then_non uA
  have hlm:min (l:Int) 16=(m:Int):=by rw [←hm,←Hl.out,List.length_take];omega
  have hle:m≤l:=by rw [←hm,←Hl.out,List.length_take];omega
  go_wp2_with (at_builtin;refine wpList_app rfl rfl T_ints' rfl ho2 rfl hmx (by rw [List.length_map,hm,Nat.mul_one]) (icells_one _) (by simp only [maxLen];omega) (by omega) ?_;intro A3 c3 w3 ho3 hu3 hat3)
  go_meet
  case rel=>exact H A3 c3 w3 ho3 hu3 hat3
 case rest =>
  obtain ⟨w1,rfl⟩:∃w1:World,w1=wc:=⟨_,rfl⟩;obtain ⟨p,rfl,hpw,hR,hU1⟩:=hcut;have hb1:=hb.upd hU1 (fun f=>f);obtain ⟨ys,Hys⟩:=nm (xs.take 16);rw [Hys.out] at hR;have hR1:=hR.mono (G:=fun k=>w.heap.size<k∧k≠p∧k<w1.heap.size) (fun k hk h=>⟨h.1,h.2,hk⟩);have hpl:=hR.lt;have hni:=hR.i64;have C1:=h_ (rdNext_c (fun k h=>h.2.1) hR1);have hUw1:=hU.then_non hU1;clear hx hx0 hxW hI hR hb hU hU1 HW e0 hR1;go_wp2_with fail
  refine C1.out.mono ?_;rintro e w2 ⟨rfl,hR2,hu2⟩;obtain ⟨n,Hn⟩:=nm (ys.headD 0);rw [Hn.out] at hni ⊢;have HP0:PatC 0 2 true (patA 2 4 true):=patA_c 2 (by omega) (by omega) 4 (by omega) true;have C2:=h_ (HP0 w2 _ p ys.tail (fun k h=>h.2.1) hR2);have HAR:=h_ (aNumF_len ys);clear HP0;have hb2:=hb1.upd hu2 (by omega);clear C1 hR2 hb1;go_wp2_with fail
  refine C2.out.mono ?_;rintro e w3 ⟨K1,k1,rfl,hp3,hR3,hu3⟩;have hPs:=patA_size 2 4 true ys.tail;obtain ⟨P,HP⟩:=nm (patA 2 4 true ys.tail);rw [HP.out] at hp3 hR3 hPs ⊢;have C3:=h_ (Numbered_c P.1 w3 _ K1 k1 hp3 (by omega));have hb3:=hb2.upd hu3 (by omega);have hls:=numF_len P.1 [] [];simp only [List.length_nil,Nat.zero_add] at hls;clear C2 hb2;go_wp2_with fail
  refine C3.out.mono ?_;rintro e w4 ⟨K2,k2,rfl,hp4,hu4⟩;obtain ⟨R,HR⟩:=nm (numF P.1 [] []);rw [HR.out] at hp4 hls ⊢;obtain ⟨q,Hq⟩:=nm R.1;obtain ⟨nv,Hnv⟩:=nm R.2.1.length;obtain ⟨ni,Hni⟩:=nm R.2.2.length;rw [Hq.out] at hp4 ⊢;rw [Hnv.out] at hls ⊢;rw [Hni.out];have hnv:nv≤2:=by rw [←Hnv.out,←HR.out,←HP.out];exact HAR.out
  clear HAR;have hb4:=hb3.upd hu4 (fun f=>f);have hR4:=hR3.upd hu4 (fun _ _ _ f=>f) (fun f=>f);have s1:=hUw1.size;have s2:=hu2.size;have s3:=hu3.size;have s4:=hu4.size;have hU4:Upd (·=p) w1 w4:=(hu2.trans hu3 (fun _ _ h=>h)).then_non hu4;clear C3 hls hPs hp3 hR3 hb3;unfold pv
  go_upto_region 4 with fail
  obtain ⟨w5,Hw5⟩:=nm (w4.alloc (.cells #[.int .i64 q.v,.int .i64 q.op,.int .i64 q.imm,.int .i64 q.iv,.slice K2 q.kids.length k2] 24));have u5:Upd Non w4 w5:=by rw [←Hw5.out];exact Upd.refl.alloc _
  have b5:Blk w5 w4.heap.size 24 #[.int .i64 q.v,.int .i64 q.op,.int .i64 q.imm,.int .i64 q.iv,.slice K2 q.kids.length k2]:=by rw [←Hw5.out];exact Blk.new _ _ _
  have s5:w5.heap.size=w4.heap.size+1:=by rw [←Hw5.out];simp
  have hp5:PtK w5 (fun k=>w.heap.size<k∧k≠p∧k<w4.heap.size) q K2 k2:=PtK.upd u5 (fun _ _ _ f=>f) _ _ _ (PtK.mono (fun k hk h=>by omega) _ _ _ hp4)
  have hb5:=hb4.upd u5 (fun f=>f);have hR5:=hR4.upd u5 (fun _ _ _ f=>f) (fun f=>f);have hU5:=hU4.then_non u5;rw [Hw5.out];clear hp4 hb4 hR4 hU4 u5 Hw5;have HR5:=h_ hR5;have HU5:=h_ hU5;have HB5:=h_ hb5;have HP5:=h_ hp5;have Hb5:=h_ b5;have c0:=b5.cell 0;have c1:=b5.cell 1;have c2:=b5.cell 2;have c3:=b5.cell 3;have c4:=b5.cell 4;have f5:=b5.frozen;clear hR5 hU5 hb5 hp5 b5;obtain ⟨v,Hv⟩:=nm q.v;rw [Hv.out] at c0 ⊢
  go_upto_if 29 with fail
  go_cut [] (fun wx=>∃KL kl,Blk wx w4.heap.size 24 #[.int .i64 (sdA q).v,.int .i64 (sdA q).op,.int .i64 (sdA q).imm,.int .i64 (sdA q).iv,.slice KL (sdA q).kids.length kl]∧PtK wx (fun k=>w.heap.size<k∧k≠p∧k≠w4.heap.size) (sdA q) KL kl∧Upd (·=w4.heap.size) w5 wx)
  case first =>
   by_cases hv:0<q.v
   ·have e:sdA q=.mk 0 21 0 0 [q]:=if_pos hv;have hv':0<v:=by rw [←Hv.out];exact hv
    have tv:decide (0<v)=true:=dT_ hv';go_wp2_with fail
    go_meet
    case rel =>
     rw [set5_eq,e];have b:=Hb5.out;rw [Hv.out] at b;have us:=set5_upd w5 w4.heap.size (.int .i64 0) (.int .i64 21) (.int .i64 0) (.int .i64 0) (.slice (some ⟨w4.heap.size+1,0,none⟩) 1 1);have bs:=set5_blk b (.int .i64 0) (.int .i64 21) (.int .i64 0) (.int .i64 0) (.slice (some ⟨w4.heap.size+1,0,none⟩) 1 1);have hs:=us.size;obtain ⟨wA,HwA⟩:=nm (set5 w5 w4.heap.size (.int .i64 0) (.int .i64 21) (.int .i64 0) (.int .i64 0) (.slice (some ⟨w4.heap.size+1,0,none⟩) 1 1));have hsA:wA.heap.size=w4.heap.size+1:=by rw [←HwA.out,←s5];simp [set5]
     rw [HwA.out] at us bs ⊢;have ua:Upd Non wA (wA.alloc (.cells #[.int .i64 v,.int .i64 q.op,.int .i64 q.imm,.int .i64 q.iv,.slice K2 q.kids.length k2] 24)):=Upd.refl.alloc _;have ba:=Blk.new wA 24 #[.int .i64 v,.int .i64 q.op,.int .i64 q.imm,.int .i64 q.iv,.slice K2 q.kids.length k2];rw [hsA,←Hv.out] at ba;rw [←Hv.out] at ua ⊢;refine ⟨some ⟨w4.heap.size+1,0,none⟩,1,bs.upd ua (fun f=>f),?_,us.then_non ua⟩;exact PtK.one _ _ _ _ ba (PtK.upd ua (fun _ _ _ f=>f) _ _ _ (PtK.upd us (fun k hk h=>by omega) _ _ _ (PtK.mono (fun k _ h=>by omega) _ _ _ HP5.out))) (by omega) (by omega)
   ·have e:sdA q=q:=if_neg hv;have hv':¬0<v:=by rw [←Hv.out];exact hv
    have tv:decide (0<v)=false:=dF_ hv';go_wp2_with fail
    go_meet
    case rel=>rw [e];exact ⟨K2,k2,Hb5.out,PtK.mono (fun k _ h=>by omega) _ _ _ HP5.out,Upd.refl⟩
  case rest =>
   obtain ⟨w6,rfl⟩:∃w6:World,w6=wc:=⟨_,rfl⟩;obtain ⟨KL,kl,b6,hp6,u6⟩:=hcut;obtain ⟨L,HL⟩:=nm (sdA q);rw [HL.out] at b6 hp6;have s6:=u6.size;have hb6:=HB5.out.upd u6 (by omega);have hR6:=HR5.out.upd u6 (fun k hk h=>by omega) (by omega);have hU6:Upd (fun k=>k=p∨k=w4.heap.size) w1 w6:=(HU5.out.mono (fun _ _ h=>.inl h)).trans u6 (fun _ _ h=>.inr h);clear HB5 HR5 HU5 HP5 Hb5 c0 c1 c2 c3 c4 f5;have c0:=b6.cell 0;have c1:=b6.cell 1;have c2:=b6.cell 2;have c3:=b6.cell 3;have c4:=b6.cell 4;have f6:=b6.frozen
   go_upto_region 7 with fail
   clear c0 c1 c2 c3 c4 f6 b6;obtain ⟨w7,Hw7⟩:=nm (w6.alloc (.cells #[.string ⟨#[114]⟩,.int .i64 L.v,.int .i64 L.op,.int .i64 L.imm,.int .i64 L.iv,.slice KL L.kids.length kl,.int .i64 L.v,.int .i64 L.op,.int .i64 L.imm,.int .i64 L.iv,.slice KL L.kids.length kl,.slice none 0 0,.int .i64 nv,.int .i64 0] 28))
   have u7:Upd Non w6 w7:=by rw [←Hw7.out];exact Upd.refl.alloc _
   have b7:Blk w7 w6.heap.size 28 #[.string ⟨#[114]⟩,.int .i64 L.v,.int .i64 L.op,.int .i64 L.imm,.int .i64 L.iv,.slice KL L.kids.length kl,.int .i64 L.v,.int .i64 L.op,.int .i64 L.imm,.int .i64 L.iv,.slice KL L.kids.length kl,.slice none 0 0,.int .i64 nv,.int .i64 0]:=by rw [←Hw7.out];exact Blk.new _ _ _
   have s7:w7.heap.size=w6.heap.size+1:=by rw [←Hw7.out];simp
   rw [Hw7.out];have hb7:=hb6.upd u7 (fun f=>f);have hR7:=hR6.upd u7 (fun _ _ _ f=>f) (fun f=>f);have hU7:=hU6.then_non u7;have hp7:=PtK.mono (G:=fun k=>w.heap.size<k∧k≠p∧k≠w4.heap.size∧k≠w6.heap.size) (fun k hk h=>by omega) _ _ _ (PtK.upd u7 (fun _ _ _ f=>f) _ _ _ (PtK.mono (G:=fun k=>w.heap.size<k∧k≠p∧k≠w4.heap.size∧k<w6.heap.size) (fun k hk h=>by omega) _ _ _ hp6))
   have HUw1:=h_ hUw1
   have HRF:Hid (aRuleF ys=⟨⟨#[114]⟩,L,(if nv≠0∧0<n % 3 then (patA nv 3 true P.2).1 else L),aCondsF n nv,nv,0⟩):=by
    show _=_;have e1:aLeftF ys=L:=by unfold aLeftF aNumF;rw [HP.out,HR.out,Hq.out];exact HL.out
    have e2:(aNumF ys).2.1.length=nv:=by unfold aNumF;rw [HP.out,HR.out];exact Hnv.out
    unfold aRuleF aRightF;rw [e1,e2,HP.out,Hn.out]
   clear hb6 hR6 hU6 hp6 u7 Hw7 hUw1;by_cases h0:nv=0
   ·subst h0;obtain ⟨wz,Hwz⟩:∃wz:World,Hid (w7=wz):=⟨_,rfl⟩;rw [Hwz.out] at b7 hb7 hp7 hU7 s7 ⊢;obtain ⟨CA,cs,cc,hcs,bz,hcz,hle⟩:∃(CA:Option Addr) (cs:List Cd) (cc:Nat),cs=[]∧Blk wz w6.heap.size 28 #[.string ⟨#[114]⟩,.int .i64 L.v,.int .i64 L.op,.int .i64 L.imm,.int .i64 L.iv,.slice KL L.kids.length kl,.int .i64 L.v,.int .i64 L.op,.int .i64 L.imm,.int .i64 L.iv,.slice KL L.kids.length kl,.slice CA cs.length cc,.int .i64 0,.int .i64 0]∧CondsV wz (fun k=>w.heap.size<k∧k≠p∧k≠w4.heap.size∧k≠w6.heap.size) CA cs∧cs.length≤cc:=⟨none,[],0,rfl,b7,.nil,by simp⟩
    obtain ⟨Q,KR,kr,hQ,bz,hpR⟩:∃(Q:Pt) (KR:Option Addr) (kr:Nat),Q=L∧Blk wz w6.heap.size 28 #[.string ⟨#[114]⟩,.int .i64 L.v,.int .i64 L.op,.int .i64 L.imm,.int .i64 L.iv,.slice KL L.kids.length kl,.int .i64 Q.v,.int .i64 Q.op,.int .i64 Q.imm,.int .i64 Q.iv,.slice KR Q.kids.length kr,.slice CA cs.length cc,.int .i64 0,.int .i64 0]∧PtK wz (fun k=>w.heap.size<k∧k≠p∧k≠w4.heap.size∧k≠w6.heap.size) Q KR kr:=⟨L,KL,kl,rfl,bz,hp7⟩
    have HRr:Hid (aRuleF ys=⟨⟨#[114]⟩,L,Q,cs,0,0⟩):=by
     show _=_;rw [HRF.out,hcs,hQ,if_neg (fun h=>h.1 rfl)];unfold aCondsF;rw [if_neg (fun h=>by omega),if_neg (fun h=>h rfl)];rfl
    have HpL:=h_ hp7;have HpR:=h_ hpR;have Hcz:=h_ hcz;have HUz:=h_ hU7;have hz:=hb7;clear b7 hb7 hp7 hpR hcz hU7 hR7 HRF hcs hQ
    go_upto_region 13 with fail
    have r0:=bz.cell 0;have r1:=bz.cell 1;have r2:=bz.cell 2;have r3:=bz.cell 3;have r4:=bz.cell 4;have r5:=bz.cell 5;have r6:=bz.cell 6;have r7:=bz.cell 7;have r8:=bz.cell 8;have r9:=bz.cell 9;have r10:=bz.cell 10;have r11:=bz.cell 11;have r12:=bz.cell 12;have r13:=bz.cell 13;have z0:=hz.cell 0;have z1:=hz.cell 1;have z2:=hz.cell 2;have z3:=hz.cell 3;have z4:=hz.cell 4;have z5:=hz.cell 5;have z6:=hz.cell 6;have z7:=hz.cell 7;have z8:=hz.cell 8;have z9:=hz.cell 9;have z10:=hz.cell 10;have z11:=hz.cell 11;have z12:=hz.cell 12;have z13:=hz.cell 13;have rf:=bz.frozen;have zf:=hz.frozen;have HZ:=h_ hz;clear hz bz;go_wp2_with fail
    rw [set14_eq];refine bodyPost_ret (results_cell_row rfl _ _ w.heap.size 28 _ (0,0) _ rfl (set14_blk HZ.out _ _ _ _ _ _ _ _ _ _ _ _ _ _) Try.underlying28 rfl (by kernel_rfl)) rfl ?_
    rw [Hys.out,HRr.out];have uE:=set14_upd wz w.heap.size (.string ⟨#[114]⟩) (.int .i64 L.v) (.int .i64 L.op) (.int .i64 L.imm) (.int .i64 L.iv) (.slice KL L.kids.length kl) (.int .i64 Q.v) (.int .i64 Q.op) (.int .i64 Q.imm) (.int .i64 Q.iv) (.slice KR Q.kids.length kr) (.slice CA cs.length cc) (.int .i64 0) (.int .i64 0)
    refine ⟨⟨KL,kl,KR,kr,CA,cc⟩,rfl,⟨PtK.mono (fun k hk h=>by omega) _ _ _ (PtK.upd uE (fun k hk h=>by omega) _ _ _ HpL.out),PtK.mono (fun k hk h=>by omega) _ _ _ (PtK.upd uE (fun k hk h=>by omega) _ _ _ HpR.out),(Hcz.out.upd uE (fun k hk h=>by omega)).mono (fun k hk h=>by omega),hle⟩,?_⟩
    exact (HUw1.out.trans HUz.out (fun k hk h=>by omega)).trans uE (fun k hk h=>by omega)
   ·have tn0:decide ((0:Int)<(nv:Int))=true:=dT_ (by omega);have C5:=h_ (pick_c n 3 w7 (by omega) (by omega));go_wp2_with fail
    refine C5.out.mono ?_;rintro e wx ⟨rfl,hwx⟩;subst hwx;obtain ⟨k3,Hk3⟩:=nm (n % 3);rw [Hk3.out];have HPR:PatC 1 nv true (patA nv 3 true):=patA_c nv (by omega) (by omega) 3 (by omega) true;have C4:=h_ (HPR w7 _ p P.2 (fun k h=>h.2.1) hR7);clear C5 HPR;obtain ⟨QR,HQR⟩:=nm (patA nv 3 true P.2).1;rw [HQR.out] at C4 HRF;have Hp7:=h_ hp7;have Hb7:=h_ b7;have HR7:=h_ hR7;have HU7:=h_ hU7;have HB7:=h_ hb7;clear hp7 b7 hR7 hU7 hb7
    go_upto_if 43 with fail
    go_cut [] (fun wx=>∃(Q:Pt) (KR:Option Addr) (kr:Nat),Q=(if 0<k3 then QR else L)∧Blk wx w6.heap.size 28 #[.string ⟨#[114]⟩,.int .i64 L.v,.int .i64 L.op,.int .i64 L.imm,.int .i64 L.iv,.slice KL L.kids.length kl,.int .i64 Q.v,.int .i64 Q.op,.int .i64 Q.imm,.int .i64 Q.iv,.slice KR Q.kids.length kr,.slice none 0 0,.int .i64 nv,.int .i64 0]∧PtK wx (fun k=>w.heap.size<k∧k≠p∧k≠w4.heap.size∧k≠w6.heap.size) L KL kl∧PtK wx (fun k=>w.heap.size<k∧k≠p∧k≠w4.heap.size∧k≠w6.heap.size) Q KR kr∧Upd (fun k=>k=p∨k=w6.heap.size) w7 wx)
    case first =>
     by_cases h3:0<k3
     ·have t3:decide (0<k3)=true:=dT_ h3;go_wp2_with fail
      refine C4.out.mono ?_;rintro e w8 ⟨KR,kr,rfl,hp8,-,hu8⟩;have b8:=Hb7.out.upd hu8 (by omega);have s8:=hu8.size;have hpz:=PtK.upd hu8 (fun k hk h=>by omega) _ _ _ Hp7.out;have r6:=b8.cell 6;have r7:=b8.cell 7;have r8:=b8.cell 8;have r9:=b8.cell 9;have r10:=b8.cell 10;have rf:=b8.frozen;unfold pv;go_wp2_with fail
      go_meet
      case rel =>
       rw [setRt_eq];have u9:=setRt_upd w8 w6.heap.size (.int .i64 QR.v) (.int .i64 QR.op) (.int .i64 QR.imm) (.int .i64 QR.iv) (.slice KR QR.kids.length kr);have b9:=setRt_blk b8 (.int .i64 QR.v) (.int .i64 QR.op) (.int .i64 QR.imm) (.int .i64 QR.iv) (.slice KR QR.kids.length kr);exact ⟨QR,KR,kr,(if_pos h3).symm,b9,PtK.upd u9 (fun k hk h=>by omega) _ _ _ hpz,PtK.upd u9 (fun k hk h=>by omega) _ _ _ (PtK.mono (fun k hk h=>by omega) _ _ _ hp8),(hu8.mono (fun _ _ h=>.inl h)).trans u9 (fun _ _ h=>.inr h)⟩
     ·have t3:decide (0<k3)=false:=dF_ h3;go_wp2_with fail
      go_meet
      case rel=>exact ⟨L,KL,kl,(if_neg (show ¬0<k3 by omega)).symm,Hb7.out,Hp7.out,Hp7.out,Upd.refl⟩
    case rest =>
     obtain ⟨w9,rfl⟩:∃w9:World,w9=wc:=⟨_,rfl⟩;obtain ⟨Q,KR,kr,hQ,b9,hpL,hpR,u9⟩:=hcut;have s9:=u9.size;have hz9:=HB7.out.upd u9 (by omega);have HU9:Hid (Upd (fun k=>k=p∨k=w4.heap.size∨k=w6.heap.size) w1 w9):=(HU7.out.mono (fun _ _ h=>by omega)).trans u9 (fun _ _ h=>by omega)
     have HRF:Hid (aRuleF ys=⟨⟨#[114]⟩,L,Q,aCondsF n nv,nv,0⟩):=by
      show _=_;rw [HRF.out,hQ,Hk3.out];by_cases h3:0<k3
      ·rw [if_pos ⟨h0,h3⟩,if_pos h3]
      ·rw [if_neg (fun h=>h3 h.2),if_neg h3]
     have HpL:=h_ hpL;have HpR:=h_ hpR;have Hz9:=h_ hz9;clear C4 Hp7 Hb7 HR7 HU7 HB7 hpL hpR hz9 hQ HQR;obtain ⟨k5,Hk5⟩:=nm (n.tdiv 7 % 5);obtain ⟨C5L,HC5L⟩:=nm (aCond5 n nv k5);have Hb9:=h_ b9
     go_upto_if 49 with fail
     go_cut [] (fun wx=>∃(CA:Option Addr) (cs:List Cd) (cc:Nat),cs=C5L∧Blk wx w6.heap.size 28 #[.string ⟨#[114]⟩,.int .i64 L.v,.int .i64 L.op,.int .i64 L.imm,.int .i64 L.iv,.slice KL L.kids.length kl,.int .i64 Q.v,.int .i64 Q.op,.int .i64 Q.imm,.int .i64 Q.iv,.slice KR Q.kids.length kr,.slice CA cs.length cc,.int .i64 nv,.int .i64 0]∧CondsV wx (fun k=>w9.heap.size≤k) CA cs∧cs.length≤cc∧Upd (·=w6.heap.size) w9 wx)
     case first =>
      obtain ⟨d3,Hd3⟩:=nm (n.tdiv 3);have hd3:I64 d3:=by rw [←Hd3.out];exact tdiv_I64 hni (by omega)
      have hw3:wrap64 (n.tdiv 3)=d3:=by rw [Hd3.out];exact wrap64_of hd3
      obtain ⟨d5,Hd5⟩:=nm (n.tdiv 5);have hd5:I64 d5:=by rw [←Hd5.out];exact tdiv_I64 hni (by omega)
      have hw5:wrap64 (n.tdiv 5)=d5:=by rw [Hd5.out];exact wrap64_of hd5
      obtain ⟨d7,Hd7⟩:=nm (n.tdiv 7);have hd7:I64 d7:=by rw [←Hd7.out];exact tdiv_I64 hni (by omega)
      have hw7:wrap64 (n.tdiv 7)=d7:=by rw [Hd7.out];exact wrap64_of hd7
      rw [Hd7.out] at Hk5;have CW3:=h_ (fun v=>word_c v d3 7 hd3);have CW5:=h_ (fun v=>word_c v d5 7 hd5);have CP:=h_ (fun v=>pick_c d7 5 v (by omega) (by omega));obtain ⟨x3,Hx3⟩:=nm (wordF d3 7);obtain ⟨x5,Hx5⟩:=nm (wordF d5 7);rw [Hx3.out] at CW3;rw [Hx5.out] at CW5;rw [Hk5.out] at CP;have HC5:Hid (aCond5 n nv k5=C5L):=HC5L;have h5:0≤k5∧k5<5:=by rw [←Hk5.out];omega
      clear hd3 hd5 hd7 b9;go_wp2_with fail
      obtain ⟨v1,Hv1⟩:=nm (w9.alloc (.cells #[.int .i64 1,.int .i64 1,.int .i64 0,.int .i64 0] 75));have x1:Upd Non w9 v1:=by rw [←Hv1.out];exact Upd.refl.alloc _
      have d1:Blk v1 w9.heap.size 75 #[.int .i64 1,.int .i64 1,.int .i64 0,.int .i64 0]:=by rw [←Hv1.out];exact Blk.new _ _ _
      rw [Hv1.out];refine (CW3.out v1).mono ?_;rintro e v2 ⟨rfl,y2⟩;have d1:=d1.upd y2 (fun f=>f);have x2:=x1.then_non y2;go_wp2_with fail
      obtain ⟨v3,Hv3⟩:=nm (v2.alloc (.cells #[.int .i64 2,.int .i64 nv,.int .i64 0,.int .i64 x3] 75));have y3:Upd Non v2 v3:=by rw [←Hv3.out];exact Upd.refl.alloc _
      have d2:Blk v3 v2.heap.size 75 #[.int .i64 2,.int .i64 nv,.int .i64 0,.int .i64 x3]:=by rw [←Hv3.out];exact Blk.new _ _ _
      have d1:=d1.upd y3 (fun f=>f);have x3':=x2.then_non y3;rw [Hv3.out];refine (CW5.out v3).mono ?_;rintro e v4 ⟨rfl,y4⟩;have d1:=d1.upd y4 (fun f=>f);have d2:=d2.upd y4 (fun f=>f);have x4:=x3'.then_non y4;go_wp2_with fail
      obtain ⟨v5,Hv5⟩:=nm (v4.alloc (.cells #[.int .i64 3,.int .i64 1,.int .i64 0,.int .i64 x5] 75));have y5:Upd Non v4 v5:=by rw [←Hv5.out];exact Upd.refl.alloc _
      have d3':Blk v5 v4.heap.size 75 #[.int .i64 3,.int .i64 1,.int .i64 0,.int .i64 x5]:=by rw [←Hv5.out];exact Blk.new _ _ _
      have z5:v5.heap.size=v4.heap.size+1:=by rw [←Hv5.out];simp
      rw [Hv5.out];obtain ⟨v6,Hv6⟩:=nm (v5.alloc (.cells #[.int .i64 5,.int .i64 1,.int .i64 1,.int .i64 0] 75));have y6:Upd Non v5 v6:=by rw [←Hv6.out];exact Upd.refl.alloc _
      have d4:Blk v6 (v4.heap.size+1) 75 #[.int .i64 5,.int .i64 1,.int .i64 1,.int .i64 0]:=by rw [←Hv6.out,←z5];exact Blk.new _ _ _
      have z6:v6.heap.size=v4.heap.size+1+1:=by rw [←Hv6.out];simp [z5]
      rw [Hv6.out];obtain ⟨v7,Hv7⟩:=nm (v6.alloc (.cells #[.slice none 0 0,.slice (some ⟨w9.heap.size,0,none⟩) 1 1,.slice (some ⟨v2.heap.size,0,none⟩) 1 1,.slice (some ⟨v4.heap.size,0,none⟩) 1 1,.slice (some ⟨v4.heap.size+1,0,none⟩) 1 1] 26))
      have y7:Upd Non v6 v7:=by rw [←Hv7.out];exact Upd.refl.alloc _
      have dt:Blk v7 (v4.heap.size+1+1) 26 #[.slice none 0 0,.slice (some ⟨w9.heap.size,0,none⟩) 1 1,.slice (some ⟨v2.heap.size,0,none⟩) 1 1,.slice (some ⟨v4.heap.size,0,none⟩) 1 1,.slice (some ⟨v4.heap.size+1,0,none⟩) 1 1]:=by rw [←Hv7.out,←z6];exact Blk.new _ _ _
      rw [Hv7.out];have x7:=((x4.then_non y5).then_non y6).then_non y7;have e1:=((d1.upd y5 (fun f=>f)).upd y6 (fun f=>f)).upd y7 (fun f=>f);have e2:=((d2.upd y5 (fun f=>f)).upd y6 (fun f=>f)).upd y7 (fun f=>f);have e3:=(d3'.upd y6 (fun f=>f)).upd y7 (fun f=>f);have e4:=d4.upd y7 (fun f=>f);have q1:=x1.size;have q2:=y2.size;have q3:=y3.size;have q4:=y4.size;have b9:=Hb9.out.upd x7 (fun f=>f);clear d1 d2 d3' d4 Hv1 Hv3 Hv5 Hv6 Hv7 y2 y3 y4 y5 y6 y7 x1 x2 x3' x4 z5 z6;refine (CP.out v7).mono ?_;rintro e wx ⟨rfl,hwx⟩;subst hwx;have rr:=b9.cell 11;have rf:=b9.frozen;have D1:=h_ e1;have D2:=h_ e2;have D3:=h_ e3;have D4:=h_ e4;have B9:=h_ b9;have X7:=h_ x7;clear e1 e2 e3 e4 b9 x7;have hu:∀v,Upd (·=w6.heap.size) v7 (v7.setCell ⟨w6.heap.size,11,none⟩ v):=fun v=>updCell _ _ _ _
      have bs:=fun v=>B9.out.set_ 11 v
      have Hu:=h_ hu;have Bs:=h_ bs;clear hu bs;rcases (by omega:k5=0∨k5=1∨k5=2∨k5=3∨k5=4) with hk | hk | hk | hk | hk
      ·subst hk;have tc:=dt.cell 0;go_wp2_with fail
       go_meet
       case rel=>exact ⟨none,[],0,by rw [←HC5.out];unfold aCond5;rw [if_pos rfl],by simpa using Bs.out (.slice none 0 0),.nil,by simp,(X7.out.mono (fun _ _ f=>f.elim)).trans (Hu.out (.slice none 0 0)) (fun _ _ h=>h)⟩
      ·subst hk;have tc:=dt.cell 1;go_wp2_with fail
       go_meet
       case rel=>exact ⟨some ⟨w9.heap.size,0,none⟩,[⟨1,1,0,0⟩],1,by rw [←HC5.out];unfold aCond5;rw [if_neg (by omega),if_pos rfl],by simpa using Bs.out (.slice (some ⟨w9.heap.size,0,none⟩) 1 1),condsV_one ⟨1,1,0,0⟩ (D1.out.upd (Hu.out (.slice (some ⟨w9.heap.size,0,none⟩) 1 1)) (by omega)) (by omega),by simp,(X7.out.mono (fun _ _ f=>f.elim)).trans (Hu.out (.slice (some ⟨w9.heap.size,0,none⟩) 1 1)) (fun _ _ h=>h)⟩
      ·subst hk;have tc:=dt.cell 2;go_wp2_with fail
       go_meet
       case rel=>exact ⟨some ⟨v2.heap.size,0,none⟩,[⟨2,nv,0,x3⟩],1,by rw [←HC5.out];unfold aCond5;rw [if_neg (by omega),if_neg (by omega),if_pos rfl,Hd3.out,Hx3.out],by simpa using Bs.out (.slice (some ⟨v2.heap.size,0,none⟩) 1 1),condsV_one ⟨2,nv,0,x3⟩ (D2.out.upd (Hu.out (.slice (some ⟨v2.heap.size,0,none⟩) 1 1)) (by omega)) (by omega),by simp,(X7.out.mono (fun _ _ f=>f.elim)).trans (Hu.out (.slice (some ⟨v2.heap.size,0,none⟩) 1 1)) (fun _ _ h=>h)⟩
      ·subst hk;have tc:=dt.cell 3;go_wp2_with fail
       go_meet
       case rel=>exact ⟨some ⟨v4.heap.size,0,none⟩,[⟨3,1,0,x5⟩],1,by rw [←HC5.out];unfold aCond5;rw [if_neg (by omega),if_neg (by omega),if_neg (by omega),if_pos rfl,Hd5.out,Hx5.out],by simpa using Bs.out (.slice (some ⟨v4.heap.size,0,none⟩) 1 1),condsV_one ⟨3,1,0,x5⟩ (D3.out.upd (Hu.out (.slice (some ⟨v4.heap.size,0,none⟩) 1 1)) (by omega)) (by omega),by simp,(X7.out.mono (fun _ _ f=>f.elim)).trans (Hu.out (.slice (some ⟨v4.heap.size,0,none⟩) 1 1)) (fun _ _ h=>h)⟩
      ·subst hk;have tc:=dt.cell 4;go_wp2_with fail
       go_meet
       case rel=>exact ⟨some ⟨v4.heap.size+1,0,none⟩,[⟨5,1,1,0⟩],1,by rw [←HC5.out];unfold aCond5;rw [if_neg (by omega),if_neg (by omega),if_neg (by omega),if_neg (by omega)],by simpa using Bs.out (.slice (some ⟨v4.heap.size+1,0,none⟩) 1 1),condsV_one ⟨5,1,1,0⟩ (D4.out.upd (Hu.out (.slice (some ⟨v4.heap.size+1,0,none⟩) 1 1)) (by omega)) (by omega),by simp,(X7.out.mono (fun _ _ f=>f.elim)).trans (Hu.out (.slice (some ⟨v4.heap.size+1,0,none⟩) 1 1)) (fun _ _ h=>h)⟩
     case rest =>
      obtain ⟨wd,rfl⟩:∃wd:World,wd=wc:=⟨_,rfl⟩;obtain ⟨CA,cs,cc,hcs0,bz,hcz,hle,uz⟩:=hcut;have HCS:=h_ hcs0;clear hcs0;have sz:=uz.size;have hz:=Hz9.out.upd uz (by omega);have HUz:Hid (Upd (fun k=>k=p∨k=w4.heap.size∨k=w6.heap.size) w1 wd):=HU9.out.trans uz (fun _ _ h=>by omega);have HpL:=h_ (PtK.upd uz (fun k hk h=>by omega) _ _ _ HpL.out);have HpR:=h_ (PtK.upd uz (fun k hk h=>by omega) _ _ _ HpR.out);have Hcz:Hid (CondsV wd (fun k=>w.heap.size<k∧k≠p∧k≠w4.heap.size∧k≠w6.heap.size) CA cs):=hcz.mono (fun k hk h=>by omega);clear HU9 Hb9 b9 hcz uz Hz9;by_cases h1:1<nv
      ·have tn1:decide ((1:Int)<(nv:Int))=true:=dT_ (by omega);have CP:=h_ (pick_c n 5 wd (by omega) (by omega));go_wp2_with fail
       refine CP.out.mono ?_;rintro e wx ⟨rfl,hwx⟩;subst hwx;obtain ⟨j5,Hj5⟩:=nm (n % 5);rw [Hj5.out];clear CP;by_cases h5:j5=0
       ·have t5:decide (j5=0)=true:=dT_ h5;have hb:=h_ bz;have Hzd:=h_ hz;have r11:∀o,(wd.alloc o).cell? ⟨w6.heap.size,11,none⟩=some (.slice CA cs.length cc):=fun o=>(hb.out.alloc o).cell 11
        have rf:∀o,(wd.alloc o).frozen? ⟨w6.heap.size,11,none⟩=false:=fun o=>(hb.out.alloc o).frozen 11
        clear bz hz
        go_upto_region 13 with fail
        obtain ⟨bz,hcz,uz⟩:=aCond_one hb.out ⟨4,1,2,0⟩;simp only at bz hcz uz;obtain ⟨wz,Hwz⟩:=nm ((wd.alloc (.cells #[.int .i64 4,.int .i64 1,.int .i64 2,.int .i64 0] 75)).setCell ⟨w6.heap.size,11,none⟩ (.slice (some ⟨wd.heap.size,0,none⟩) 1 1))
        rw [Hwz.out] at bz hcz uz ⊢;have hz:=Hzd.out.upd uz (by omega)
        have HRr0:aRuleF ys=⟨⟨#[114]⟩,L,Q,[⟨4,1,2,0⟩],nv,0⟩:=by
         rw [HRF.out];unfold aCondsF;rw [if_pos ⟨h1,by rw [Hj5.out];exact h5⟩]
        obtain ⟨CA,cs,cc,hcs,bz,hcz,hle⟩:∃(CA:Option Addr) (cs:List Cd) (cc:Nat),cs=[⟨4,1,2,0⟩]∧Blk wz w6.heap.size 28 #[.string ⟨#[114]⟩,.int .i64 L.v,.int .i64 L.op,.int .i64 L.imm,.int .i64 L.iv,.slice KL L.kids.length kl,.int .i64 Q.v,.int .i64 Q.op,.int .i64 Q.imm,.int .i64 Q.iv,.slice KR Q.kids.length kr,.slice CA cs.length cc,.int .i64 nv,.int .i64 0]∧CondsV wz (fun k=>w.heap.size<k∧k≠p∧k≠w4.heap.size∧k≠w6.heap.size) CA cs∧cs.length≤cc:=⟨some ⟨wd.heap.size,0,none⟩,[⟨4,1,2,0⟩],1,rfl,bz,hcz.mono (fun k hk h=>by omega),by simp⟩
        rw [←hcs] at HRr0;have HRr:=h_ HRr0;have Hcz:=h_ hcz;have HpL:=h_ (PtK.upd uz (fun k hk h=>by omega) _ _ _ HpL.out);have HpR:=h_ (PtK.upd uz (fun k hk h=>by omega) _ _ _ HpR.out);have HUz:=h_ (HUz.out.trans uz (fun _ _ h=>by omega));clear HRr0 hcz hcs r11 rf;have r0:=bz.cell 0;have r1:=bz.cell 1;have r2:=bz.cell 2;have r3:=bz.cell 3;have r4:=bz.cell 4;have r5:=bz.cell 5;have r6:=bz.cell 6;have r7:=bz.cell 7;have r8:=bz.cell 8;have r9:=bz.cell 9;have r10:=bz.cell 10;have r11:=bz.cell 11;have r12:=bz.cell 12;have r13:=bz.cell 13;have z0:=hz.cell 0;have z1:=hz.cell 1;have z2:=hz.cell 2;have z3:=hz.cell 3;have z4:=hz.cell 4;have z5:=hz.cell 5;have z6:=hz.cell 6;have z7:=hz.cell 7;have z8:=hz.cell 8;have z9:=hz.cell 9;have z10:=hz.cell 10;have z11:=hz.cell 11;have z12:=hz.cell 12;have z13:=hz.cell 13;have rf:=bz.frozen;have zf:=hz.frozen;have HZ:=h_ hz;clear hz bz;go_wp2_with fail
        rw [set14_eq];refine bodyPost_ret (results_cell_row rfl _ _ w.heap.size 28 _ (0,0) _ rfl (set14_blk HZ.out _ _ _ _ _ _ _ _ _ _ _ _ _ _) Try.underlying28 rfl (by kernel_rfl)) rfl ?_
        rw [Hys.out,HRr.out];have uE:=set14_upd wz w.heap.size (.string ⟨#[114]⟩) (.int .i64 L.v) (.int .i64 L.op) (.int .i64 L.imm) (.int .i64 L.iv) (.slice KL L.kids.length kl) (.int .i64 Q.v) (.int .i64 Q.op) (.int .i64 Q.imm) (.int .i64 Q.iv) (.slice KR Q.kids.length kr) (.slice CA cs.length cc) (.int .i64 nv) (.int .i64 0)
        refine ⟨⟨KL,kl,KR,kr,CA,cc⟩,rfl,⟨PtK.mono (fun k hk h=>by omega) _ _ _ (PtK.upd uE (fun k hk h=>by omega) _ _ _ HpL.out),PtK.mono (fun k hk h=>by omega) _ _ _ (PtK.upd uE (fun k hk h=>by omega) _ _ _ HpR.out),(Hcz.out.upd uE (fun k hk h=>by omega)).mono (fun k hk h=>by omega),hle⟩,?_⟩
        exact (HUw1.out.trans HUz.out (fun k hk h=>by omega)).trans uE (fun k hk h=>by omega)
       ·have t5:decide (j5=0)=false:=dF_ h5;obtain ⟨wz,Hwz⟩:∃wz:World,Hid (wd=wz):=⟨_,rfl⟩;rw [Hwz.out] at bz hz HUz HpL HpR Hcz ⊢
        have HRr:Hid (aRuleF ys=⟨⟨#[114]⟩,L,Q,cs,nv,0⟩):=by
         show _=_;rw [HRF.out,HCS.out,←HC5L.out];unfold aCondsF;rw [if_neg (fun h=>h5 (by rw [←Hj5.out];exact h.2)),if_pos h0,Hk5.out]
        go_upto_region 13 with fail
        have r0:=bz.cell 0;have r1:=bz.cell 1;have r2:=bz.cell 2;have r3:=bz.cell 3;have r4:=bz.cell 4;have r5:=bz.cell 5;have r6:=bz.cell 6;have r7:=bz.cell 7;have r8:=bz.cell 8;have r9:=bz.cell 9;have r10:=bz.cell 10;have r11:=bz.cell 11;have r12:=bz.cell 12;have r13:=bz.cell 13;have z0:=hz.cell 0;have z1:=hz.cell 1;have z2:=hz.cell 2;have z3:=hz.cell 3;have z4:=hz.cell 4;have z5:=hz.cell 5;have z6:=hz.cell 6;have z7:=hz.cell 7;have z8:=hz.cell 8;have z9:=hz.cell 9;have z10:=hz.cell 10;have z11:=hz.cell 11;have z12:=hz.cell 12;have z13:=hz.cell 13;have rf:=bz.frozen;have zf:=hz.frozen;have HZ:=h_ hz;clear hz bz;go_wp2_with fail
        rw [set14_eq];refine bodyPost_ret (results_cell_row rfl _ _ w.heap.size 28 _ (0,0) _ rfl (set14_blk HZ.out _ _ _ _ _ _ _ _ _ _ _ _ _ _) Try.underlying28 rfl (by kernel_rfl)) rfl ?_
        rw [Hys.out,HRr.out];have uE:=set14_upd wz w.heap.size (.string ⟨#[114]⟩) (.int .i64 L.v) (.int .i64 L.op) (.int .i64 L.imm) (.int .i64 L.iv) (.slice KL L.kids.length kl) (.int .i64 Q.v) (.int .i64 Q.op) (.int .i64 Q.imm) (.int .i64 Q.iv) (.slice KR Q.kids.length kr) (.slice CA cs.length cc) (.int .i64 nv) (.int .i64 0)
        refine ⟨⟨KL,kl,KR,kr,CA,cc⟩,rfl,⟨PtK.mono (fun k hk h=>by omega) _ _ _ (PtK.upd uE (fun k hk h=>by omega) _ _ _ HpL.out),PtK.mono (fun k hk h=>by omega) _ _ _ (PtK.upd uE (fun k hk h=>by omega) _ _ _ HpR.out),(Hcz.out.upd uE (fun k hk h=>by omega)).mono (fun k hk h=>by omega),hle⟩,?_⟩
        exact (HUw1.out.trans HUz.out (fun k hk h=>by omega)).trans uE (fun k hk h=>by omega)
      ·have tn1:decide ((1:Int)<(nv:Int))=false:=dF_ (by omega);obtain ⟨wz,Hwz⟩:∃wz:World,Hid (wd=wz):=⟨_,rfl⟩;rw [Hwz.out] at bz hz HUz HpL HpR Hcz ⊢
       have HRr:Hid (aRuleF ys=⟨⟨#[114]⟩,L,Q,cs,nv,0⟩):=by
        show _=_;rw [HRF.out,HCS.out,←HC5L.out];unfold aCondsF;rw [if_neg (fun h=>h1 h.1),if_pos h0,Hk5.out]
       go_upto_region 13 with fail
       have r0:=bz.cell 0;have r1:=bz.cell 1;have r2:=bz.cell 2;have r3:=bz.cell 3;have r4:=bz.cell 4;have r5:=bz.cell 5;have r6:=bz.cell 6;have r7:=bz.cell 7;have r8:=bz.cell 8;have r9:=bz.cell 9;have r10:=bz.cell 10;have r11:=bz.cell 11;have r12:=bz.cell 12;have r13:=bz.cell 13;have z0:=hz.cell 0;have z1:=hz.cell 1;have z2:=hz.cell 2;have z3:=hz.cell 3;have z4:=hz.cell 4;have z5:=hz.cell 5;have z6:=hz.cell 6;have z7:=hz.cell 7;have z8:=hz.cell 8;have z9:=hz.cell 9;have z10:=hz.cell 10;have z11:=hz.cell 11;have z12:=hz.cell 12;have z13:=hz.cell 13;have rf:=bz.frozen;have zf:=hz.frozen;have HZ:=h_ hz;clear hz bz;go_wp2_with fail
       rw [set14_eq];refine bodyPost_ret (results_cell_row rfl _ _ w.heap.size 28 _ (0,0) _ rfl (set14_blk HZ.out _ _ _ _ _ _ _ _ _ _ _ _ _ _) Try.underlying28 rfl (by kernel_rfl)) rfl ?_
       rw [Hys.out,HRr.out];have uE:=set14_upd wz w.heap.size (.string ⟨#[114]⟩) (.int .i64 L.v) (.int .i64 L.op) (.int .i64 L.imm) (.int .i64 L.iv) (.slice KL L.kids.length kl) (.int .i64 Q.v) (.int .i64 Q.op) (.int .i64 Q.imm) (.int .i64 Q.iv) (.slice KR Q.kids.length kr) (.slice CA cs.length cc) (.int .i64 nv) (.int .i64 0)
       refine ⟨⟨KL,kl,KR,kr,CA,cc⟩,rfl,⟨PtK.mono (fun k hk h=>by omega) _ _ _ (PtK.upd uE (fun k hk h=>by omega) _ _ _ HpL.out),PtK.mono (fun k hk h=>by omega) _ _ _ (PtK.upd uE (fun k hk h=>by omega) _ _ _ HpR.out),(Hcz.out.upd uE (fun k hk h=>by omega)).mono (fun k hk h=>by omega),hle⟩,?_⟩
       exact (HUw1.out.trans HUz.out (fun k hk h=>by omega)).trans uE (fun k hk h=>by omega)
section
variable {α:Type} {El:World→(Nat→Prop)→List Value→α→Prop} {k:Nat} {w:World} {K:Nat→Prop} {L L2:List α} {cs cs2:List Value}
theorem ElCells.drop (h:ElCells El k w K cs L) (m:Nat):ElCells El k w K (cs.drop (k * m)) (L.drop m):=by
 refine ⟨by rw [List.length_drop,List.length_drop,h.1,Nat.mul_sub],fun i hi=>?_⟩;rw [List.length_drop] at hi;rw [List.getElem_drop,List.drop_drop,←Nat.mul_add];exact h.2 (m+i) (by omega)
theorem ElCells.app (h:ElCells El k w K cs L) (h2:ElCells El k w K cs2 L2):ElCells El k w K (cs++cs2) (L++L2):=by
 have hl:=h.1;refine ⟨by rw [List.length_append,List.length_append,hl,h2.1,Nat.mul_add],fun i hi=>?_⟩;by_cases hlt:i<L.length
 ·have h3:k * (i+1)≤k * L.length:=Nat.mul_le_mul_left k hlt;rw [Nat.mul_add,Nat.mul_one] at h3;rw [List.getElem_append_left hlt,List.drop_append_of_le_length (by omega),List.take_append_of_le_length (by rw [List.length_drop];omega)];exact h.2 i hlt
 ·obtain ⟨j,rfl⟩:∃j,i=L.length+j:=⟨i - L.length,by omega⟩;rw [List.length_append] at hi;rw [List.getElem_append_right (by omega),Nat.mul_add,←List.drop_drop,←hl,List.drop_left];have:=h2.2 j (by omega);simpa using this
end
section
variable {α:Type} {El:World→(Nat→Prop)→List Value→α→Prop} {k:Nat} {w w':World} {A:Option Addr} {L:List α} {n:Nat} {e:TypeId}
end
theorem elAS_one {w:World} {K:Nat→Prop} {cs:List Value} {L:List AS} (h:ElCells ElAS 2 w K cs L):∀u∈cs,u.oneCell'=true:=by
 intro u hu;obtain ⟨j,hj,rfl⟩:=List.getElem_of_mem hu;have hl:=h.1;obtain ⟨el,he,RA,rc,rfl,_,_⟩:=h.get (i:=j / 2) (by omega);have:=he (j % 2) (by omega);rw [show 2 * (j / 2)+j % 2=j by omega,List.getElem?_eq_getElem hj] at this;rcases (show j % 2=0∨j % 2=1 by omega) with q | q <;> rw [q] at this <;> (injection this with this;rw [this];rfl)
theorem Sl.from2 {w:World} {F:Nat→Prop} {g o m:Nat} {cs:List Value} (h:Sl w F (some ⟨g,o,none⟩) cs) {p:Prop} [Decidable p] (hp:p→cs.length≤m):Sl w F (if p then some ⟨g,o,none⟩ else some ⟨g,o+m,none⟩) (cs.drop m):=by
 by_cases q:p
 ·rw [if_pos q,List.drop_eq_nil_of_le (hp q)];exact Sl.nil
 ·rw [if_neg q];rcases h with h | ⟨b,off,e,hF,hc⟩
  ·subst h;rw [List.drop_nil];exact Sl.nil
  ·injection e with e
   injection e with e1 e2
   subst e1 e2;refine .inr ⟨g,o+m,rfl,hF,fun j hj=>?_⟩;rw [List.length_drop] at hj;rw [List.getElem_drop,Nat.add_assoc];exact hc (m+j) (by omega)
theorem Sl.cell2 {w:World} {F:Nat→Prop} {g o j:Nat} {cs:List Value} (h:Sl w F (some ⟨g,o,none⟩) cs) (hj:j<cs.length):w.cell? ⟨g,o+j,none⟩=cs[j]?:=by
 obtain ⟨b,off,e,_,_,hc⟩:=h.at_ hj;injection e with e
 injection e with e1 e2
 subst e1 e2;rw [hc,List.getElem?_eq_getElem hj]
theorem lvls_long (r:Rl):∀n,n≤(lvls r n).length
 | 0=>Nat.zero_le _
 | n+1=>by
  rw [lvls_succ,List.length_append,List.length_map];have:=lvls_long r n;have:=List.length_pos_iff.2 (lvl_ne r n);omega
theorem mem_without {α:Type} {L:List α} (hn:L.Nodup) {k:Nat} (hk:k<L.length) {y:α}:y∈L.take k++L.drop (k+1)↔y∈L∧y≠L[k]:=by
 have e:L=L.take k++L[k]::L.drop (k+1):=by rw [List.getElem_cons_drop,List.take_append_drop]
 rw [e,List.nodup_append] at hn;obtain ⟨_,h2,h3⟩:=hn;have h2:=(List.nodup_cons.1 h2).1
 conv=>rhs;lhs;rw [e]
 simp only [List.mem_append,List.mem_cons];constructor
 ·rintro (h | h)
  ·exact ⟨.inl h,fun q=>h3 y h L[k] (List.mem_cons_self ..) q⟩
  ·exact ⟨.inr (.inr h),fun q=>h2 (q ▸ h)⟩
 ·rintro ⟨h | h | h,q⟩
  ·exact .inl h
  ·exact absurd h q
  ·exact .inr h
set_option maxRecDepth 100000 in
set_option maxHeartbeats 16000000 in
theorem auMinimal_c (w:World) (F:Nat→Prop) (A:Option Addr) (c:Nat) (xs:List Int) (at_:Int) (hx:Ints w F A xs) (hc:xs.length≤c) (hI:∀x∈xs,I64 x) (hn:xs.length≤100000000000000) :
  Calls Try.prog 5 #[.slice A xs.length c,.int .i64 at_] w fun e w'=>e=.returned (.bool true)∧Upd Non w w':=by
 obtain ⟨m,hm⟩:∃m:Nat,(xs.take 7).length=m:=⟨_,rfl⟩;have CR:=h_ (aRule_c w F A c (xs.take 7) (hx.take_ 7) (by rw [List.length_take];omega) (fun x h=>hI x (List.mem_of_mem_take h)) (by rw [List.length_take];omega))
 have hz:=aRuleF_sz ((xs.take 7).take 16);obtain ⟨R,HR⟩:=nm (aRuleF ((xs.take 7).take 16));rw [HR.out] at hz;rw [hm,HR.out] at CR;have HZ:=h_ hz;obtain ⟨l,Hl⟩:=nm xs.length;have hlm:min (l:Int) 7=(m:Int):=by rw [←hm,←Hl.out,List.length_take];omega
 have hle:m≤l:=by rw [←hm,←Hl.out,List.length_take];omega
 rw [Hl.out] at hc;rw [Hl.out];clear hx hI hn hm hz;go_enter Try.func5,Try.ntmps5;go_wp2_with fail
 refine CR.out.mono ?_;rintro e w1 ⟨a,rfl,hk,u1⟩;obtain ⟨W1,HW1⟩:=nm (w1.alloc (.cells (rlCells R a) 28));have uW:Upd Non w1 W1:=by rw [←HW1.out];exact Upd.refl.alloc _
 obtain ⟨rb,hrb⟩:∃b,w1.heap.size=b:=⟨_,rfl⟩;have hb:Blk W1 rb 28 (rlCells R a):=by rw [←HW1.out,←hrb];exact Blk.new _ _ _
 have hk1:=(hk.mono (G:=fun k=>k<w1.heap.size) (fun _ h _=>h)).upd uW (fun _ _ _ f=>f);have HU:=h_ (u1.then_non uW);have HK:=h_ hk1;have HB:=h_ hb;have CP:=h_ (aProve_c R a _ W1 hk1 HZ.out);have e1:=HW1.out;unfold rlCells at e1;unfold rlv rlCells at CP ⊢;obtain ⟨c0,c1,c2,c3,c4,c5,c6,c7,c8,c9,c10,c11,c12,c13⟩:=rl_cells hb;clear hk hk1 u1 uW hb CR
 go_upto_region 2 with fail
 clear e1 hrb;go_wp2_with fail
 refine CP.out.mono ?_;rintro e w2 hP;obtain ⟨u2,hP⟩:=hP;clear CP c0 c1 c2 c3 c4 c5 c6 c7 c8 c9 c10 c11 c12 c13;have HU2:=h_ (HU.out.then_non u2);have HK2:=h_ (HK.out.upd u2 (fun _ _ _ f=>f));have HB2:=h_ (HB.out.upd u2 (fun f=>f));rcases hP with ⟨L,OA,on,oc,hL,rfl,hO,_⟩ | ⟨_,rfl⟩
 rotate_left
 ·clear u2;go_wp2_with fail
  refine (auExamples_c _).mono ?_;rintro e w9 ⟨rfl,u9⟩;go_wp2_with fail
  go_ret;exact ⟨rfl,HU2.out.then_non u9⟩
 ·obtain ⟨_,_,_,hLL⟩:=autF_some.1 hL;have hlong:=lvls_long R 65;rw [←hLL] at hlong;have hnd:L.Nodup:=by rw [hLL];exact lvls_nodup R 65
  have HL:=h_ hL;obtain ⟨hon,cs,hown,hC⟩:=hO;rw [List.length_map] at hon;have HON:=h_ hon;have t0:((on:Int)==0)=false:=beq_eq_false_iff_ne.2 (by omega);obtain ⟨g,rfl⟩:=hown.some_ (by omega);have HOW:=h_ hown;have hC:ElCells ElAS 2 w2 (fun _=>True) cs (L.map asE):=hC.mono elAS (Upd.refl (S:=Non)) (fun _ _ _ f=>f) (fun _ _ _=>trivial);have HCL:=h_ hC;have HND:=h_ hnd;have hle2:=hown.le;clear hC hown hL hLL hnd;by_cases h5:500<on
  ·have t5:decide ((on:Int) > 500)=true:=dT_ (by omega);clear u2 hon hlong hle2;go_wp2_with fail
   refine (auExamples_c _).mono ?_;rintro e w9 ⟨rfl,u9⟩;go_wp2_with fail
   go_ret;exact ⟨rfl,HU2.out.then_non u9⟩
  ·have t5:decide ((on:Int) > 500)=false:=dF_ (by omega);have h1:=Int.emod_nonneg at_ (show (on:Int)≠0 by omega);have h2:=Int.emod_lt_of_pos at_ (show (0:Int)<on by omega);have CK:=h_ (pick_c at_ on w2 (by omega) (by omega));obtain ⟨k,hk⟩:=Int.eq_ofNat_of_zero_le h1;rw [hk] at h2 CK;clear u2 hon hlong h1 hk;go_wp2_with fail
   refine CK.out.mono ?_;rintro e wx ⟨rfl,hwx⟩;subst hwx;clear CK;have hkn:k<on:=by omega
   have q1:(0:Int)≤(k:Int):=by omega
   have q2:(k:Int)≤(oc:Int):=by omega
   have q3:IntKind.i64.wrap ((k:Int)+1)=((k+1:Nat):Int):=by rw [i64w_of (by unfold I64;omega)];omega
   have q4:(0:Int)≤((k+1:Nat):Int):=by omega
   have q5:((k+1:Nat):Int)≤(on:Int):=by omega
   have q6:(on:Int)≤(oc:Int):=by omega
   obtain ⟨k1,Hk1⟩:=nm (k+1);rw [Hk1.out] at q3 q4 q5;obtain ⟨W3,HW3⟩:=nm w2.drew;have uD:Upd Non w2 W3:=by rw [←HW3.out];exact Upd.refl.drew
   have HOW3:=h_ (HOW.out.upd uD (fun _ _ f=>f));have HCL3:=h_ (HCL.out.mono elAS uD (fun _ _ _ f=>f) (fun _ _ h=>h));have HU3:=h_ uD;clear uD h2
   go_upto_region 8 with fail
   refine wp_region_held_drew (S:=fun _=>True) (by kernel_rfl) trivial (fun hHeld=>?_);rw [HW3.out];refine wpT 1 ?_;(try simp only [y_,z_]);refine wpT 2 ?_;(try simp only [y_,z_]);refine wpT 3 ?_;(try simp only [y_,z_]);refine wpT 5 ?_;(try simp only [y_,z_]);refine wpT 6 ?_;(try simp only [y_,z_]);refine wpT 7 ?_;(try simp only [y_,z_]);refine wpT 8 ?_;(try simp only [y_,z_]);refine aR_ (rs:=[0]) (by kernel_rfl) (by simp) ?_;refine aC_ rfl (fun K hK=>?_) aN_;go_simp;obtain ⟨W4,HW4⟩:=nm (W3.alloc (.cells #[] 46));have uA:Upd Non W3 W4:=by rw [←HW4.out];exact Upd.refl.alloc _
   have hoE:Own W4 46 2 (some ⟨W3.heap.size,0,none⟩) 0 0 []:=by rw [←HW4.out];exact own_empty _ _ _
   have HOW4:=h_ (HOW3.out.upd uA (fun _ _ f=>f));rw [HW4.out];refine hK.out _ _ ?_ (fun hHeld=>?_)
   ·exact trivial
   clear hK K;(try simp only [y_,z_]);have hsT:=HOW4.out.sl.take_ (k * 2);have hcl:=HOW4.out.len;refine aR_ (rs:=[4]) (by kernel_rfl) (by simp) ?_;refine aC_ rfl (fun K hK=>?_) aN_;refine step_app rfl rfl T_AStates rfl hoE rfl hsT (by rw [List.length_take,hcl];omega) (fun u hu=>elAS_one HCL.out u (List.mem_of_mem_take hu)) (by simp only [maxLen];omega) (by omega) ?_
   intro A5 c5 w5 ho5 hu5 hat5
   have HSD:Hid (Sl w5 (fun _=>True) (if oc=k1 then some ⟨g,0,none⟩ else some ⟨g,k1 * 2,none⟩) (cs.drop (k1 * 2))):=by
    have h1:=HOW4.out.upd hu5 (fun i hi q=>by rw [At.some_] at hi q;have:=HOW3.out.lt (At.some_.2 rfl:At (some ⟨g,0,none⟩) g);omega);have h2:=(h1.sl.mono (G:=fun _=>True) (fun _ _ _=>trivial)).from2 (m:=k1 * 2) (p:=oc=k1) (fun q=>by omega);rw [Nat.zero_add] at h2;exact h2
   refine hK.out _ _ ?_ (fun hHeld=>?_)
   ·exact trivial
   clear hK K;(try simp only [y_,z_]);refine aR_ (rs:=[9]) (by kernel_rfl) (by simp) ?_;refine aC_ rfl (fun K hK=>?_) aN_;refine step_app (F:=fun _=>True) (news:=cs.drop (k1 * 2)) rfl rfl T_AStates rfl ho5 rfl ?hs ?_ ?_ ?_ ?_ ?_
   case hs=>exact HSD.out
   ·rw [List.length_drop,hcl,Nat.sub_mul]
   ·exact fun u hu=>elAS_one HCL.out u (List.mem_of_mem_drop hu)
   ·simp only [maxLen];omega
   ·omega
   intro A6 c6 w6 ho6 hu6 hat6;refine hK.out _ _ ?_ (fun hHeld=>?_)
   ·exact trivial
   clear hK K;(try simp only [y_,z_])
   have hu36:Upd Non W3 w6:=(uA.trans hu5 (fun i hi q=>by rw [At.some_] at q;omega)).trans hu6 (fun i hi q=>by
    have h1:=uA.size;rcases hat5 i q with q | q
    ·rw [At.some_] at q;omega
    ·omega)
   have HU6:=h_ (HU3.out.then_non hu36)
   have HFE:Hid (ElV ElAS 2 w6 (fun _=>True) A6 ((L.take k++L.drop (k+1)).map asE)):=by
    have h1:=HCL.out.take k;have h2:=HCL.out.drop (k+1);have h3:=(h1.app h2).mono elAS HU6.out (fun _ _ _ f=>f) (fun _ _ h=>h);rw [Hk1.out,Nat.mul_comm 2 k,Nat.mul_comm 2 k1] at h3;refine ⟨_,ho6.sl.mono (fun _ _ _=>trivial),?_⟩;rw [List.map_append,List.map_take,List.map_drop,Hk1.out];exact h3
   clear ho6 hu6 hat6 ho5 hu5 hat5 hsT HSD hcl hoE uA hu36;refine wpT 10 ?_;(try simp only [y_,z_]);refine aD_ (by kernel_rfl) ?_ _;generalize (if oc=k1 then some (⟨g,0,none⟩:Addr) else some ⟨g,k1 * 2,none⟩)=AX;obtain ⟨m6,Hm6⟩:∃m6:Nat,Hid (k+(on - k1)=m6):=⟨_,rfl⟩;have HOW6:=h_ (HOW.out.upd HU6.out (fun _ _ f=>f));have HC6:Hid (ElCells ElAS 2 w6 (fun _=>True) cs (L.map asE)):=HCL.out.mono elAS HU6.out (fun _ _ _ f=>f) (fun _ _ h=>h);have hkl:k<(L.map asE).length:=by rw [List.length_map,←HON.out];exact hkn
   have hkl2:k<L.length:=by rw [←HON.out];exact hkn
   obtain ⟨el,hel,RA,rc,he1,he2,he3⟩:=HC6.out.get hkl;have k0:=HOW6.out.sl.cell2 (j:=2 * k+0) (by rw [HOW6.out.len];omega);have k1':=HOW6.out.sl.cell2 (j:=2 * k+1) (by rw [HOW6.out.len];omega);rw [hel 0 (by decide)] at k0;rw [hel 1 (by decide)] at k1';obtain ⟨sk,Hsk⟩:=nm (L.map asE)[k];rw [Hsk.out] at he1 he2 he3;have HSK:Hid (sk=asE L[k]):=by show _=_;rw [←Hsk.out,List.getElem_map]
   rw [he1] at k0 k1';have HE:=h_ (show ElAS w6 (fun _=>True) el sk from ⟨RA,rc,he1,he2,he3⟩);have k0:w6.cell? ⟨g,k * 2,none⟩=some (.int .i64 sk.at_):=by rw [Nat.zero_add,Nat.add_zero] at k0;rw [Nat.mul_comm k 2];exact k0
   have k1':w6.cell? ⟨g,k * 2+1,none⟩=some (.slice RA sk.bits.length rc):=by rw [Nat.zero_add] at k1';rw [Nat.mul_comm k 2];exact k1'
   have hgl:g<w6.heap.size:=HOW6.out.lt (At.some_.2 rfl);have hkk:(k:Int)<(on:Int):=by omega
   obtain ⟨bn,Hbn⟩:=nm sk.bits.length;rw [Hbn.out] at k1' he1;obtain ⟨ta,Hta⟩:=nm sk.at_;rw [Hta.out] at k0 he1;have HEL:=h_ he1;obtain ⟨W7,HW7⟩:=nm ((w6.alloc (.cells #[] 46)).alloc (.cells #[.int .i64 ta,.slice RA bn rc] 46));have u7:Upd Non w6 W7:=by rw [←HW7.out];exact (Upd.refl.alloc _).alloc _
   have hoE7:Own W7 46 2 (some ⟨w6.heap.size,0,none⟩) 0 0 []:=by rw [←HW7.out];exact (own_empty w6 46 2).alloc _
   have hs7:Sl W7 (fun _=>True) (some ⟨w6.heap.size+1,0,none⟩) [.int .i64 ta,.slice RA bn rc]:=by rw [←HW7.out];exact (Sl.new2 w6 _ 46 _).mono (fun _ _ _=>trivial)
   have hcl8:=HOW6.out.len;clear hel he1 he2 he3 hkl Hsk
   go_wp2_with (at_builtin;rw [HW7.out];refine wpList_app rfl rfl T_AStates rfl hoE7 rfl hs7 rfl (by simp [Value.oneCell']) (by simp only [maxLen];omega) (by omega) ?_)
   intro A8 c8 w8 ho8 hu8 hat8;have u8:Upd Non w6 w8:=u7.trans hu8 (fun i hi q=>by rw [At.some_] at q;omega);have hs9:=HOW6.out.sl.upd u8 (fun _ _ _ f=>f)
   go_wp2_with (at_builtin;refine wpList_app rfl rfl T_AStates rfl ho8 rfl hs9 (by rw [hcl8]) (fun u hu=>elAS_one HCL.out u hu) (by simp only [maxLen];omega) (by omega) ?_)
   intro A9 c9 w9 ho9 hu9 hat9
   have u9:Upd Non w6 w9:=u8.trans hu9 (fun i hi q=>by
    have h1:=u7.size;rcases hat8 i q with q | q
    ·rw [At.some_] at q;omega
    ·omega)
   have HU69:=h_ (HU6.out.then_non u9);have HU9:=h_ (HU2.out.then_non HU69.out)
   have HM9:Hid (ElV ElAS 2 w9 (fun _=>True) A9 ((L[k]::L).map asE)):=by
    have h1:=(ElCells.nil (El:=ElAS) (k:=2) (w:=w6) (K:=fun _=>True)).snoc elAS HE.out;have h2:=(h1.app HC6.out).mono elAS u9 (fun _ _ _ f=>f) (fun _ _ h=>h);rw [HEL.out,HSK.out] at h2;exact ⟨_,ho9.sl.mono (fun _ _ _=>trivial),h2⟩
   have HL9:Hid (ElV ElAS 2 w9 (fun _=>True) (some ⟨g,0,none⟩) (L.map asE)):=⟨cs,(HOW6.out.sl.upd u9 (fun _ _ _ f=>f)).mono (fun _ _ _=>trivial),HC6.out.mono elAS u9 (fun _ _ _ f=>f) (fun _ _ h=>h)⟩
   have HF9:=h_ (HFE.out.upd elAS u9 (fun _ _ _ f=>f))
   have CC1:Hid (∀w',Upd Non w9 w'→Calls Try.prog 10 #[rlv R a,.slice (some ⟨g,0,none⟩) on oc] w' fun e w''=>e=.returned (.bool true)∧Upd Non w' w''):=fun w' u=>by
    have h:=aCheck_c (lc:=oc) R a _ w' (HK2.out.upd (HU69.out.then_non u) (fun _ _ _ f=>f)) HZ.out (HL9.out.upd elAS u (fun _ _ _ f=>f)) (by rw [List.length_map,←HON.out];omega)
    rw [List.length_map,←HON.out,ch_aut HL.out (M:=L) (fun _=>Iff.rfl) (by rw [←HON.out];omega)] at h;exact h
   have CC2:Hid (∀w',Upd Non w9 w'→Calls Try.prog 10 #[rlv R a,.slice A6 m6 c6] w' fun e w''=>e=.returned (.bool false)∧Upd Non w' w''):=fun w' u=>by
    have hlen:(L.take k++L.drop (k+1)).length=m6:=by rw [List.length_append,List.length_take,List.length_drop,←HON.out,←Hm6.out,Hk1.out];omega
    have h:=aCheck_c (lc:=c6) R a _ w' (HK2.out.upd (HU69.out.then_non u) (fun _ _ _ f=>f)) HZ.out (HF9.out.upd elAS u (fun _ _ _ f=>f)) (by rw [List.length_map,hlen,←Hm6.out];omega)
    rw [List.length_map,hlen,ch_few HL.out (x:=L[k]) (List.getElem_mem hkl2) (fun y=>mem_without HND.out hkl2)] at h;exact h
   have CC3:Hid (∀w',Upd Non w9 w'→Calls Try.prog 10 #[rlv R a,.slice A9 (1+on) c9] w' fun e w''=>e=.returned (.bool true)∧Upd Non w' w''):=fun w' u=>by
    have hlen:(L[k]::L).length=1+on:=by rw [List.length_cons,←HON.out,Nat.add_comm]
    have h:=aCheck_c (lc:=c9) R a _ w' (HK2.out.upd (HU69.out.then_non u) (fun _ _ _ f=>f)) HZ.out (HM9.out.upd elAS u (fun _ _ _ f=>f)) (by rw [List.length_map,hlen];omega)
    rw [List.length_map,hlen,ch_aut HL.out (M:=L[k]::L) (fun y=>by rw [List.mem_cons];exact ⟨fun q=>q.elim (fun q=>q ▸ List.getElem_mem hkl2) id,.inr⟩) (by rw [hlen];omega)] at h
    exact h
   have HB9:Hid (∀w',Upd Non w9 w'→Blk w' rb 28 (rlCells R a)):=fun w' u=>HB2.out.upd (HU69.out.then_non u) (fun f=>f)
   obtain ⟨m9,Hm9⟩:=nm (1+on);rw [Hm9.out] at CC3;unfold rlv rlCells at CC1 CC2 CC3;obtain ⟨c0,c1,c2,c3,c4,c5,c6',c7,c8',c9',c10,c11,c12,c13⟩:=rl_cells (HB9.out w9 Upd.refl);clear ho9 hu9 hat9 u9 u8 u7 hs9 ho8 hu8 hat8 hoE7 hs7 k0 k1' hgl hcl8 hC
   go_upto_region 10 with fail
   rw [Hm6.out,Hm9.out];go_wp2_with fail
   refine (CC1.out w9 Upd.refl).mono ?_;rintro e y1 ⟨rfl,v1⟩;clear c0 c1 c2 c3 c4 c5 c6' c7 c8' c9' c10 c11 c12 c13;obtain ⟨c0,c1,c2,c3,c4,c5,c6',c7,c8',c9',c10,c11,c12,c13⟩:=rl_cells (HB9.out y1 v1);go_wp2_with fail
   refine (CC2.out y1 v1).mono ?_;rintro e y2 ⟨rfl,v2⟩;have v12:=v1.then_non v2;clear c0 c1 c2 c3 c4 c5 c6' c7 c8' c9' c10 c11 c12 c13;obtain ⟨c0,c1,c2,c3,c4,c5,c6',c7,c8',c9',c10,c11,c12,c13⟩:=rl_cells (HB9.out y2 v12);go_wp2_with fail
   refine (CC3.out y2 v12).mono ?_;rintro e y3 ⟨rfl,v3⟩;have v13:=v12.then_non v3;clear c0 c1 c2 c3 c4 c5 c6' c7 c8' c9' c10 c11 c12 c13;go_wp2_with fail
   refine (auExamples_c y3).mono ?_;rintro e y4 ⟨rfl,v4⟩;go_wp2_with fail
   go_ret;exact ⟨rfl,HU9.out.then_non (v13.then_non v4)⟩
end Go.Proofs.Ytdbjgihnngigeaa
namespace Go.Proofs.Ytdbjgihnngigeaa
open Go.RowKit Go.WideShapes Go.ChangeShapes
section
variable {H:Type} {enc:TypeId×Value→H} {P:Program}
theorem post_of_below {f:Func} {s:ChangeSpec} {apart fresh handsOn again:Bool} {W W':World} {args:Array Value} {v:Value} {ds gs:List (DataW H)} {before pa pv:List MemPlace}
  (hW:DataW.Whole enc P f.params.toList s.vars apart W args.toList ds gs before)
  (hres:∀(b:Nat) (sp:Nat→Bool) (hd:Bool),DataW.TrodAll enc P W' b sp hd f.resultTypes.toList (v.resultList f.resultTypes.size) (s.fn H (ds++gs)).results [])
  (hargs:∀sp:Nat→Bool,(∀p∈before,sp p.block=true)→DataW.TrodAll enc P W' 0 sp true f.params.toList args.toList (s.fn H (ds++gs)).args pa)
  (hvars:∀sp:Nat→Bool,(∀p∈before,sp p.block=true)→DataW.TrodVars enc P W' sp s.vars (s.fn H (ds++gs)).vars pv)
  (hps:before=pa++pv) (hb:Below W.heap.size W W')
  (hok:∀(j:Nat) (t:TypeId) (r:Value),f.resultTypes[j]?=some t→(v.resultList f.resultTypes.size)[j]?=some r→Value.okWide P W' .any 0 t r) :
  s.post enc P f apart fresh handsOn again W args v W':=by
 have hlt:∀p∈before,p.block<W.heap.size:=fun p hp=>hW.lt p hp
 have hold:∀p∈before,(fun b=>decide (b<W.heap.size)) p.block=true:=fun p hp=>by simpa using hlt p hp
 refine ⟨ds,gs,before,[],pa,pv,hW,hres _ _ _,hargs _ hold,hvars _ hold,World.keptBut_mono (fun p hp=>⟨hp,?_⟩) (hb.frame (·∈before)),fun _=>?_⟩
 ·rw [hps,List.mem_append] at hp;exact Or.inr hp
 ·obtain ⟨_,_,_,_,_,hz,hn⟩:=hW;refine ⟨hok,_,_,([]++pa)++pv,⟨[]++pa,pv,trodAll_append (hargs _ (fun _ _=>rfl)) (hres _ _ _),hvars _ (fun _ _=>rfl),rfl,?_,?_⟩,?_⟩
  ·intro b off hp;have hin:MemPlace.cell b off∈before:=by rw [hps];simpa using hp
   rw [hb.frozen (hlt _ hin)];exact hz b off hin
  ·intro ha;have:=hn ha;rw [hps] at this;simpa using this
  ·intro p hp _;rw [hps];simpa using hp
theorem trodAll_stays (hl:laidOutB P=true) {W W':World} {sp:Nat→Bool}:∀{ts:List TypeId} {vs:List Value} {ds:List (DataW H)} {ps:List MemPlace},
  (ts.all fun t=>P.readableRec t&&decide (t<P.types.size))=true→DataW.TrodAll enc P W 0 (fun _=>true) true ts vs ds ps→(∀p∈ps,W.sameAt W' p)→(∀p∈ps,sp p.block=true)→DataW.TrodAll enc P W' 0 sp true ts vs ds ps
 | [],vs,ds,ps,_,h,_,_=>by
  obtain ⟨rfl,rfl,rfl⟩:=trodAll_nil h;exact trodAll_mk0
 | t::ts,vs,ds,ps,ht,h,h1,h2=>by
  obtain ⟨v,vs',d,ds',p,q,rfl,rfl,rfl,hp,hq⟩:=trodAll_cons h;simp only [List.all_cons,Bool.and_eq_true,decide_eq_true_eq] at ht
  exact trodAll_cons_mk (WideElems.Trod_stays hl ht.1.1 ht.1.2 hp (fun x hx=>h1 x (by simp [hx])) (fun x hx=>h2 x (by simp [hx])))
   (trodAll_stays hl ht.2 hq (fun x hx=>h1 x (by simp [hx])) (fun x hx=>h2 x (by simp [hx])))
theorem law_post {f:Func} {s:ChangeSpec} {apart fresh handsOn again:Bool} {W W':World} {args:Array Value} {ds gs:List (DataW H)} {before:List MemPlace} {tb:TypeId}
  (hW:DataW.Whole enc P f.params.toList s.vars apart W args.toList ds gs before) (hl:laidOutB P=true) (hts:(f.params.toList.all fun t=>P.readableRec t&&decide (t<P.types.size))=true) (hv:s.vars=[])
  (hrt:f.resultTypes=#[tb]) (hbool:P.underlying tb=some .bool) (hs:s.fn H (ds++gs)={ results:=[.lit (.bool true)],args:=ds }) (hb:Below W.heap.size W W') :
  s.post enc P f apart fresh handsOn again W args (.bool true) W':=by
 have hW2:=hW;obtain ⟨p,q,hA,hV,rfl,hz,hn⟩:=hW;rw [hv] at hV;obtain ⟨rfl,rfl⟩:=trodVars_none hV;have hlt:∀x∈p,x.block<W.heap.size:=fun x hx=>hW2.lt x (by simpa using hx)
 refine post_of_below (pa:=p) (pv:=[]) hW2 (fun b sp hd=>?_) (fun sp hsp=>?_) (fun sp hsp=>?_) rfl hb ?_
 ·rw [hs,hrt];exact trodAll_mk1 (shut_bool hbool true)
 ·rw [hs];exact trodAll_stays hl hts hA (fun x hx=>hb.same (hlt x hx)) (fun x hx=>hsp x (by simpa using hx))
 ·rw [hs,hv];rfl
 ·intro j t r h1 h2;rw [hrt] at h1 h2
  match j,h1 with
  | 0,h1 =>
   simp at h1;subst h1;simp [Value.resultList] at h2;subst h2;exact okWide_bool_mk hbool true
end
theorem own_:ownKnob Try.prog.godebug=none:=by kernel_rfl
theorem laidOut_:laidOutB Try.prog=true:=by kernel_rfl
end Go.Proofs.Ytdbjgihnngigeaa
namespace Go.Proofs.Ytdbjgihnngigeaa
open Go.RowKit Go.WideShapes Go.ChangeShapes Go.ChangeAt
section
variable {H:Type} {enc:TypeId×Value→H} {P:Program} {w:World}
theorem i64_of_wf {n:Int} (h:(Lit.int .i64 n).wf=true):I64 n:=by
 have h1:IntKind.i64.min = -9223372036854775808:=rfl;have h2:IntKind.i64.max=9223372036854775807:=rfl;simp only [Lit.wf,Bool.and_eq_true,decide_eq_true_eq] at h;unfold I64;omega
theorem open_i64 {r:Reach} {b0 base:Nat} {sp:Nat→Bool} {held:Bool} {t:TypeId} {v:Value} {d:DataW H} {ps:List MemPlace} (ht:P.underlying t=some (.int .i64)) (hval:Value.okWide P w r b0 t v) (hd:DataW.Trod enc P w base sp held t v d ps) :
  ∃n,v=.int .i64 n∧I64 n:=by
 obtain ⟨n,h1,_,_,h2⟩:=open_int ht hval hd;exact ⟨n,h1,i64_of_wf h2⟩
theorem open_intsV {r:Reach} {b0 base:Nat} {sp:Nat→Bool} {held:Bool} {t e:TypeId} {v:Value} {d:DataW H} {ps:List MemPlace} (ht:P.underlying t=some (.slice e)) (he:P.underlying e=some (.int .i64)) (hc:P.cellsOf e=1) (hby:P.bytesOf e=8)
  (hval:Value.okWide P w r b0 t v) (hd:DataW.Trod enc P w base sp held t v d ps)
  {ts:List TypeId} {ds:List (DataW H)} (hsz:(DataW.weightsEach P ts ds).all (·≤reachBytes)=true) {j:Nat} (htj:ts[j]?=some t) (hdj:ds[j]?=some d) :
  ∃A c xs,v=.slice A xs.length c∧xs.length≤c∧Ints w (fun _=>True) A xs∧(∀x∈xs,I64 x)∧xs.length≤20000000000000:=by
 obtain ⟨a0,len,cap,rfl⟩:=okWide_slice ht hval;obtain ⟨fuel,hf⟩:=hd;rcases open_ints ht he hc hf with ⟨hcs,hx⟩ | ⟨a,len',cap',zs,hcs,_,hl,hm,hz,hx,hcell,hwz⟩
 ·simp [Value.cells] at hcs;obtain ⟨rfl,rfl,rfl⟩:=hcs;exact ⟨none,0,[],rfl,by simp,.inl rfl,by simp,by simp⟩
 ·simp [Value.cells] at hcs;obtain ⟨rfl,rfl,rfl⟩:=hcs;simp only [Prod.mk.injEq] at hx;obtain ⟨rfl,rfl⟩:=hx;have hzl:len≤zs.length:=by rw [hz];split <;> omega
  have hlen:(zs.take len).length=len:=by simp;omega
  refine ⟨some a,cap,zs.take len,by rw [hlen],by omega,?_,fun x hx=>i64_of_wf (hwz x (List.mem_of_mem_take hx)),?_⟩
  ·by_cases h0:len=0
   ·subst h0;exact .inl (by simp)
   ·obtain ⟨b,off,spot⟩:=a;have hspot:spot=none:=by simpa [Addr.add] using World.cell?_spot (hcell 0 (by omega))
    subst hspot;refine .inr ⟨b,off,rfl,trivial,fun k hk=>?_⟩;have hk':k<zs.length:=by simp at hk;omega
    have:=hcell k hk';rw [Addr.add_lit] at this;rw [this];simp [List.getD,hk']
  ·have:=sized_slice hsz htj hdj ht;rw [hby] at this;simp only [lits,List.length_map,List.length_take,List.length_drop,reachBytes] at this;rw [hlen];omega
end
theorem cells_int:Try.prog.cellsOf 3=1:=by kernel_rfl
theorem bytes_int:Try.prog.bytesOf 3=8:=by kernel_rfl
mutual
def GA (n:Int):Pt→Prop
 | .mk v op imm iv kids=>(0≤v∧v≤n∧(v=0→kids.length=(oSortsF op).1.length)∧I64 imm∧iv=0)∧GAL n kids
def GAL (n:Int):List Pt→Prop
 | []=>True
 | k::ks=>GA n k∧GAL n ks
end
theorem GAL.iff (n:Int):∀l:List Pt,GAL n l↔∀k∈l,GA n k
 | []=>by simp [GAL]
 | k::ks=>by simp [GAL,GAL.iff n ks]
theorem GA.iff (n:Int) (p:Pt):GA n p↔(0≤p.v∧p.v≤n∧(p.v=0→p.kids.length=(oSortsF p.op).1.length)∧I64 p.imm∧p.iv=0)∧∀k∈p.kids,GA n k:=by
 obtain ⟨v,op,imm,iv,kids⟩:=p;rw [GA,GAL.iff];rfl
theorem GA.pi {n:Int} (p:Pt):GA n p→PI p:=by
 induction p using Pt.ind with
 | h p ih =>
  intro h;rw [GA.iff] at h;intro q hq
  have hl:∀l:List Pt,(∀k∈l,k∈p.kids)→q∈nodesL l→I64 q.imm:=by
   intro l
   induction l with
   | nil=>intro _ hq;simp [nodesL] at hq
   | cons k ks ihl =>
    intro hk hq;rw [nodesL,List.mem_append] at hq;rcases hq with hq | hq
    ·exact ih k (hk k (by simp)) (h.2 k (hk k (by simp))) q hq
    ·exact ihl (fun x hx=>hk x (by simp [hx])) hq
  obtain ⟨v,op,imm,iv,kids⟩:=p;rw [nodes,List.mem_cons] at hq;rcases hq with rfl | hq
  ·exact h.1.2.2.2.1
  ·exact hl kids (fun _ h=>h) hq
theorem ga_v {n v:Int} (h0:1≤v) (h:v≤n):GA n (.mk v 0 0 0 []):=⟨⟨by omega,h,fun e=>by omega,i64_zero,rfl⟩,trivial⟩
theorem ga_1 {n op:Int} (hn:0≤n) (ho:(oSortsF op).1.length=1) {a:Pt} (ha:GA n a):GA n (.mk 0 op 0 0 [a]):=⟨⟨by omega,hn,fun _=>by rw [ho];rfl,i64_zero,rfl⟩,ha,trivial⟩
theorem ga_q2 {n k:Int} {a b:Pt} (hn:0≤n) (hk:(oSortsF k).1.length=2) (ha:GA n a) (hb:GA n b):GA n (q2 k a b):=⟨⟨by omega,hn,fun _=>by rw [hk];rfl,i64_zero,rfl⟩,ha,hb,trivial⟩
theorem ga_q1c {n x:Int} (hn:0≤n) (hx:I64 x):GA n (q1c x):=⟨⟨by omega,hn,fun _=>rfl,hx,rfl⟩,trivial⟩
theorem os_two {k:Int} (h:4≤k∧k≤19):(oSortsF k).1.length=2:=by
 unfold oSortsF;rw [if_neg (by omega),if_neg (by omega),if_neg (by omega),if_neg (by omega),if_neg (by omega),if_pos (by omega),if_neg (by omega),if_neg (by omega)];rfl
theorem hd_i64 {xs:List Int} (h:∀x∈xs,I64 x):I64 (xs.headD 0):=by
 cases xs with
 | nil=>exact i64_zero
 | cons x xs=>exact h x (by simp)
theorem tl_i64 {xs:List Int} (h:∀x∈xs,I64 x):∀x∈xs.tail,I64 x:=fun x hx=>h x (List.mem_of_mem_tail hx)
theorem ga_leaf (vars:Int) (hv:1≤vars) {n:Int} (hn:I64 n):GA vars (lfA vars n):=by
 unfold lfA
 split
 ·exact ga_q1c (by omega) (wordF_i64 _ hn)
 ·have h1:=Int.emod_lt_of_pos (pM n) (show 0<vars by omega);have h2:=Int.emod_nonneg (pM n) (show vars≠0 by omega);exact ga_v (by omega) (by omega)
theorem patA_ga (vars:Int) (hv:1≤vars):∀(f:Nat) (t:Bool) (xs:List Int),(∀x∈xs,I64 x)→GA vars (patA vars f t xs).1∧∀x∈(patA vars f t xs).2,I64 x
 | 0,_,xs,hx=>⟨ga_leaf vars hv (hd_i64 hx),tl_i64 hx⟩
 | 1,_,xs,hx=>⟨ga_leaf vars hv (hd_i64 hx),tl_i64 hx⟩
 | f+2,t,xs,hx=>by
  have h1:=fun t ys h=>patA_ga vars hv (f+1) t ys h
  have h2:=fun ys h=>patA_ga vars hv f false ys h
  have h0:0≤vars:=by omega
  have hh:=hd_i64 hx;have ht:=tl_i64 hx;have hp:=Int.emod_nonneg ((xs.headD 0).tdiv 12) (show (1000:Int)≠0 by omega);have hp:0≤pM (xs.headD 0):=hp;show GA vars (patS vars _ t (patA vars (f+1)) (patA vars f false) xs).1∧∀x∈(patS vars _ t (patA vars (f+1)) (patA vars f false) xs).2,I64 x;unfold patS;simp only;by_cases c1:(decide (f=0)=true∧xs.headD 0 % 12<6)∨xs.headD 0 % 12<3
  ·rw [if_pos c1];exact ⟨ga_leaf vars hv hh,ht⟩
  ·rw [if_neg c1];by_cases c2:xs.headD 0 % 12<5
   ·rw [if_pos c2];exact ⟨ga_1 h0 (by split <;> rfl) (h1 t _ ht).1,(h1 t _ ht).2⟩
   ·rw [if_neg c2];by_cases c3:xs.headD 0 % 12<6
    ·rw [if_pos c3];exact ⟨ga_q2 h0 (os_two (by omega)) (h1 t _ ht).1 (ga_q1c h0 (by unfold I64;omega)),(h1 t _ ht).2⟩
    ·rw [if_neg c3];by_cases c4:xs.headD 0 % 12<7∧t=true
     ·rw [if_pos c4];have a:=h2 _ ht;have b:=h2 _ a.2;exact ⟨ga_q2 h0 (os_two (by omega)) a.1 b.1,b.2⟩
     ·rw [if_neg c4];by_cases c5:xs.headD 0 % 12<8∧t=true
      ·rw [if_pos c5];have a:=h1 false _ ht;have b:=h2 _ a.2;have c:=h2 _ b.2;exact ⟨⟨⟨by omega,h0,fun _=>rfl,i64_zero,rfl⟩,a.1,b.1,c.1,trivial⟩,c.2⟩
      ·rw [if_neg c5];have a:=h1 t _ ht;have b:=h1 t _ a.2;refine ⟨ga_q2 h0 (os_two ?_) a.1 b.1,b.2⟩;have h5:=Int.emod_lt_of_pos (pM (xs.headD 0)) (show (0:Int)<5 by omega);have h6:=Int.emod_nonneg (pM (xs.headD 0)) (show (5:Int)≠0 by omega);obtain ⟨m,hm⟩:=Int.eq_ofNat_of_zero_le h6;rw [hm] at h5 ⊢;have : m=0∨m=1∨m=2∨m=3∨m=4:=by omega
       rcases this with rfl | rfl | rfl | rfl | rfl <;> decide
theorem findG_lt:∀{vs:List Int} {x:Int} {k i:Nat},findG vs x k=some i→i<k+vs.length
 | [],_,_,_,h=>by cases h
 | y::l,x,k,i,h=>by
  rw [findG] at h;rw [List.length_cons]
  split at h
  ·injection h with h;omega
  ·have:=findG_lt h;omega
theorem numV_in {vs:List Int} {x:Int}:1≤(numV vs x).1∧(numV vs x).1≤((numV vs x).2.length:Int):=by
 unfold numV
 split
 ·rename_i i e;have:=findG_lt e;exact ⟨by show (1:Int)≤(i:Int)+1;omega,by show (i:Int)+1≤(vs.length:Int);omega⟩
 ·rw [List.length_append];exact ⟨by show (1:Int)≤(vs.length:Int)+1;omega,by show (vs.length:Int)+1≤_;simp⟩
mutual
theorem numF_ga:∀(p:Pt) (vs ms:List Int),GA 2 p→PV 2 p→VsN 2 vs→GA 2 (numF p vs ms).1
 | .mk v op imm iv kids,vs,ms,hg,hp,h=>by
  simp only [numF];obtain ⟨⟨g1,g2,g3,g4,g5⟩,g6⟩:=hg
  split
  ·rename_i hv;have h1:=numV_in (vs:=vs) (x:=v);have h2:=vsN_two (h.numV hv hp.1);exact ⟨⟨by omega,by omega,fun e=>by omega,g4,g5⟩,g6⟩
  ·subst g5;have e:numI ms 0=(0,ms):=by unfold numI;rw [if_neg (by omega)]
   rw [e];exact ⟨⟨g1,g2,fun e=>by rw [numL_len];exact g3 e,g4,rfl⟩,numL_ga kids vs _ g6 hp.2 h⟩
theorem numL_ga:∀(ks:List Pt) (vs ms:List Int),GAL 2 ks→PVL 2 ks→VsN 2 vs→GAL 2 (numL ks vs ms).1
 | [],_,_,_,_,_=>trivial
 | k::ks,vs,ms,hg,hp,h=>⟨numF_ga k vs ms hg.1 hp.1 h,numL_ga ks _ _ hg.2 hp.2 (numF_vs 2 k vs ms hp.1 h)⟩
end
theorem vsN_nil:VsN 2 []:=⟨List.nodup_nil,fun _ h=>absurd h (List.not_mem_nil)⟩
theorem GA.mono {m n:Int} (h:m≤n) (p:Pt):GA m p→GA n p:=by
 induction p using Pt.ind with
 | h p ih =>
  intro hp;rw [GA.iff] at hp ⊢;exact ⟨⟨hp.1.1,by omega,hp.1.2.2⟩,fun k hk=>ih k hk (hp.2 k hk)⟩
theorem aCondsF_i (n:Int) (nv:Nat):∀c∈aCondsF n nv,I64 c.n:=by
 have h7:I64 7:=by unfold I64;omega
 intro c hc;unfold aCondsF aCond5 at hc
 repeat' split at hc
 all_goals first | (rw [List.mem_singleton] at hc;subst hc;first | exact i64_zero | exact wordF_i64 _ h7) | (cases hc)
section
variable {xs:List Int} (hx:∀x∈xs,I64 x)
include hx
theorem aNumF_ga:GA 2 (aNumF xs).1:=numF_ga _ [] [] (patA_ga 2 (by omega) 4 true _ (tl_i64 hx)).1 (patA_pv 2 (by omega) 4 true xs.tail) vsN_nil
theorem aLeftF_ga:GA 2 (aLeftF xs):=by
 unfold aLeftF
 split
 ·exact ga_1 (by omega) rfl (aNumF_ga hx)
 ·exact aNumF_ga hx
theorem aRightF_ga:GA 2 (aRightF xs):=by
 unfold aRightF
 split
 ·rename_i h;have h2:=aNumF_len xs;exact GA.mono (by omega) _ (patA_ga _ (by omega) 3 true _ (patA_ga 2 (by omega) 4 true _ (tl_i64 hx)).2).1
 ·exact aLeftF_ga hx
theorem aRuleF_i:RlI (aRuleF xs):=⟨(aLeftF_ga hx).pi,(aRightF_ga hx).pi,fun c hc=>aCondsF_i _ _ c hc⟩
end
set_option maxRecDepth 100000 in
set_option maxHeartbeats 8000000 in
theorem satisfies_c (r:Rl) (a:RlA) (F:Nat→Prop) (w:World) (hk:RlK w F r a) (hcn:r.conds.length≤1000000000000) {G:Nat→Prop} {AI:Option Addr} {ci:Nat} {ins:List Int} (hin:Ints w G AI ins) (hil:ins.length≤1000000) (hcs:∀c∈r.conds,1≤c.a∧c.a≤ins.length∧(c.kind=4→1≤c.b∧c.b≤ins.length)) :
  Calls Try.prog 14 #[rlv r a,.slice AI ins.length ci] w fun e w'=>e=.returned (.bool (r.conds.all (satC ins)))∧Upd Non w w':=by
 obtain ⟨W,HW⟩:=nm (w.alloc (.cells (rlCells r a) 28));have hU:Upd Non w W:=by rw [←HW.out];exact Upd.refl.alloc _
 have hb:Blk W w.heap.size 28 (rlCells r a):=by rw [←HW.out];exact Blk.new _ _ _
 have e0:=HW.out;have hC:=(hk.c.mono (G:=fun k=>k<w.heap.size) (fun _ h _=>h)).upd hU (fun _ _ _ f=>f);have hin1:=(hin.mono (G:=fun k=>k<w.heap.size) (fun _ h _=>h)).upd hU (fun _ _ _ f=>f);have hc0:=rl_cells hb;obtain ⟨c0,c1,c2,c3,c4,c5,c6,c7,c8,c9,c10,c11,c12,c13⟩:=hc0;obtain ⟨CA,hCA⟩:∃x,a.ca=x:=⟨_,rfl⟩;rw [hCA] at hC c11;obtain ⟨nc,Hnc⟩:=nm r.conds.length;obtain ⟨ni,Hni⟩:=nm ins.length;rw [Hnc.out] at c11 hcn;rw [Hni.out] at hcs hil;rw [Hni.out];have HCS:=h_ hcs;have HC:=h_ hC;have HIN:=h_ hin1;have HU:=h_ hU;clear hk hin hcs hC hin1 hU hb;unfold rlv;unfold rlCells at e0 ⊢;rw [hCA,Hnc.out] at e0 ⊢;clear hCA;go_enter Try.func14,Try.ntmps14;go_wp2_with fail
 go_loopg [11] nc (fun gg i wr=>∃j:Nat,Hid (gg=nc - j)∧j≤nc∧i=.int .i64 j∧Hid ((r.conds.take j).all (satC ins)=true)∧Hid (Upd Non W wr))
 case atStart=>exact ⟨0,rfl,by omega,rfl,by rw [List.take_zero];rfl,Upd.refl⟩
 case round =>
  obtain ⟨j,Hg,hj,rfl,HT,HUr⟩:=hrel;by_cases hlt:j<nc
  ·have hjl:j<r.conds.length:=by rw [Hnc.out];exact hlt
   obtain ⟨b,o,rfl,_,hbw,k0,k1,k2,k3⟩:=(HC.out.upd HUr.out (fun _ _ _ f=>f)).at_ hjl;have hmem:=List.getElem_mem hjl;have htk:=List.take_succ_eq_append_getElem hjl;generalize r.conds[j]=cd at *;have hj0:(0:Int)≤(j:Int):=by omega
   have hjn:(j:Int)<(nc:Int):=by omega
   obtain ⟨ha1,ha2,hb12⟩:=HCS.out cd hmem;obtain ⟨kind,a_,b_,n_⟩:=cd;simp only at k0 k1 k2 k3 ha1 ha2 hb12;obtain ⟨an,rfl⟩:∃an:Nat,a_=((an+1:Nat):Int):=⟨(a_ - 1).toNat,by omega⟩;have hanl:an<ins.length:=by rw [Hni.out];omega
   obtain ⟨bi,oi,rfl,_,hbi,ki⟩:=(HIN.out.upd HUr.out (fun _ _ _ f=>f)).at_ hanl;obtain ⟨v,Hv⟩:=nm ins[an];rw [Hv.out] at ki;have q1:wrap64 (((an+1:Nat):Int) - 1)=(an:Int):=by rw [wrap64_of (by unfold I64;omega)];omega
   have q2:(0:Int)≤(an:Int):=by omega
   have q3:(an:Int)<(ni:Int):=by omega
   have hgd:ins.getD an 0=v:=by rw [getD_of hanl];exact Hv.out
   have HSC:Hid (satC ins ⟨kind,((an+1:Nat):Int),b_,n_⟩=!(decide (kind=1)&&decide (v=0) || decide (kind=2)&&decide (v<n_) || decide (kind=3)&&decide (v > n_) || decide (kind=4)&&decide (v=ins.getD (b_ - 1).toNat 0))):=by
    show _=_;unfold satC;rw [show (((an+1:Nat):Int) - 1).toNat=an by omega,hgd]
   have HT2:Hid (satC ins ⟨kind,((an+1:Nat):Int),b_,n_⟩=true→(r.conds.take (j+1)).all (satC ins)=true):=fun h=>by rw [htk,List.all_append,HT.out,List.all_cons,h];rfl
   have HF2:Hid (satC ins ⟨kind,((an+1:Nat):Int),b_,n_⟩=false→r.conds.all (satC ins)=false):=fun h=>by
    rw [Bool.eq_false_iff];intro q;rw [List.all_eq_true.1 q _ hmem] at h;cases h
   obtain ⟨AN,HAN⟩:=nm (((an+1:Nat):Int));rw [HAN.out] at k1 q1;clear hmem htk hgd Hv hanl hjl;by_cases e1:kind=1
   ·subst e1;rw [HSC.out] at HT2 HF2;by_cases hv:v=0
    ·have t1:decide (v=0)=true:=dT_ hv;have t1':(v==0)=true:=beq_iff_eq.2 hv;have HT3:Hid (r.conds.all (satC ins)=false):=HF2.out (by rw [t1];rfl);clear HT2 HF2 HSC hv hb12;go_wp2_with fail
     go_ret;exact ⟨by rw [HT3.out];rfl,HU.out.then_non (HUr.out.alloc _)⟩
    ·have t1:decide (v=0)=false:=dF_ hv;have t1':(v==0)=false:=beq_eq_false_iff_ne.2 hv;have HT3:Hid ((r.conds.take (j+1)).all (satC ins)=true):=HT2.out (by rw [t1];simp);clear HT2 HF2 HSC hv hb12;go_wp2_with fail
     go_roundg (nc - (j+1))
     case measure=>rw [Hg.out];omega
     case rel=>exact ⟨j+1,rfl,by omega,by go_num,HT3.out,HUr.out.alloc _⟩
   ·by_cases e2:kind=2
    ·subst e2;rw [HSC.out] at HT2 HF2;by_cases hv:v<n_
     ·have t1:decide (v<n_)=true:=dT_ hv;have HT3:Hid (r.conds.all (satC ins)=false):=HF2.out (by rw [t1];rfl);clear HT2 HF2 HSC hv hb12 e1;go_wp2_with fail
      go_ret;exact ⟨by rw [HT3.out];rfl,HU.out.then_non (HUr.out.alloc _)⟩
     ·have t1:decide (v<n_)=false:=dF_ hv;have HT3:Hid ((r.conds.take (j+1)).all (satC ins)=true):=HT2.out (by rw [t1];simp);clear HT2 HF2 HSC hv hb12 e1;go_wp2_with fail
      go_roundg (nc - (j+1))
      case measure=>rw [Hg.out];omega
      case rel=>exact ⟨j+1,rfl,by omega,by go_num,HT3.out,HUr.out.alloc _⟩
    ·by_cases e3:kind=3
     ·subst e3;rw [HSC.out] at HT2 HF2;by_cases hv:v > n_
      ·have t1:decide (v > n_)=true:=dT_ hv;have HT3:Hid (r.conds.all (satC ins)=false):=HF2.out (by rw [t1];rfl);clear HT2 HF2 HSC hv hb12 e1 e2;go_wp2_with fail
       go_ret;exact ⟨by rw [HT3.out];rfl,HU.out.then_non (HUr.out.alloc _)⟩
      ·have t1:decide (v > n_)=false:=dF_ hv;have HT3:Hid ((r.conds.take (j+1)).all (satC ins)=true):=HT2.out (by rw [t1];simp);clear HT2 HF2 HSC hv hb12 e1 e2;go_wp2_with fail
       go_roundg (nc - (j+1))
       case measure=>rw [Hg.out];omega
       case rel=>exact ⟨j+1,rfl,by omega,by go_num,HT3.out,HUr.out.alloc _⟩
     ·have t1:decide (kind=1)=false:=dF_ e1;have t1':(kind==1)=false:=beq_eq_false_iff_ne.2 e1;have t2:decide (kind=2)=false:=dF_ e2;have t2':(kind==2)=false:=beq_eq_false_iff_ne.2 e2;have t3:decide (kind=3)=false:=dF_ e3;have t3':(kind==3)=false:=beq_eq_false_iff_ne.2 e3;rw [HSC.out] at HT2 HF2;by_cases e4:kind=4
      ·obtain ⟨hb1,hb2⟩:=hb12 e4;subst e4;obtain ⟨bn,rfl⟩:∃bn:Nat,b_=((bn+1:Nat):Int):=⟨(b_ - 1).toNat,by omega⟩;have hbnl:bn<ins.length:=by rw [Hni.out];omega
       obtain ⟨bi2,oi2,hA2,_,_,kj⟩:=(HIN.out.upd HUr.out (fun _ _ _ f=>f)).at_ hbnl;injection hA2 with hA2
       injection hA2 with hA2 hA3
       subst hA2 hA3;obtain ⟨v2,Hv2⟩:=nm ins[bn];rw [Hv2.out] at kj;have hgd:ins.getD bn 0=v2:=by rw [getD_of hbnl];exact Hv2.out
       rw [show (((bn+1:Nat):Int) - 1).toNat=bn by omega,hgd] at HT2 HF2;have p1:wrap64 (((bn+1:Nat):Int) - 1)=(bn:Int):=by rw [wrap64_of (by unfold I64;omega)];omega
       have p2:(0:Int)≤(bn:Int):=by omega
       have p3:(bn:Int)<(ni:Int):=by omega
       obtain ⟨BN,HBN⟩:=nm (((bn+1:Nat):Int));rw [HBN.out] at k2 p1;clear hgd Hv2 hbnl hb1 hb2 hb12 e1 e2 e3 t1 t2 t3 t1' t2' t3';by_cases hv:v=v2
       ·have t1:decide (v=v2)=true:=dT_ hv;have t1':(v==v2)=true:=beq_iff_eq.2 hv;have HT3:Hid (r.conds.all (satC ins)=false):=HF2.out (by rw [t1];simp);clear HT2 HF2 HSC hv;go_wp2_with fail
        go_ret;exact ⟨by rw [HT3.out];rfl,HU.out.then_non (HUr.out.alloc _)⟩
       ·have t1:decide (v=v2)=false:=dF_ hv;have t1':(v==v2)=false:=beq_eq_false_iff_ne.2 hv;have HT3:Hid ((r.conds.take (j+1)).all (satC ins)=true):=HT2.out (by rw [t1];simp);clear HT2 HF2 HSC hv;go_wp2_with fail
        go_roundg (nc - (j+1))
        case measure=>rw [Hg.out];omega
        case rel=>exact ⟨j+1,rfl,by omega,by go_num,HT3.out,HUr.out.alloc _⟩
      ·have t4:decide (kind=4)=false:=dF_ e4;have t4':(kind==4)=false:=beq_eq_false_iff_ne.2 e4;have HT3:Hid ((r.conds.take (j+1)).all (satC ins)=true):=HT2.out (by rw [t1,t2,t3,t4];rfl);clear HT2 HF2 HSC e1 e2 e3 e4 hb12;go_wp2_with fail
       go_roundg (nc - (j+1))
       case measure=>rw [Hg.out];omega
       case rel=>exact ⟨j+1,rfl,by omega,by go_num,HT3.out,HUr.out.alloc _⟩
  ·obtain rfl:nc=j:=by omega
   have HT2:Hid (r.conds.all (satC ins)=true):=by show _=_;have:=HT.out;rwa [List.take_of_length_le (by rw [Hnc.out];exact Nat.le_refl _)] at this
   go_wp2_with fail
   go_ret;exact ⟨by rw [HT2.out];rfl,HU.out.then_non HUr.out⟩
set_option maxHeartbeats 400000 in
theorem div_c (a b:Int) (w:World):Calls Try.prog 44 #[.int .i64 a,.int .i64 b] w fun e w'=>e=.returned (.int .i64 (divF a b))∧w=w':=by
 by_cases h0:b=0
 ·subst h0;go_enter Try.func44,Try.ntmps44;go_wp2_with fail
  go_ret;exact ⟨rfl,rfl⟩
 ·have d0:(b==0)=false:=by simpa using h0
  by_cases h1:b = -1
  ·subst h1;go_enter Try.func44,Try.ntmps44;go_wp2_with fail
   go_ret;exact ⟨rfl,rfl⟩
  ·have d1:(b == -1)=false:=by simpa using h1
   have HD:Hid (divF a b=wrap64 (a.tdiv b)):=by show _=_;unfold divF;rw [if_neg h0,if_neg h1]
   clear h1;go_enter Try.func44,Try.ntmps44;go_wp2_with fail
   go_ret;exact ⟨by rw [HD.out];rfl,rfl⟩
theorem boolWord_c (b:Bool) (w:World):Calls Try.prog 45 #[.bool b] w fun e w'=>e=.returned (.int .i64 (bW b))∧w=w':=by
 cases b
 all_goals
  go_enter Try.func45,Try.ntmps45
  go_wp2
  go_ret;exact ⟨rfl,rfl⟩
set_option maxHeartbeats 400000 in
theorem unary_c (op a:Int) (w:World):Calls Try.prog 27 #[.int .i64 op,.int .i64 a] w fun e w'=>e=.returned (.int .i64 (unF op a))∧w=w':=by
 by_cases h0:op=20
 ·subst h0;go_enter Try.func27,Try.ntmps27;go_wp2_with fail
  go_ret;exact ⟨rfl,rfl⟩
 ·by_cases h1:op=21
  ·subst h1;go_enter Try.func27,Try.ntmps27;go_wp2_with fail
   go_ret;exact ⟨rfl,rfl⟩
  ·have HU:Hid (unF op a=0):=by show _=_;unfold unF;rw [if_neg h0,if_neg h1]
   have d0:(op==20)=false:=by simpa using h0
   have d1:(op==21)=false:=by simpa using h1
   go_enter Try.func27,Try.ntmps27;go_wp2_with fail
   go_ret;exact ⟨by rw [HU.out];rfl,rfl⟩
set_option maxHeartbeats 4000000 in
theorem binary_c (op a b:Int) (w:World) (h:4≤op) (h':op≤19):Calls Try.prog 28 #[.int .i64 op,.int .i64 a,.int .i64 b] w fun e w'=>e=.returned (.int .i64 (binF op a b))∧w=w':=by
 have hop:op=4∨op=5∨op=6∨op=7∨op=8∨op=9∨op=10∨op=11∨op=12∨op=13∨op=14∨op=15∨op=16∨op=17∨op=18∨op=19:=by omega
 clear h h';have CD:=h_ (div_c a b w);rcases hop with rfl | rfl | rfl | rfl | rfl | rfl | rfl | rfl | rfl | rfl | rfl | rfl | rfl | rfl | rfl | rfl
 case inr.inr.inr.inr.inl =>
  by_cases h0:b=0
  ·subst h0;go_enter Try.func28,Try.ntmps28;go_wp2_with fail
   go_ret;exact ⟨rfl,rfl⟩
  ·have HR:Hid (binF 8 a b=wrap64 (a - wrap64 (divF a b * b))):=by show remF a b=_;unfold remF;rw [if_neg h0]
   have d0:(b==0)=false:=by simpa using h0
   clear h0;obtain ⟨q,Hq⟩:=nm (divF a b);rw [Hq.out] at CD HR;go_enter Try.func28,Try.ntmps28;go_wp2_with fail
   refine CD.out.mono ?_;rintro e w1 ⟨rfl,rfl⟩;go_wp2_with fail
   go_ret;exact ⟨by rw [HR.out];rfl,rfl⟩
 case inr.inr.inr.inl =>
  obtain ⟨q,Hq⟩:=nm (divF a b);rw [Hq.out] at CD;have HR:Hid (binF 7 a b=q):=Hq.out;go_enter Try.func28,Try.ntmps28;go_wp2_with fail
  refine CD.out.mono ?_;rintro e w1 ⟨rfl,rfl⟩;go_wp2_with fail
  go_ret;exact ⟨by rw [HR.out];rfl,rfl⟩
 all_goals
  go_enter Try.func28,Try.ntmps28
  go_wp2_with (go_at_call 45;refine (boolWord_c _ _).mono ?_;rintro e w1 ⟨rfl,rfl⟩)
  go_ret;exact ⟨rfl,rfl⟩
theorem T_i64s:SlT Try.prog 38 2 1 8:=by
 obtain ⟨i,h1,h2,h3,h4⟩:=info_parts (show (Try.prog.info? 2).map (fun i=>(i.zero,i.size,i.bytes))=some (some (.int .i64 0),1,8) from by kernel_rfl)
 exact ⟨Try.underlying38,⟨i,_,h1,h2,h3,h4,rfl⟩,by omega⟩
set_option maxRecDepth 100000 in
set_option maxHeartbeats 8000000 in
theorem r18Evaluate_c (ins:List Int) (G:Nat→Prop) (AI:Option Addr) (ci:Nat) (hn:ins.length≤1000000) (p:Pt):∀(w:World) (F:Nat→Prop) (KA:Option Addr) (kc:Nat),PtK w F p KA kc→Ints w G AI ins→WfP ins.length p→p.size≤1000000000000 →
  Calls Try.prog 15 #[pv p KA kc,.slice AI ins.length ci] w fun e w'=>e=evR (evF ins p)∧Upd Non w w':=by
 induction p using Pt.ind with
 | h p ih =>
  intro w F KA kc hp hin hwf hs;have hse:=Pt.size_eq p;have hle:=Pt.len_le p.kids;rw [WfP.iff] at hwf;obtain ⟨hv0,hvn,har,hkw⟩:=hwf;have HI:=h_ ih;have HKW:=h_ hkw;have HT:=h_ (evF_eq ins p);have HPS:=h_ hs;obtain ⟨W,HW⟩:=nm (w.alloc (.cells #[.int .i64 p.v,.int .i64 p.op,.int .i64 p.imm,.int .i64 p.iv,.slice KA p.kids.length kc] 24));have hU:Upd Non w W:=by rw [←HW.out];exact Upd.refl.alloc _
  have hb:Blk W w.heap.size 24 #[.int .i64 p.v,.int .i64 p.op,.int .i64 p.imm,.int .i64 p.iv,.slice KA p.kids.length kc]:=by rw [←HW.out];exact Blk.new _ _ _
  have hsz:W.heap.size=w.heap.size+1:=by rw [←HW.out];simp
  have e0:=HW.out;have c0:=hb.cell 0;have c1:=hb.cell 1;have c2:=hb.cell 2;have c3:=hb.cell 3;have c4:=hb.cell 4;have hpW:=PtK.upd hU (fun _ _ _ f=>f) p KA kc hp;have hinW:=hin.upd hU (fun _ _ _ f=>f);unfold pv;obtain ⟨R,HR⟩:=nm (evF ins p);rw [HR.out] at HT;rw [HR.out];obtain ⟨v,Hv⟩:=nm p.v;obtain ⟨op,Hop⟩:=nm p.op;obtain ⟨imm,Him⟩:=nm p.imm;obtain ⟨iv,Hiv⟩:=nm p.iv;obtain ⟨m,Hm⟩:=nm p.kids.length;obtain ⟨ni,Hni⟩:=nm ins.length;rw [Hv.out] at c0 e0 hv0 hvn har HT hb;rw [Hop.out] at c1 e0 har HT hb;rw [Him.out] at c2 e0 HT hb;rw [Hiv.out] at c3 e0 HT hb;rw [Hm.out] at c4 e0 hle har hb;rw [Hni.out] at hvn hn HKW;rw [Hv.out,Hop.out,Him.out,Hiv.out,Hm.out,Hni.out];have hm12:m≤1000000000000:=by omega
  have CU:=h_ unary_c;have CB:=h_ binary_c;clear ih hse hp hs hkw hin;by_cases hv:0<v
  ·have hvi:(v - 1).toNat<ins.length:=by rw [Hni.out];omega
   obtain ⟨b,o,rfl,hG,hbw,hcell⟩:=hinW.at_ hvi;have HR2:Hid (R=some ins[(v - 1).toNat]):=by show _=_;rw [HT.out,if_pos hv,getD_of hvi]
   generalize ins[(v - 1).toNat]=x at *;obtain ⟨u,hu⟩:∃u:Nat,v=u+1:=⟨(v - 1).toNat,by omega⟩;have hun:((v - 1).toNat)=u:=by omega
   rw [hun] at hcell;clear hun hvi;subst hu;have hw1:wrap64 ((u:Int)+1 - 1)=u:=by unfold wrap64;omega
   have t0:decide ((u:Int)+1 > 0)=true:=dT_ (by omega);go_enter Try.func15,Try.ntmps15;go_wp2_with fail
   go_ret2;exact ⟨by rw [HR2.out];rfl,hU⟩
  ·obtain rfl:v=0:=by omega
   have har2:=har rfl;have hnp:p.kids.length=m:=Hm.out;have HT2:Hid (R=match allS (p.kids.map (evF ins)) with | none=>none | some k=>evOp op imm iv k):=by have:=HT.out;rw [if_neg (by omega)] at this;exact this
   have HAR:=h_ har2;clear HT har har2 hnp;go_enter Try.func15,Try.ntmps15;go_wp2_with fail
   go_loopg [6,7,8,9] m (fun g v i _ _ wr=>∃(k:Nat) (A:Option Addr) (c:Nat) (xs:List Int),Hid (g=m - k)∧k≤m∧i=.int .i64 k∧v=.slice A k c∧Hid (xs.length=k)∧Own wr 2 1 A k c (icells xs)∧Hid (∀j,At A j→w.heap.size<j)∧Hid (allS ((p.kids.take k).map (evF ins))=some xs)∧Upd Non W wr)
   case atStart=>exact ⟨0,none,0,[],rfl,by omega,rfl,rfl,rfl,Own.none_,fun j hj=>(At.none_ hj).elim,by show _=_;simp [allS],Upd.refl⟩
   case round =>
    obtain ⟨k,A,c,xs,Hg,hk,rfl,rfl,HL,ho,HA,HS,hu⟩:=hrel;have c4:=u_ c4 hu (fun f=>f);by_cases hlt:k<m
    ·have hkl:k<p.kids.length:=by rw [Hm.out];exact hlt
     obtain ⟨b,o,rfl,hF,hbw,KB,kd,h0,h1,h2,h3,h4,h5⟩:=(PtK.upd hu (fun _ _ _ f=>f) p KA kc hpW).at_ hkl
     have HTK:Hid ((p.kids.take (k+1)).map (evF ins)=(p.kids.take k).map (evF ins)++[evF ins p.kids[k]]):=by
      show _=_;rw [List.take_add_one,List.getElem?_eq_getElem hkl,List.map_append];rfl
     have hmem:=List.getElem_mem hkl;generalize p.kids[k]=q at *;have hqs:q.size≤1000000000000:=by have:=Pt.kids_lt hmem;have:=HPS.out;omega
     have C1:=h_ (HI.out q hmem wr F KB kd h5 (hinW.upd hu (fun _ _ _ f=>f)) (by rw [Hni.out];exact HKW.out q hmem) hqs);unfold pv at C1;rw [Hni.out] at C1;clear h5;go_wp2_with fail
     refine C1.out.mono ?_;rintro e w4 ⟨rfl,hu4⟩;have HU4:Upd Non W w4:=hu.then_non hu4;unfold evR
     cases hq:evF ins q with
     | none =>
      have HR2:Hid (R=none):=by
       have:=HT2.out;rw [allS_none (List.mem_map.2 ⟨q,hmem,hq⟩)] at this;exact this
      clear hq;go_wp2_with fail
      go_ret2;exact ⟨by rw [HR2.out];rfl,hU.then_non HU4⟩
     | some x =>
      have HS5:Hid (allS ((p.kids.take (k+1)).map (evF ins))=some (xs++[x])):=by
       show _=_;rw [HTK.out,allS_snoc,HS.out,hq]
      clear hq;have ho4:=ho.upd hu4 (fun _ _ f=>f);have hsw:=hu.size;have hs4:=hu4.size
      go_wp2_with (at_builtin;refine wpList_app rfl rfl T_i64s rfl (ho4.alloc _) rfl (Sl.new _ _ _) rfl (by simp [Value.oneCell']) (by simp only [maxLen];omega) (by omega) ?_;intro A5 c5 w5 ho5 hu5 hat5)
      have HU5:Upd Non W w5:=(HU4.alloc (.cells #[.int .i64 x] 2)).trans hu5 (fun i hi h=>by have:=HA.out i h;omega)
      have HAt:Hid (∀j,At A5 j→w.heap.size<j):=fun j hj=>by
       rcases hat5 j hj with h | h
       ·exact HA.out j h
       ·rw [h];simp;omega
      have ho6:Own w5 2 1 A5 (k+1) c5 (icells (xs++[x])):=by rw [icells_snoc];exact ho5
      clear ho4 ho5 ho hu4 hu5 hat5;go_wp2_with fail
      go_roundg (m - (k+1))
      case measure=>rw [Hg.out];omega
      case rel=>exact ⟨k+1,A5,c5,xs++[x],rfl,by omega,by go_num,rfl,by show _=_;simp [HL.out],ho6,HAt,HS5,HU5⟩
    ·obtain rfl:m=k:=by omega
     have HT4:Hid (R=evOp op imm iv xs):=by
      have:=HT2.out;have h2:=HS.out;rw [←Hm.out,List.take_length] at h2;rw [h2] at this;exact this
     have hHU:=hU.then_non hu;have c1:=u_ c1 hu (fun f=>f);have c2:=u_ c2 hu (fun f=>f);have c3:=u_ c3 hu (fun f=>f);clear HT2 HS hpW HI HKW hinW hle;by_cases hiv:0<iv
     ·have HR2:Hid (R=none):=by show _=_;rw [HT4.out];unfold evOp;rw [if_pos hiv]
      have t0:decide (iv > 0)=true:=dT_ hiv;go_wp2_with fail
      go_ret2;exact ⟨by rw [HR2.out];rfl,hHU⟩
     ·have t0:decide (iv > 0)=false:=dF_ hiv;by_cases h1:op=1
      ·subst h1;have HR2:Hid (R=some imm):=by show _=_;rw [HT4.out];unfold evOp;rw [if_neg hiv,if_pos rfl]
       go_wp2_with fail
       go_ret2;exact ⟨by rw [HR2.out];rfl,hHU⟩
      ·have t1:(op==1)=false:=by simpa using h1
       have HLN:=h_ (oSorts_len op)
       have HC:Hid (∀i (h:i<xs.length),∃g,A=some ⟨g,0,none⟩∧wr.cell? ⟨g,i,none⟩=some (.int .i64 xs[i])∧∀w',Upd Non wr w'→w'.cell? ⟨g,i,none⟩=some (.int .i64 xs[i])∧w'.cell? ⟨w.heap.size,1,none⟩=some (.int .i64 op)):=by
        intro i h;obtain ⟨g,rfl⟩:=ho.some_ (by have:=HL.out;omega);have hcc:=ho.cell_ (i:=i) (by simpa [icells] using h);rw [show (icells xs)[i]'(by simpa [icells] using h)=.int .i64 xs[i] by simp [icells]] at hcc;exact ⟨g,rfl,hcc,fun w' u=>⟨u_ hcc u (fun f=>f),u_ c1 u (fun f=>f)⟩⟩
       clear ho HA;by_cases h20:op=20
       ·subst h20;have hm1:m=1:=HAR.out.trans (HLN.out.1 (.inl rfl));subst hm1;have HR2:Hid (R=some (unF 20 (xs.getD 0 0))):=by show _=_;rw [HT4.out];unfold evOp;rw [if_neg hiv,if_neg h1,if_pos (.inl rfl)]
        clear HLN
        obtain ⟨x,rfl⟩:∃x,xs=[x]:=by
         have h:=HL.out
         match xs,h with
         | [x],_=>exact ⟨x,rfl⟩
        obtain ⟨g,rfl,hg,hS⟩:=HC.out 0 (by simp);simp only [List.getElem_cons_zero] at hg hS;have HSS:=h_ hS;clear hS HC;go_wp2_with fail
        obtain ⟨wD,HwD⟩:=nm wr.drew;have uD:Upd Non wr wD:=by rw [←HwD.out];exact Upd.refl.drew
        refine wp_region_held_drew (S:=fun w'=>w'.cell? ⟨g,0,none⟩=some (.int .i64 x)∧w'.cell? ⟨w.heap.size,1,none⟩=some (.int .i64 20)) (by kernel_rfl) (by rw [HwD.out];exact HSS.out _ uD) (fun hHeld=>?_)
        rw [HwD.out] at hHeld ⊢;refine wpT 0 ?_;(try simp only [y_,z_]);refine wpT 1 ?_;(try simp only [y_,z_]);refine wpT 2 ?_;(try simp only [y_,z_]);refine wpT 3 ?_;(try simp only [y_,z_]);refine wpT 4 ?_;(try simp only [y_,z_]);refine wpAnyH_takeC (i:=5) (v:=?v1) rfl (by kernel_rfl) (by kernel_rfl) (by kernel_rfl) (fun _ _ _ h=>h) ⟨by rfl,?f1,?a1,?r1,?c1⟩ (by assumption) ?m1
        case r1=>intro w;go_simp;constructor <;> with_reducible rfl
        case c1=>intro W hSw;refine (CU.out _ _ _).mono ?_;rintro e w' ⟨rfl,rfl⟩;constructor <;> with_reducible rfl
        (try simp only [y_,z_]);refine wpT 6 ?_;(try simp only [y_,z_]);refine wpT 7 ?_;(try simp only [y_,z_]);refine aD_ (by kernel_rfl) ?_ _;go_wp2_with fail
        go_ret2;exact ⟨by rw [HR2.out];rfl,hHU.then_non uD⟩
       ·have t2:(op==20)=false:=by simpa using h20
        by_cases h21:op=21
        ·subst h21;have hm1:m=1:=HAR.out.trans (HLN.out.1 (.inr rfl));subst hm1;have HR2:Hid (R=some (unF 21 (xs.getD 0 0))):=by show _=_;rw [HT4.out];unfold evOp;rw [if_neg hiv,if_neg h1,if_pos (.inr rfl)]
         clear HLN
         obtain ⟨x,rfl⟩:∃x,xs=[x]:=by
          have h:=HL.out
          match xs,h with
          | [x],_=>exact ⟨x,rfl⟩
         obtain ⟨g,rfl,hg,hS⟩:=HC.out 0 (by simp);simp only [List.getElem_cons_zero] at hg hS;have HSS:=h_ hS;clear hS HC;go_wp2_with fail
         obtain ⟨wD,HwD⟩:=nm wr.drew;have uD:Upd Non wr wD:=by rw [←HwD.out];exact Upd.refl.drew
         refine wp_region_held_drew (S:=fun w'=>w'.cell? ⟨g,0,none⟩=some (.int .i64 x)∧w'.cell? ⟨w.heap.size,1,none⟩=some (.int .i64 21)) (by kernel_rfl) (by rw [HwD.out];exact HSS.out _ uD) (fun hHeld=>?_)
         rw [HwD.out] at hHeld ⊢;refine wpT 0 ?_;(try simp only [y_,z_]);refine wpT 1 ?_;(try simp only [y_,z_]);refine wpT 2 ?_;(try simp only [y_,z_]);refine wpT 3 ?_;(try simp only [y_,z_]);refine wpT 4 ?_;(try simp only [y_,z_]);refine wpAnyH_takeC (i:=5) (v:=?v2) rfl (by kernel_rfl) (by kernel_rfl) (by kernel_rfl) (fun _ _ _ h=>h) ⟨by rfl,?f2,?a2,?r2,?c2⟩ (by assumption) ?m2
         case r2=>intro w;go_simp;constructor <;> with_reducible rfl
         case c2=>intro W hSw;refine (CU.out _ _ _).mono ?_;rintro e w' ⟨rfl,rfl⟩;constructor <;> with_reducible rfl
         (try simp only [y_,z_]);refine wpT 6 ?_;(try simp only [y_,z_]);refine wpT 7 ?_;(try simp only [y_,z_]);refine aD_ (by kernel_rfl) ?_ _;go_wp2_with fail
         go_ret2;exact ⟨by rw [HR2.out];rfl,hHU.then_non uD⟩
        ·have t3:(op==21)=false:=by simpa using h21
         by_cases hb2:4≤op∧op≤19
         ·have hm1:m=2:=HAR.out.trans (HLN.out.2.1 hb2);subst hm1
          obtain ⟨x,y,rfl⟩:∃x y,xs=[x,y]:=by
           have h:=HL.out
           match xs,h with
           | [x,y],_=>exact ⟨x,y,rfl⟩
          obtain ⟨g,rfl,hg,hS⟩:=HC.out 0 (by simp);obtain ⟨g',e',hg',hS'⟩:=HC.out 1 (by simp);injection e' with e'
          injection e' with e'
          subst e';simp only [List.getElem_cons_zero,List.getElem_cons_succ] at hg hS hg' hS';have HSS:Hid (∀w',Upd Non wr w'→w'.cell? ⟨g,0,none⟩=some (.int .i64 x)∧w'.cell? ⟨g,1,none⟩=some (.int .i64 y)∧w'.cell? ⟨w.heap.size,1,none⟩=some (.int .i64 op)):=fun w' u=>⟨(hS w' u).1,(hS' w' u).1,(hS w' u).2⟩
          have HR2:Hid (R=some (binF op x y)):=by show _=_;rw [HT4.out];unfold evOp;rw [if_neg hiv,if_neg h1,if_neg (by omega),if_pos hb2];rfl
          have t4:decide (op ≥ 4)=true:=dT_ hb2.1;have t5:decide (op≤19)=true:=dT_ hb2.2;have CB2:=h_ (fun w'=>CB.out op x y w' hb2.1 hb2.2);clear hS hS' HC HLN h20 h21 hb2 CB;go_wp2_with fail
          obtain ⟨wD,HwD⟩:=nm wr.drew;have uD:Upd Non wr wD:=by rw [←HwD.out];exact Upd.refl.drew
          refine wp_region_held_drew (S:=fun w'=>w'.cell? ⟨g,0,none⟩=some (.int .i64 x)∧w'.cell? ⟨g,1,none⟩=some (.int .i64 y)∧w'.cell? ⟨w.heap.size,1,none⟩=some (.int .i64 op)) (by kernel_rfl) (by rw [HwD.out];exact HSS.out _ uD) (fun hHeld=>?_)
          rw [HwD.out] at hHeld ⊢;refine wpT 0 ?_;(try simp only [y_,z_]);refine wpT 1 ?_;(try simp only [y_,z_]);refine wpT 2 ?_;(try simp only [y_,z_]);refine wpT 3 ?_;(try simp only [y_,z_]);refine wpT 4 ?_;(try simp only [y_,z_]);refine wpT 5 ?_;(try simp only [y_,z_]);refine wpT 6 ?_;(try simp only [y_,z_]);refine wpT 7 ?_;(try simp only [y_,z_]);refine wpAnyH_takeC (i:=8) (v:=?v3) rfl (by kernel_rfl) (by kernel_rfl) (by kernel_rfl) (fun _ _ _ h=>h) ⟨by rfl,?f3,?a3,?r3,?c3⟩ (by assumption) ?m3
          case r3=>intro w;go_simp;constructor <;> with_reducible rfl
          case c3=>intro W hSw;refine (CB2.out _).mono ?_;rintro e w' ⟨rfl,rfl⟩;constructor <;> with_reducible rfl
          (try simp only [y_,z_]);refine wpT 9 ?_;(try simp only [y_,z_]);refine wpT 10 ?_;(try simp only [y_,z_]);refine aD_ (by kernel_rfl) ?_ _;go_wp2_with fail
          go_ret2;exact ⟨by rw [HR2.out];rfl,hHU.then_non uD⟩
         ·have HT5:Hid (R=if op=22 then some (if xs.getD 0 0≠0 then xs.getD 1 0 else xs.getD 2 0) else none):=by show _=_;rw [HT4.out];unfold evOp;rw [if_neg hiv,if_neg h1,if_neg (by omega),if_neg hb2]
          have t4:(decide (op ≥ 4)&&decide (op≤19))=false:=by simp;omega
          have t6:op<4∧decide (op ≥ 4)=false∨decide (op ≥ 4)=true∧decide (op≤19)=false:=by
           rcases (show op<4∨4≤op by omega) with h | h
           ·exact .inl ⟨h,dF_ (by omega)⟩
           ·exact .inr ⟨dT_ h,dF_ (by omega)⟩
          by_cases h22:op=22
          ·subst h22;have hm1:m=3:=HAR.out.trans (HLN.out.2.2 rfl);subst hm1
           obtain ⟨x,y,z,rfl⟩:∃x y z,xs=[x,y,z]:=by
            have h:=HL.out
            match xs,h with
            | [x,y,z],_=>exact ⟨x,y,z,rfl⟩
           obtain ⟨g,rfl,hg,_⟩:=HC.out 0 (by simp);obtain ⟨g',e',hg',_⟩:=HC.out 1 (by simp);injection e' with e'
           injection e' with e'
           subst e';obtain ⟨g',e',hg'',_⟩:=HC.out 2 (by simp);injection e' with e'
           injection e' with e'
           subst e';simp only [List.getElem_cons_zero,List.getElem_cons_succ] at hg hg' hg'';have HR2:Hid (R=some (if x≠0 then y else z)):=HT5.out;clear HC HLN h20 h21 hb2 HT5 HT4;by_cases hx:x=0
           ·subst hx;have HR3:Hid (R=some z):=HR2.out;go_wp2_with fail
            go_ret2;exact ⟨by rw [HR3.out];rfl,hHU⟩
           ·have HR3:Hid (R=some y):=by show _=_;rw [HR2.out,if_pos hx]
            have t7:(x != 0)=true:=by simpa using hx
            go_wp2_with fail
            go_ret2;exact ⟨by rw [HR3.out];rfl,hHU⟩
          ·have t5:(op==22)=false:=by simpa using h22
           have HR2:Hid (R=none):=by show _=_;rw [HT5.out,if_neg h22]
           clear HC HLN h20 h21 hb2 HT5 HT4;rcases t6 with ⟨_,t6⟩ | ⟨t6,t7⟩
           ·go_wp2_with fail
            go_ret2;exact ⟨by rw [HR2.out];rfl,hHU⟩
           ·go_wp2_with fail
            go_ret2;exact ⟨by rw [HR2.out];rfl,hHU⟩
set_option maxRecDepth 100000 in
set_option maxHeartbeats 16000000 in
theorem auSound_c (w:World) (F:Nat→Prop) (A:Option Addr) (c:Nat) (xs:List Int) (a b p q:Int) (hx:Ints w F A xs) (hc:xs.length≤c) (hI:∀x∈xs,I64 x) (hn:xs.length≤100000000000000) (ha:I64 a) (hb:I64 b) (hp:I64 p) (hq:I64 q) :
  Calls Try.prog 4 #[.slice A xs.length c,.int .i64 a,.int .i64 b,.int .i64 p,.int .i64 q] w fun e w'=>e=.returned (.bool true)∧Upd Non w w':=by
 have CR:=h_ (aRule_c w F A c xs hx hc hI hn);have hz:=aRuleF_sz (xs.take 16);have hri:=aRuleF_i (xs:=xs.take 16) (fun x h=>hI x (List.mem_of_mem_take h));have hvr:(aRuleF (xs.take 16)).vars≤2:=by have:=aNumF_len (xs.take 16);show ((aNumF (xs.take 16)).2.1.length:Int)≤2;omega
 obtain ⟨R,HR⟩:=nm (aRuleF (xs.take 16));rw [HR.out] at hz CR hri hvr;have HZ:=h_ hz;have HRI:=h_ hri;have HV2:=h_ hvr;obtain ⟨l,Hl⟩:=nm xs.length;rw [Hl.out] at CR ⊢;have hwx:=wordF_i64 a hp;have hwy:=wordF_i64 b hq;have CW1:=h_ (fun w'=>word_c w' a p ha);have CW2:=h_ (fun w'=>word_c w' b q hb);obtain ⟨x,Hx⟩:=nm (wordF a p);obtain ⟨y,Hy⟩:=nm (wordF b q);rw [Hx.out] at hwx CW1;rw [Hy.out] at hwy CW2
 have HIN:Hid (∀z∈[x,y],I64 z):=fun z hz=>by
  simp only [List.mem_cons,List.not_mem_nil,or_false] at hz;rcases hz with rfl | rfl
  ·exact hwx
  ·exact hwy
 clear hx hc hI hn hz hri hvr ha hb hp hq hwx hwy;go_enter Try.func4,Try.ntmps4;go_wp2_with fail
 refine CR.out.mono ?_;rintro e w1 ⟨a,rfl,hk,u1⟩;obtain ⟨W1,HW1⟩:=nm (w1.alloc (.cells (rlCells R a) 28));have uW:Upd Non w1 W1:=by rw [←HW1.out];exact Upd.refl.alloc _
 obtain ⟨rb,hrb⟩:∃b,w1.heap.size=b:=⟨_,rfl⟩;have hb:Blk W1 rb 28 (rlCells R a):=by rw [←HW1.out,←hrb];exact Blk.new _ _ _
 have hk1:=(hk.mono (G:=fun k=>k<w1.heap.size) (fun _ h _=>h)).upd uW (fun _ _ _ f=>f);have HU:=h_ (u1.then_non uW);have HK:=h_ hk1;have HB:=h_ hb;have CP:=h_ (aProve_c R a _ W1 hk1 HZ.out);have e1:=HW1.out;unfold rlCells at e1;unfold rlv rlCells at CP ⊢;obtain ⟨c0,c1,c2,c3,c4,c5,c6,c7,c8,c9,c10,c11,c12,c13⟩:=rl_cells hb;clear hk hk1 u1 uW hb CR
 go_upto_region 2 with fail
 clear e1 hrb;go_wp2_with fail
 refine CP.out.mono ?_;rintro e w2 hP;obtain ⟨u2,hP⟩:=hP;clear CP c0 c1 c2 c3 c4 c5 c6 c7 c8 c9 c10 c11 c12 c13;have HU2:=h_ (HU.out.then_non u2);have HK2:=h_ (HK.out.upd u2 (fun _ _ _ f=>f));have HB2:=h_ (HB.out.upd u2 (fun f=>f));rcases hP with ⟨L,OA,on,oc,hL,rfl,hO,hOf⟩ | ⟨hno,rfl⟩
 rotate_left
 ·clear u2 hno;go_wp2_with fail
  refine (CW1.out _).mono ?_;rintro e w3 ⟨rfl,u3⟩;go_wp2_with fail
  refine (CW2.out _).mono ?_;rintro e w4 ⟨rfl,u4⟩;obtain ⟨W5,HW5⟩:=nm (w4.alloc (.cells #[.int .i64 x,.int .i64 y] 2));have u5:Upd Non w4 W5:=by rw [←HW5.out];exact Upd.refl.alloc _
  have HI5:Hid (Ints W5 (fun _=>True) (some ⟨w4.heap.size,0,none⟩) [x,y]):=by rw [←HW5.out];exact Ints.new [x,y] rfl rfl
  have HU25:=h_ ((u3.then_non u4).then_non u5);have HU5:=h_ (HU2.out.then_non HU25.out);clear u3 u4 u5
  go_upto_region 4 with fail
  rw [HW5.out];obtain ⟨ib,hib⟩:∃b,w4.heap.size=b:=⟨_,rfl⟩;rw [hib] at HI5 ⊢;clear hib;go_wp2_with fail
  refine (auExamples_c _).mono ?_;rintro e w9 ⟨rfl,u9⟩;go_wp2_with fail
  go_ret;exact ⟨rfl,HU5.out.then_non u9⟩
 ·have hL':=autF_some.1 hL;have happ:=hL'.1;have hrok:=rok_of happ HRI.out;have hwl:WfP 2 R.l:=hrok.hl.wf.mono (by have:=HV2.out;omega);have hwr:WfP 2 R.r:=hrok.hr.wf.mono (by have:=HV2.out;omega)
  have hcs:∀c∈R.conds,1≤c.a∧c.a≤([x,y].length:Int)∧(c.kind=4→1≤c.b∧c.b≤([x,y].length:Int)):=fun c hc=>by
   obtain ⟨_,_,h1,h2,h3⟩:=hrok.hc c hc;have:=HV2.out;simp only [List.length_cons,List.length_nil];exact ⟨h1,by omega,fun q=>by have:=h3 q;omega⟩
  have CSAT:Hid (∀w',Upd Non w2 w'→∀ib,Ints w' (fun _=>True) (some ⟨ib,0,none⟩) [x,y]→Calls Try.prog 14 #[rlv R a,.slice (some ⟨ib,0,none⟩) 2 2] w' fun e w''=>e=.returned (.bool (R.conds.all (satC [x,y])))∧Upd Non w' w''):=fun w' u ib hi=>satisfies_c (ci:=2) R a _ w' (HK2.out.upd u (fun _ _ _ f=>f)) (by have:=HZ.out.c;omega) hi (by simp) hcs
  have CEL:Hid (∀w',Upd Non w2 w'→∀ib,Ints w' (fun _=>True) (some ⟨ib,0,none⟩) [x,y]→Calls Try.prog 15 #[pv R.l a.la a.lc,.slice (some ⟨ib,0,none⟩) 2 2] w' fun e w''=>e=evR (evF [x,y] R.l)∧Upd Non w' w''):=fun w' u ib hi=>r18Evaluate_c [x,y] _ _ 2 (by simp) R.l w' _ _ _ (HK2.out.upd u (fun _ _ _ f=>f)).l hi hwl (by have:=HZ.out.l;omega)
  have CER:Hid (∀w',Upd Non w2 w'→∀ib,Ints w' (fun _=>True) (some ⟨ib,0,none⟩) [x,y]→Calls Try.prog 15 #[pv R.r a.ra a.rc,.slice (some ⟨ib,0,none⟩) 2 2] w' fun e w''=>e=evR (evF [x,y] R.r)∧Upd Non w' w''):=fun w' u ib hi=>r18Evaluate_c [x,y] _ _ 2 (by simp) R.r w' _ _ _ (HK2.out.upd u (fun _ _ _ f=>f)).r hi hwr (by have:=HZ.out.r;omega)
  have HSO:Hid (R.conds.all (satC [x,y])=true→∃v,evF [x,y] R.l=some v∧evF [x,y] R.r=some v):=fun h=>by
   obtain ⟨v,h1,h2,_⟩:=aut_sound2 hL HRI.out HIN.out h;exact ⟨v,h1,h2⟩
  obtain ⟨sb,Hsb⟩:=nm (R.conds.all (satC [x,y]));rw [Hsb.out] at CSAT HSO;clear u2 hL hL' happ hrok hwl hwr hcs hO hOf;unfold rlv rlCells at CSAT;unfold pv at CEL CER;go_wp2_with fail
  refine (CW1.out _).mono ?_;rintro e w3 ⟨rfl,u3⟩;go_wp2_with fail
  refine (CW2.out _).mono ?_;rintro e w4 ⟨rfl,u4⟩;obtain ⟨W5,HW5⟩:=nm (w4.alloc (.cells #[.int .i64 x,.int .i64 y] 2));have u5:Upd Non w4 W5:=by rw [←HW5.out];exact Upd.refl.alloc _
  have HI5:Hid (Ints W5 (fun _=>True) (some ⟨w4.heap.size,0,none⟩) [x,y]):=by rw [←HW5.out];exact Ints.new [x,y] rfl rfl
  have HU25:=h_ ((u3.then_non u4).then_non u5);have HU5:=h_ (HU2.out.then_non HU25.out);clear u3 u4 u5
  go_upto_region 4 with fail
  rw [HW5.out];obtain ⟨ib,hib⟩:∃b,w4.heap.size=b:=⟨_,rfl⟩;rw [hib] at HI5 ⊢;clear hib;obtain ⟨c0,c1,c2,c3,c4,c5,c6,c7,c8,c9,c10,c11,c12,c13⟩:=rl_cells (HB2.out.upd HU25.out (fun f=>f));go_wp2_with fail
  refine (CSAT.out _ HU25.out ib HI5.out).mono ?_;rintro e w6 ⟨rfl,u6⟩;have HI6:=h_ (HI5.out.upd u6 (fun _ _ _ f=>f));have HU26:=h_ (HU25.out.then_non u6);have HU6:=h_ (HU5.out.then_non u6);clear c0 c1 c2 c3 c4 c5 c6 c7 c8 c9 c10 c11 c12 c13 u6
  cases sb with
  | false =>
   go_wp2_with fail
   refine (auExamples_c _).mono ?_;rintro e w9 ⟨rfl,u9⟩;go_wp2_with fail
   go_ret;exact ⟨rfl,HU6.out.then_non u9⟩
  | true =>
   obtain ⟨v,hvl,hvr⟩:=HSO.out rfl;rw [hvl] at CEL;rw [hvr] at CER;unfold evR at CEL CER;clear hvl hvr;obtain ⟨c0,c1,c2,c3,c4,c5,c6,c7,c8,c9,c10,c11,c12,c13⟩:=rl_cells (HB2.out.upd HU26.out (fun f=>f));go_wp2_with fail
   refine (CEL.out _ HU26.out ib HI6.out).mono ?_;rintro e w7 ⟨rfl,u7⟩;have HI7:=h_ (HI6.out.upd u7 (fun _ _ _ f=>f));have HU27:=h_ (HU26.out.then_non u7);have HU7:=h_ (HU6.out.then_non u7);clear c0 c1 c2 c3 c4 c5 c6 c7 c8 c9 c10 c11 c12 c13 u7;obtain ⟨c0,c1,c2,c3,c4,c5,c6,c7,c8,c9,c10,c11,c12,c13⟩:=rl_cells (HB2.out.upd HU27.out (fun f=>f));go_wp2_with fail
   refine (CER.out _ HU27.out ib HI7.out).mono ?_;rintro e w8 ⟨rfl,u8⟩;have HU8:=h_ (HU7.out.then_non u8);clear c0 c1 c2 c3 c4 c5 c6 c7 c8 c9 c10 c11 c12 c13 u8;go_wp2_with fail
   refine (auExamples_c _).mono ?_;rintro e w9 ⟨rfl,u9⟩;go_wp2_with fail
   go_ret;exact ⟨rfl,HU8.out.then_non u9⟩
end Go.Proofs.Ytdbjgihnngigeaa
