/-
  Lemmas and walks that the claim rests on, part 8 (packed by a program).
-/
import Derived.Test.YtblkgjdhaibhgaaGreatR7
import Derived.Test.YtblkgjdhaibhgaaGreatR6
import Derived.Deep.CutBlock
namespace Go.Proofs.YtblkgjdhaibhgaaGreat
open Go.RowKit
theorem cond_one {w:World} {g:Nat} {x0 x1 x2 x3 x4 x5 x6 x7 x8 x9 x10 x11 x12 x13:Value} (b:Blk w g 43 #[x0,x1,x2,x3,x4,x5,x6,x7,x8,x9,x10,x11,x12,x13]) (c:Cd) :
  Blk ((w.alloc (.cells #[.int .i64 c.kind,.int .i64 c.a,.int .i64 c.b,.int .i64 c.n] 69)).setCell ⟨g,11,none⟩ (.slice (some ⟨w.heap.size,0,none⟩) 1 1)) g 43 #[x0,x1,x2,x3,x4,x5,x6,x7,x8,x9,x10,.slice (some ⟨w.heap.size,0,none⟩) 1 1,x12,x13] ∧
  CondsV ((w.alloc (.cells #[.int .i64 c.kind,.int .i64 c.a,.int .i64 c.b,.int .i64 c.n] 69)).setCell ⟨g,11,none⟩ (.slice (some ⟨w.heap.size,0,none⟩) 1 1)) (fun k=>w.heap.size≤k) (some ⟨w.heap.size,0,none⟩) [c] ∧
  Upd (·=g) w ((w.alloc (.cells #[.int .i64 c.kind,.int .i64 c.a,.int .i64 c.b,.int .i64 c.n] 69)).setCell ⟨g,11,none⟩ (.slice (some ⟨w.heap.size,0,none⟩) 1 1)):=by
 have hg:g<w.heap.size:=b.lt;have ua:Upd Non w (w.alloc (.cells #[.int .i64 c.kind,.int .i64 c.a,.int .i64 c.b,.int .i64 c.n] 69)):=Upd.refl.alloc _;have ba:=Blk.new w 69 #[.int .i64 c.kind,.int .i64 c.a,.int .i64 c.b,.int .i64 c.n];obtain ⟨W,HW⟩:=nm (w.alloc (.cells #[.int .i64 c.kind,.int .i64 c.a,.int .i64 c.b,.int .i64 c.n] 69));rw [HW.out] at ua ba ⊢
 have us:Upd (·=g) W (W.setCell ⟨g,11,none⟩ (.slice (some ⟨w.heap.size,0,none⟩) 1 1)):=updCell _ _ _ _;have bs:=ba.upd us (by omega)
 refine ⟨by simpa using (b.upd ua (fun f=>f)).set_ 11 (.slice (some ⟨w.heap.size,0,none⟩) 1 1),.inr ⟨w.heap.size,0,rfl,Nat.le_refl _,fun i hi=>?_⟩,(ua.mono (fun _ _ f=>f.elim)).trans us (fun _ _ h=>h)⟩
 obtain rfl:i=0:=by simpa using hi
 exact ⟨bs.cell 0,bs.cell 1,bs.cell 2,bs.cell 3⟩
def sideF (op:Int) (p:Pt):Pt:=if 0<p.v then .mk 0 op 0 0 [p] else p
def kCondsF (n:Int) (nv:Nat):List Cd :=
 if n % 9=0 then [⟨1,1,0,0⟩] else if n % 9=1 then [⟨2,1,0,wordF (n.tdiv 9) 3⟩] else if n % 9=2 then [⟨3,nv,0,wordF (n.tdiv 9) 3⟩] else if n % 9=3∧1<nv then [⟨4,1,2,0⟩] else []
def kRuleF (name:ByteArray) (xs:List Int):Rl :=
 let P:=patF (3:Nat) false 3 1 xs.tail
 let R:=numF P.1 [] []
 if R.2.1.length=0 then ⟨name,sideF 21 R.1,.mk 0 1 (wordF (xs.headD 0) 5) 0 [],[],0,0⟩
 else ⟨name,sideF 21 R.1,(patF R.2.1.length false 2 1 P.2).1,kCondsF (xs.headD 0) R.2.1.length,R.2.1.length,0⟩
set_option maxRecDepth 100000 in
set_option maxHeartbeats 1600000 in
theorem kRule_c (w:World) (F:Nat→Prop) (A:Option Addr) (c:Nat) (xs:List Int) (name:ByteArray) (hx:Ints w F A xs) (hc:xs.length≤c) (hI:∀x∈xs,I64 x) (hn:xs.length≤100000000000000) :
  Calls Tryz.prog 15 #[.slice A xs.length c,.string name] w fun e w'=>∃a:RlA,e=.returned (rlv (kRuleF name (xs.take 40)) a)∧RlK w' (fun k=>w.heap.size≤k) (kRuleF name (xs.take 40)) a∧Upd Non w w':=by
 have hx0:=hx.mono (G:=(·<w.heap.size)) (fun k hk _=>hk)
 obtain ⟨W,HW⟩:=nm (w.alloc (.cells #[.string ⟨#[]⟩,.int .i64 0,.int .i64 0,.int .i64 0,.int .i64 0,.slice none 0 0,.int .i64 0,.int .i64 0,.int .i64 0,.int .i64 0,.slice none 0 0,.slice none 0 0,.int .i64 0,.int .i64 0] 43))
 have hU:Upd Non w W:=by rw [←HW.out];exact Upd.refl.alloc _
 have hb:Blk W w.heap.size 43 #[.string ⟨#[]⟩,.int .i64 0,.int .i64 0,.int .i64 0,.int .i64 0,.slice none 0 0,.int .i64 0,.int .i64 0,.int .i64 0,.int .i64 0,.slice none 0 0,.slice none 0 0,.int .i64 0,.int .i64 0]:=by rw [←HW.out];exact Blk.new _ _ _
 have hsW:W.heap.size=w.heap.size+1:=by rw [←HW.out];simp
 have e0:=HW.out;have hxW:=hx0.upd hU (fun _ _ _ f=>f);obtain ⟨l,Hl⟩:=nm xs.length;rw [Hl.out] at hc;rw [Hl.out];go_enter Tryz.func15,Tryz.ntmps15
 go_upto_region 1 with fail
 go_cut [5] (fun s wx=>∃p,s=.pointer (some ⟨p,0,none⟩)∧w.heap.size<p∧Rd wx (fun k=>w.heap.size<k∧k≠p) p (xs.take 40)∧Upd Non W wx)
 case first =>
  obtain ⟨W2,HW2⟩:=nm (W.alloc (.cells #[] 3))
  have hU2:Upd Non W W2:=by rw [←HW2.out];exact Upd.refl.alloc _
  have ho2:Own W2 3 1 (some ⟨w.heap.size+1,0,none⟩) 0 0 (icells []):=by rw [←HW2.out];exact own_empty' 3 1 hsW.symm
  have e2:=HW2.out;have hx2:=hxW.upd hU2 (fun _ _ _ f=>f);obtain ⟨m,hm⟩:∃m:Nat,(xs.take 40).length=m:=⟨_,rfl⟩;have hmx:Ints W2 (·<w.heap.size) A (xs.take 40):=hx2.take_ 40
  have hml:m≤40:=by rw [←hm];simp;omega
  have H:∀(A3:Option Addr) (c3:Nat) (w3:World),Own w3 3 1 A3 (0+m) c3 (icells []++icells (xs.take 40))→Upd (At (some ⟨w.heap.size+1,0,none⟩)) W2 w3→(∀k,At A3 k→At (some ⟨w.heap.size+1,0,none⟩) k∨k=W2.heap.size) →
    ∃p,Value.pointer (some ⟨w3.heap.size,0,none⟩)=.pointer (some ⟨p,0,none⟩)∧w.heap.size<p∧Rd (w3.alloc (.cells #[.slice A3 m c3,.int .i64 0] 73)) (fun k=>w.heap.size<k∧k≠p) p (xs.take 40)∧Upd Non W (w3.alloc (.cells #[.slice A3 m c3,.int .i64 0] 73)):=by
   intro A3 c3 w3 ho3 hu3 hat3;have hs3:=hu3.size
   have hsW2:W2.heap.size=w.heap.size+1+1:=by rw [←HW2.out];simp [hsW]
   obtain ⟨W4,HW4⟩:=nm (w3.alloc (.cells #[.slice A3 m c3,.int .i64 0] 73))
   have uA:Upd Non w3 W4:=by rw [←HW4.out];exact Upd.refl.alloc _
   rw [HW4.out];refine ⟨w3.heap.size,rfl,by omega,⟨A3,c3,.int .i64 0,?_,?_,?_,fun x hx=>hI x (List.mem_of_mem_take hx)⟩,?_⟩
   ·
    rw [←HW4.out,hm];exact Blk.new _ _ _
   ·
    have ho4:=ho3.upd uA (fun _ _ f=>f);refine (Own.ints ho4).mono (fun k hk h=>?_);have hlt:=ho3.lt h
    rcases hat3 k h with h | h
    ·
     rw [At.some_] at h;omega
    ·
     omega
   ·
    have:=ho3.le;omega
   ·
    exact (hU2.trans hu3 (fun i hi h=>by rw [At.some_] at h;omega)).then_non uA
  have hlm:xs.length≤40∧m=xs.length∨40<xs.length∧m=40:=by rw [←hm];simp;omega
  rw [Hl.out] at hlm
  rcases hlm with ⟨hl,rfl⟩ | ⟨hl,rfl⟩
  ·
   go_wp2_with (at_builtin;refine wpList_app rfl rfl T_ints' rfl ho2 rfl hmx (by rw [List.length_map,hm,Nat.mul_one]) (icells_one _) (by simp only [maxLen];omega) (by omega) ?_;intro A3 c3 w3 ho3 hu3 hat3)
   go_meet
   case rel=>exact H A3 c3 w3 ho3 hu3 hat3
  ·
   have t20:((l:Int)≤40)=False:=by simp;omega
   obtain ⟨b0,o0,rfl,_⟩:=hmx.at_ (k:=0) (by omega)
   go_wp2_with (at_builtin;refine wpList_app rfl rfl T_ints' rfl ho2 rfl hmx (by rw [List.length_map,hm,Nat.mul_one]) (icells_one _) (by simp only [maxLen];omega) (by omega) ?_;intro A3 c3 w3 ho3 hu3 hat3)
   go_meet
   case rel=>exact H A3 c3 w3 ho3 hu3 hat3
 case rest =>
  obtain ⟨w1,rfl⟩:∃w1:World,w1=wc:=⟨_,rfl⟩;obtain ⟨p,rfl,hpw,hR,hU1⟩:=hcut;have hb1:=hb.upd hU1 (fun f=>f);obtain ⟨ys,Hys⟩:=nm (xs.take 40);rw [Hys.out] at hR;have hR1:=hR.mono (G:=fun k=>w.heap.size<k∧k≠p∧k<w1.heap.size) (fun k hk h=>⟨h.1,h.2,hk⟩);have hpl:=hR.lt;have hni:=hR.i64;have C1:=Lib.hid (rdNext_c (fun k h=>h.2.1) hR1)
  have hUw1:=hU.then_non hU1;clear hx hx0 hxW hI hR hb hU hU1 HW e0 hR1
  go_wp2_with fail
  refine C1.out.mono ?_;rintro e w2 ⟨rfl,hR2,hu2⟩;obtain ⟨n,Hn⟩:=nm (ys.headD 0);rw [Hn.out] at hni ⊢;have C2:=Lib.hid (rdPattern_c 3 (by omega) (by omega) false 3 (by omega) w2 _ p ys.tail 1 (.inl rfl) (fun k h=>h.2.1) hR2);have hb2:=hb1.upd hu2 (by omega);clear C1 hR2 hb1
  go_wp2_with fail
  refine C2.out.mono ?_;rintro e w3 ⟨K1,k1,rfl,hp3,hR3,hu3⟩;have hPs:=patF_size (3:Nat) false 3 1 ys.tail;obtain ⟨P,HP⟩:=nm (patF (3:Nat) false 3 1 ys.tail);rw [HP.out] at hp3 hR3 hPs ⊢;simp only [kSize] at hPs;have C3:=Lib.hid (Numbered_c P.1 w3 _ K1 k1 hp3 (by omega));have hb3:=hb2.upd hu3 (by omega);have hls:=numF_len P.1 [] []
  simp only [List.length_nil,Nat.zero_add] at hls;clear C2 hb2
  go_wp2_with fail
  refine C3.out.mono ?_;rintro e w4 ⟨K2,k2,rfl,hp4,hu4⟩;obtain ⟨R,HR⟩:=nm (numF P.1 [] []);rw [HR.out] at hp4 hls ⊢;obtain ⟨q,Hq⟩:=nm R.1;obtain ⟨nv,Hnv⟩:=nm R.2.1.length;obtain ⟨ni,Hni⟩:=nm R.2.2.length;rw [Hq.out] at hp4 ⊢;rw [Hnv.out] at hls ⊢;rw [Hni.out]
  have hnv:nv≤40:=by omega
  have hb4:=hb3.upd hu4 (fun f=>f);have hR4:=hR3.upd hu4 (fun _ _ _ f=>f) (fun f=>f);have s1:=hUw1.size;have s2:=hu2.size;have s3:=hu3.size;have s4:=hu4.size;have hU4:Upd (·=p) w1 w4:=(hu2.trans hu3 (fun _ _ h=>h)).then_non hu4;clear C3 hls hPs hp3 hR3 hb3;unfold pv
  go_upto_region 4 with fail
  obtain ⟨w5,Hw5⟩:=nm (w4.alloc (.cells #[.int .i64 q.v,.int .i64 q.op,.int .i64 q.imm,.int .i64 q.iv,.slice K2 q.kids.length k2] 40))
  have u5:Upd Non w4 w5:=by rw [←Hw5.out];exact Upd.refl.alloc _
  have b5:Blk w5 w4.heap.size 40 #[.int .i64 q.v,.int .i64 q.op,.int .i64 q.imm,.int .i64 q.iv,.slice K2 q.kids.length k2]:=by rw [←Hw5.out];exact Blk.new _ _ _
  have s5:w5.heap.size=w4.heap.size+1:=by rw [←Hw5.out];simp
  have hp5:PtK w5 (fun k=>w.heap.size<k∧k≠p∧k<w4.heap.size) q K2 k2:=PtK.upd u5 (fun _ _ _ f=>f) _ _ _ (PtK.mono (fun k hk h=>by omega) _ _ _ hp4)
  have hb5:=hb4.upd u5 (fun f=>f);have hR5:=hR4.upd u5 (fun _ _ _ f=>f) (fun f=>f);have hU5:=hU4.then_non u5;rw [Hw5.out];clear hp4 hb4 hR4 hU4 u5 Hw5;have HR5:=Lib.hid hR5;have HU5:=Lib.hid hU5;have HB5:=Lib.hid hb5;have HP5:=Lib.hid hp5;have Hb5:=Lib.hid b5;have c0:=b5.cell 0;have c1:=b5.cell 1;have c2:=b5.cell 2;have c3:=b5.cell 3;have c4:=b5.cell 4
  have f5:=b5.frozen;clear hR5 hU5 hb5 hp5 b5;obtain ⟨v,Hv⟩:=nm q.v;rw [Hv.out] at c0 ⊢
  go_upto_if 31 with fail
  go_cut [] (fun wx=>∃KL kl,Blk wx w4.heap.size 40 #[.int .i64 (sideF 21 q).v,.int .i64 (sideF 21 q).op,.int .i64 (sideF 21 q).imm,.int .i64 (sideF 21 q).iv,.slice KL (sideF 21 q).kids.length kl]∧PtK wx (fun k=>w.heap.size<k∧k≠p∧k≠w4.heap.size) (sideF 21 q) KL kl∧Upd (·=w4.heap.size) w5 wx)
  case first =>
   by_cases hv:0<q.v
   ·
    have e:sideF 21 q=.mk 0 21 0 0 [q]:=if_pos hv
    have hv':0<v:=by rw [←Hv.out];exact hv
    have tv:decide (0<v)=true:=decide_eq_true hv'
    go_wp2_with fail
    go_meet
    case rel =>
     rw [set5_eq,e];have b:=Hb5.out;rw [Hv.out] at b;have us:=set5_upd w5 w4.heap.size (.int .i64 0) (.int .i64 21) (.int .i64 0) (.int .i64 0) (.slice (some ⟨w4.heap.size+1,0,none⟩) 1 1);have bs:=set5_blk b (.int .i64 0) (.int .i64 21) (.int .i64 0) (.int .i64 0) (.slice (some ⟨w4.heap.size+1,0,none⟩) 1 1);have hs:=us.size
     obtain ⟨wA,HwA⟩:=nm (set5 w5 w4.heap.size (.int .i64 0) (.int .i64 21) (.int .i64 0) (.int .i64 0) (.slice (some ⟨w4.heap.size+1,0,none⟩) 1 1))
     have hsA:wA.heap.size=w4.heap.size+1:=by rw [←HwA.out,←s5];simp [set5]
     rw [HwA.out] at us bs ⊢;have ua:Upd Non wA (wA.alloc (.cells #[.int .i64 v,.int .i64 q.op,.int .i64 q.imm,.int .i64 q.iv,.slice K2 q.kids.length k2] 40)):=Upd.refl.alloc _;have ba:=Blk.new wA 40 #[.int .i64 v,.int .i64 q.op,.int .i64 q.imm,.int .i64 q.iv,.slice K2 q.kids.length k2];rw [hsA,←Hv.out] at ba;rw [←Hv.out] at ua ⊢
     refine ⟨some ⟨w4.heap.size+1,0,none⟩,1,bs.upd ua (fun f=>f),?_,us.then_non ua⟩
     exact PtK.one _ _ _ _ ba (PtK.upd ua (fun _ _ _ f=>f) _ _ _ (PtK.upd us (fun k hk h=>by omega) _ _ _ (PtK.mono (fun k _ h=>by omega) _ _ _ HP5.out))) (by omega) (by omega)
   ·
    have e:sideF 21 q=q:=if_neg hv
    have hv':¬0<v:=by rw [←Hv.out];exact hv
    have tv:decide (0<v)=false:=decide_eq_false hv'
    go_wp2_with fail
    go_meet
    case rel=>rw [e];exact ⟨K2,k2,Hb5.out,PtK.mono (fun k _ h=>by omega) _ _ _ HP5.out,Upd.refl⟩
  case rest =>
   obtain ⟨w6,rfl⟩:∃w6:World,w6=wc:=⟨_,rfl⟩;obtain ⟨KL,kl,b6,hp6,u6⟩:=hcut;obtain ⟨L,HL⟩:=nm (sideF 21 q);rw [HL.out] at b6 hp6;have s6:=u6.size;have hb6:=HB5.out.upd u6 (by omega);have hR6:=HR5.out.upd u6 (fun k hk h=>by omega) (by omega);have hU6:Upd (fun k=>k=p∨k=w4.heap.size) w1 w6:=(HU5.out.mono (fun _ _ h=>.inl h)).trans u6 (fun _ _ h=>.inr h)
   clear HB5 HR5 HU5 HP5 Hb5 c0 c1 c2 c3 c4 f5;have c0:=b6.cell 0;have c1:=b6.cell 1;have c2:=b6.cell 2;have c3:=b6.cell 3;have c4:=b6.cell 4;have f6:=b6.frozen
   go_upto_region 7 with fail
   have HB6:=Lib.hid b6;clear c0 c1 c2 c3 c4 f6 b6
   obtain ⟨w7,Hw7⟩:=nm (w6.alloc (.cells #[.string name,.int .i64 L.v,.int .i64 L.op,.int .i64 L.imm,.int .i64 L.iv,.slice KL L.kids.length kl,.int .i64 0,.int .i64 0,.int .i64 0,.int .i64 0,.slice none 0 0,.slice none 0 0,.int .i64 nv,.int .i64 0] 43))
   have u7:Upd Non w6 w7:=by rw [←Hw7.out];exact Upd.refl.alloc _
   have b7:Blk w7 w6.heap.size 43 #[.string name,.int .i64 L.v,.int .i64 L.op,.int .i64 L.imm,.int .i64 L.iv,.slice KL L.kids.length kl,.int .i64 0,.int .i64 0,.int .i64 0,.int .i64 0,.slice none 0 0,.slice none 0 0,.int .i64 nv,.int .i64 0]:=by rw [←Hw7.out];exact Blk.new _ _ _
   have s7:w7.heap.size=w6.heap.size+1:=by rw [←Hw7.out];simp
   rw [Hw7.out];have hb7:=hb6.upd u7 (fun f=>f);have hR7:=hR6.upd u7 (fun _ _ _ f=>f) (fun f=>f);have hU7:=hU6.then_non u7
   have hp7:=PtK.upd u7 (fun _ _ _ f=>f) _ _ _ (PtK.mono (G:=fun k=>w.heap.size<k∧k≠p∧k≠w4.heap.size∧k<w6.heap.size) (fun k hk h=>by omega) _ _ _ hp6)
   clear hb6 hR6 hU6 hp6 u7 Hw7 HB6
   have HRe:Hid (nv=0→kRuleF name ys=⟨name,L,.mk 0 1 (wordF n 5) 0 [],[],0,0⟩):=fun h=>by
    unfold kRuleF;simp only [HP.out,HR.out,Hnv.out,Hq.out,HL.out,Hn.out,h,if_true]
   have HRn:Hid (nv≠0→kRuleF name ys=⟨name,L,(patF nv false 2 1 P.2).1,kCondsF n nv,nv,0⟩):=fun h=>by
    unfold kRuleF;simp only [HP.out,HR.out,Hnv.out,Hq.out,HL.out,Hn.out,if_neg h]
   by_cases h0:nv=0
   ·
    subst h0;have CW:=Lib.hid (word_c w7 n 5 hni);have HRr:=Lib.hid (HRe.out rfl);clear HRe HRn
    go_wp2_with fail
    refine CW.out.mono ?_;rintro e w8 ⟨rfl,hu8⟩;obtain ⟨wd,Hwd⟩:=nm (wordF n 5);rw [Hwd.out] at HRr ⊢;have hb8:=hb7.upd hu8 (fun f=>f);have b8:=b7.upd hu8 (fun f=>f);clear b7 hb7 CW;have r6:=b8.cell 6;have r7:=b8.cell 7;have r8:=b8.cell 8;have r9:=b8.cell 9;have r10:=b8.cell 10;have rf:=b8.frozen
    go_upto_region 9 with fail
    rw [setRt_eq];have u9:=setRt_upd w8 w6.heap.size (.int .i64 0) (.int .i64 1) (.int .i64 wd) (.int .i64 0) (.slice none 0 0);have bz:=setRt_blk b8 (.int .i64 0) (.int .i64 1) (.int .i64 wd) (.int .i64 0) (.slice none 0 0);have hz:=hb8.upd u9 (by omega);obtain ⟨wz,Hwz⟩:=nm (setRt w8 w6.heap.size (.int .i64 0) (.int .i64 1) (.int .i64 wd) (.int .i64 0) (.slice none 0 0))
    rw [Hwz.out] at u9 bz hz ⊢;clear r6 r7 r8 r9 r10 rf b8 hb8;have hpz:=PtK.upd u9 (fun k hk h=>by omega) _ _ _ (PtK.upd hu8 (fun _ _ _ f=>f) _ _ _ hp7)
    have hUz:Upd (fun k=>k=p∨k=w4.heap.size∨k=w6.heap.size) w1 wz:=((hU7.mono (fun _ _ h=>by omega)).then_non hu8).trans u9 (fun _ _ h=>by omega)
    have r0:=bz.cell 0;have r1:=bz.cell 1;have r2:=bz.cell 2;have r3:=bz.cell 3;have r4:=bz.cell 4;have r5:=bz.cell 5;have r6:=bz.cell 6;have r7:=bz.cell 7;have r8:=bz.cell 8;have r9:=bz.cell 9;have r10:=bz.cell 10;have r11:=bz.cell 11;have r12:=bz.cell 12;have r13:=bz.cell 13;have z0:=hz.cell 0;have z1:=hz.cell 1;have z2:=hz.cell 2;have z3:=hz.cell 3
    have z4:=hz.cell 4;have z5:=hz.cell 5;have z6:=hz.cell 6;have z7:=hz.cell 7;have z8:=hz.cell 8;have z9:=hz.cell 9;have z10:=hz.cell 10;have z11:=hz.cell 11;have z12:=hz.cell 12;have z13:=hz.cell 13;have rf:=bz.frozen;have zf:=hz.frozen;have HZ:=Lib.hid hz;clear hz bz
    go_wp2_with fail
    rw [set14_eq]
    refine bodyPost_ret (results_cell_row rfl _ _ w.heap.size 43 _ (0,0) _ rfl (set14_blk HZ.out _ _ _ _ _ _ _ _ _ _ _ _ _ _) Tryz.underlying43 rfl (by kernel_rfl)) rfl ?_
    rw [Hys.out,HRr.out]
    refine ⟨⟨KL,kl,none,0,none,0⟩,rfl,⟨PtK.mono (fun k hk h=>by omega) _ _ _ (PtK.upd (set14_upd _ _ _ _ _ _ _ _ _ _ _ _ _ _ _ _) (fun k hk h=>by omega) _ _ _ hpz),PtK.leaf,CondsV.nil,by simp⟩,?_⟩
    exact ((hUw1.trans hUz (fun k hk h=>by omega)).trans (set14_upd _ _ _ _ _ _ _ _ _ _ _ _ _ _ _ _) (fun k hk h=>by omega))
   ·
    have HRr:=Lib.hid (HRn.out h0);have C4:=Lib.hid (rdPattern_c nv (by omega) (by omega) false 2 (by omega) w7 _ p P.2 1 (.inl rfl) (fun k h=>h.2.1) hR7);clear HRe HRn hR7
    have th:((nv:Int)=0)=False:=by simp;omega
    have th2:decide ((nv:Int)=0)=false:=by simp;omega
    go_wp2_with fail
    refine C4.out.mono ?_;rintro e w8 ⟨KR,kr,rfl,hp8,-,hu8⟩;obtain ⟨Q,HQ⟩:=nm (patF nv false 2 1 P.2).1;rw [HQ.out] at hp8 HRr ⊢;have hb8:=hb7.upd hu8 (by omega);have b8:=b7.upd hu8 (by omega);have s8:=hu8.size;have hpz:=PtK.upd hu8 (fun k hk h=>by omega) _ _ _ hp7;have hU8:Upd (fun k=>k=p∨k=w4.heap.size) w1 w8:=hU7.trans hu8 (fun k hk h=>.inl h)
    clear b7 hb7 C4 hp7 hU7;have r6:=b8.cell 6;have r7:=b8.cell 7;have r8:=b8.cell 8;have r9:=b8.cell 9;have r10:=b8.cell 10;have rf:=b8.frozen;unfold pv
    go_upto_region 11 with fail
    rw [setRt_eq];have u9:=setRt_upd w8 w6.heap.size (.int .i64 Q.v) (.int .i64 Q.op) (.int .i64 Q.imm) (.int .i64 Q.iv) (.slice KR Q.kids.length kr);have b9:=setRt_blk b8 (.int .i64 Q.v) (.int .i64 Q.op) (.int .i64 Q.imm) (.int .i64 Q.iv) (.slice KR Q.kids.length kr);have hb9:=hb8.upd u9 (by omega)
    obtain ⟨w9,Hw9⟩:=nm (setRt w8 w6.heap.size (.int .i64 Q.v) (.int .i64 Q.op) (.int .i64 Q.imm) (.int .i64 Q.iv) (.slice KR Q.kids.length kr));rw [Hw9.out] at u9 b9 hb9 ⊢;have s9:=u9.size;have hpL:=PtK.upd u9 (fun k hk h=>by omega) _ _ _ hpz;have hpR:=PtK.upd u9 (fun k hk h=>by omega) _ _ _ hp8
    have hU9:Upd (fun k=>k=p∨k=w4.heap.size∨k=w6.heap.size) w1 w9:=(hU8.mono (fun _ _ h=>by omega)).trans u9 (fun _ _ h=>by omega);clear r6 r7 r8 r9 r10 rf b8 hb8 hpz hp8 hU8 u9 Hw9;have C5:=Lib.hid (pick_c n 9 w9 (by omega) (by omega))
    go_wp2_with fail
    refine C5.out.mono ?_;rintro e wx ⟨rfl,rfl⟩;obtain ⟨k,Hk⟩:=nm (n % 9);rw [Hk.out]
    have hk9:0≤k∧k<9:=by rw [←Hk.out];omega
    have HpL:=Lib.hid hpL;have HpR:=Lib.hid hpR;have HU9:=Lib.hid hU9;have Hb9:=Lib.hid hb9;have HB9:=Lib.hid b9
    have r11:∀o,(w9.alloc o).cell? ⟨w6.heap.size,11,none⟩=some (.slice none 0 0):=fun o=>(b9.alloc o).cell 11
    have rf:∀o,(w9.alloc o).frozen? ⟨w6.heap.size,11,none⟩=false:=fun o=>(b9.alloc o).frozen 11
    clear hpL hpR hU9 hb9 b9 C5
    by_cases k0:k=0
    ·
     subst k0
     have hc:kCondsF n nv=[⟨1,1,0,0⟩]:=by unfold kCondsF;rw [if_pos Hk.out]
     go_upto_region 21 with fail
     obtain ⟨bz,hcz,uz⟩:=cond_one HB9.out ⟨1,1,0,0⟩;simp only at bz hcz uz;have hz:=Hb9.out.upd uz (by omega)
     obtain ⟨wz,Hwz⟩:=nm ((w9.alloc (.cells #[.int .i64 1,.int .i64 1,.int .i64 0,.int .i64 0] 69)).setCell ⟨w6.heap.size,11,none⟩ (.slice (some ⟨w9.heap.size,0,none⟩) 1 1))
     rw [Hwz.out] at bz hcz uz hz ⊢;obtain ⟨CA,HCA⟩:=nm (some (⟨w9.heap.size,0,none⟩:Addr));rw [HCA.out] at bz hcz;clear r11 rf;have r0:=bz.cell 0;have r1:=bz.cell 1;have r2:=bz.cell 2;have r3:=bz.cell 3;have r4:=bz.cell 4;have r5:=bz.cell 5;have r6:=bz.cell 6;have r7:=bz.cell 7;have r8:=bz.cell 8;have r9:=bz.cell 9;have r10:=bz.cell 10;have r11:=bz.cell 11
     have r12:=bz.cell 12;have r13:=bz.cell 13;have z0:=hz.cell 0;have z1:=hz.cell 1;have z2:=hz.cell 2;have z3:=hz.cell 3;have z4:=hz.cell 4;have z5:=hz.cell 5;have z6:=hz.cell 6;have z7:=hz.cell 7;have z8:=hz.cell 8;have z9:=hz.cell 9;have z10:=hz.cell 10;have z11:=hz.cell 11;have z12:=hz.cell 12;have z13:=hz.cell 13;have rf:=bz.frozen;have zf:=hz.frozen
     have HZ:=Lib.hid hz;clear hz bz
     go_wp2_with fail
     rw [set14_eq]
     refine bodyPost_ret (results_cell_row rfl _ _ w.heap.size 43 _ (0,0) _ rfl (set14_blk HZ.out _ _ _ _ _ _ _ _ _ _ _ _ _ _) Tryz.underlying43 rfl (by kernel_rfl)) rfl ?_
     rw [Hys.out,HRr.out,hc]
     have uE:=set14_upd wz w.heap.size (.string name) (.int .i64 L.v) (.int .i64 L.op) (.int .i64 L.imm) (.int .i64 L.iv) (.slice KL L.kids.length kl) (.int .i64 Q.v) (.int .i64 Q.op) (.int .i64 Q.imm) (.int .i64 Q.iv) (.slice KR Q.kids.length kr) (.slice CA 1 1) (.int .i64 nv) (.int .i64 0)
     refine ⟨⟨KL,kl,KR,kr,CA,1⟩,rfl,⟨PtK.mono (fun k hk h=>by omega) _ _ _ (PtK.upd uE (fun k hk h=>by omega) _ _ _ (PtK.upd uz (fun k hk h=>by omega) _ _ _ HpL.out)),PtK.mono (fun k hk h=>by omega) _ _ _ (PtK.upd uE (fun k hk h=>by omega) _ _ _ (PtK.upd uz (fun k hk h=>by omega) _ _ _ HpR.out)),(hcz.upd uE (fun k hk h=>by omega)).mono (fun k hk h=>by omega),by simp⟩,?_⟩
     exact (hUw1.trans (HU9.out.trans uz (fun _ _ h=>by omega)) (fun k hk h=>by omega)).trans uE (fun k hk h=>by omega)
    ·
     by_cases k1:k=1
     ·
      subst k1;obtain ⟨d,Hd⟩:=nm (n.tdiv 9)
      have hdi:I64 d:=by rw [←Hd.out];exact tdiv_i64 hni (by omega)
      have hwr:wrap64 (n.tdiv 9)=d:=by rw [Hd.out];exact wrap64_of hdi
      have CW:=Lib.hid (word_c w9 d 3 hdi);obtain ⟨wd,Hwd⟩:=nm (wordF d 3);rw [Hwd.out] at CW
      go_wp2_with fail
      refine CW.out.mono ?_;rintro e wy ⟨rfl,huy⟩;have HpL:=Lib.hid (PtK.upd huy (fun _ _ _ f=>f) _ _ _ HpL.out);have HpR:=Lib.hid (PtK.upd huy (fun _ _ _ f=>f) _ _ _ HpR.out);have HU9:=Lib.hid (HU9.out.then_non huy);have Hb9:=Lib.hid (Hb9.out.upd huy (fun f=>f));have HB9:=Lib.hid (HB9.out.upd huy (fun f=>f))
      have s9:w8.heap.size≤wy.heap.size:=by have:=huy.size;omega
      have r11:∀o,(wy.alloc o).cell? ⟨w6.heap.size,11,none⟩=some (.slice none 0 0):=fun o=>(HB9.out.alloc o).cell 11
      have rf:∀o,(wy.alloc o).frozen? ⟨w6.heap.size,11,none⟩=false:=fun o=>(HB9.out.alloc o).frozen 11
      have hc:kCondsF n nv=[⟨2,1,0,wd⟩]:=by unfold kCondsF;rw [if_neg (by rw [Hk.out];omega),if_pos Hk.out,Hd.out,Hwd.out]
      go_upto_region 21 with fail
      obtain ⟨bz,hcz,uz⟩:=cond_one HB9.out ⟨2,1,0,wd⟩;simp only at bz hcz uz;have hz:=Hb9.out.upd uz (by omega)
      obtain ⟨wz,Hwz⟩:=nm ((wy.alloc (.cells #[.int .i64 2,.int .i64 1,.int .i64 0,.int .i64 wd] 69)).setCell ⟨w6.heap.size,11,none⟩ (.slice (some ⟨wy.heap.size,0,none⟩) 1 1))
      rw [Hwz.out] at bz hcz uz hz ⊢;obtain ⟨CA,HCA⟩:=nm (some (⟨wy.heap.size,0,none⟩:Addr));rw [HCA.out] at bz hcz;clear r11 rf;have r0:=bz.cell 0;have r1:=bz.cell 1;have r2:=bz.cell 2;have r3:=bz.cell 3;have r4:=bz.cell 4;have r5:=bz.cell 5;have r6:=bz.cell 6;have r7:=bz.cell 7;have r8:=bz.cell 8;have r9:=bz.cell 9;have r10:=bz.cell 10;have r11:=bz.cell 11
      have r12:=bz.cell 12;have r13:=bz.cell 13;have z0:=hz.cell 0;have z1:=hz.cell 1;have z2:=hz.cell 2;have z3:=hz.cell 3;have z4:=hz.cell 4;have z5:=hz.cell 5;have z6:=hz.cell 6;have z7:=hz.cell 7;have z8:=hz.cell 8;have z9:=hz.cell 9;have z10:=hz.cell 10;have z11:=hz.cell 11;have z12:=hz.cell 12;have z13:=hz.cell 13;have rf:=bz.frozen
      have zf:=hz.frozen;have HZ:=Lib.hid hz;clear hz bz
      go_wp2_with fail
      rw [set14_eq]
      refine bodyPost_ret (results_cell_row rfl _ _ w.heap.size 43 _ (0,0) _ rfl (set14_blk HZ.out _ _ _ _ _ _ _ _ _ _ _ _ _ _) Tryz.underlying43 rfl (by kernel_rfl)) rfl ?_
      rw [Hys.out,HRr.out,hc]
      have uE:=set14_upd wz w.heap.size (.string name) (.int .i64 L.v) (.int .i64 L.op) (.int .i64 L.imm) (.int .i64 L.iv) (.slice KL L.kids.length kl) (.int .i64 Q.v) (.int .i64 Q.op) (.int .i64 Q.imm) (.int .i64 Q.iv) (.slice KR Q.kids.length kr) (.slice CA 1 1) (.int .i64 nv) (.int .i64 0)
      refine ⟨⟨KL,kl,KR,kr,CA,1⟩,rfl,⟨PtK.mono (fun k hk h=>by omega) _ _ _ (PtK.upd uE (fun k hk h=>by omega) _ _ _ (PtK.upd uz (fun k hk h=>by omega) _ _ _ HpL.out)),PtK.mono (fun k hk h=>by omega) _ _ _ (PtK.upd uE (fun k hk h=>by omega) _ _ _ (PtK.upd uz (fun k hk h=>by omega) _ _ _ HpR.out)),(hcz.upd uE (fun k hk h=>by omega)).mono (fun k hk h=>by omega),by simp⟩,?_⟩
      exact (hUw1.trans (HU9.out.trans uz (fun _ _ h=>by omega)) (fun k hk h=>by omega)).trans uE (fun k hk h=>by omega)
     ·
      by_cases k2:k=2
      ·
       subst k2;obtain ⟨d,Hd⟩:=nm (n.tdiv 9)
       have hdi:I64 d:=by rw [←Hd.out];exact tdiv_i64 hni (by omega)
       have hwr:wrap64 (n.tdiv 9)=d:=by rw [Hd.out];exact wrap64_of hdi
       have CW:=Lib.hid (word_c w9 d 3 hdi);obtain ⟨wd,Hwd⟩:=nm (wordF d 3);rw [Hwd.out] at CW
       go_wp2_with fail
       refine CW.out.mono ?_;rintro e wy ⟨rfl,huy⟩;have HpL:=Lib.hid (PtK.upd huy (fun _ _ _ f=>f) _ _ _ HpL.out);have HpR:=Lib.hid (PtK.upd huy (fun _ _ _ f=>f) _ _ _ HpR.out);have HU9:=Lib.hid (HU9.out.then_non huy);have Hb9:=Lib.hid (Hb9.out.upd huy (fun f=>f));have HB9:=Lib.hid (HB9.out.upd huy (fun f=>f))
       have s9:w8.heap.size≤wy.heap.size:=by have:=huy.size;omega
       have r11:∀o,(wy.alloc o).cell? ⟨w6.heap.size,11,none⟩=some (.slice none 0 0):=fun o=>(HB9.out.alloc o).cell 11
       have rf:∀o,(wy.alloc o).frozen? ⟨w6.heap.size,11,none⟩=false:=fun o=>(HB9.out.alloc o).frozen 11
       have hc:kCondsF n nv=[⟨3,nv,0,wd⟩]:=by unfold kCondsF;rw [if_neg (by rw [Hk.out];omega),if_neg (by rw [Hk.out];omega),if_pos Hk.out,Hd.out,Hwd.out]
       go_upto_region 21 with fail
       obtain ⟨bz,hcz,uz⟩:=cond_one HB9.out ⟨3,nv,0,wd⟩;simp only at bz hcz uz;have hz:=Hb9.out.upd uz (by omega)
       obtain ⟨wz,Hwz⟩:=nm ((wy.alloc (.cells #[.int .i64 3,.int .i64 nv,.int .i64 0,.int .i64 wd] 69)).setCell ⟨w6.heap.size,11,none⟩ (.slice (some ⟨wy.heap.size,0,none⟩) 1 1))
       rw [Hwz.out] at bz hcz uz hz ⊢;obtain ⟨CA,HCA⟩:=nm (some (⟨wy.heap.size,0,none⟩:Addr));rw [HCA.out] at bz hcz;clear r11 rf;have r0:=bz.cell 0;have r1:=bz.cell 1;have r2:=bz.cell 2;have r3:=bz.cell 3;have r4:=bz.cell 4;have r5:=bz.cell 5;have r6:=bz.cell 6;have r7:=bz.cell 7;have r8:=bz.cell 8;have r9:=bz.cell 9;have r10:=bz.cell 10;have r11:=bz.cell 11
       have r12:=bz.cell 12;have r13:=bz.cell 13;have z0:=hz.cell 0;have z1:=hz.cell 1;have z2:=hz.cell 2;have z3:=hz.cell 3;have z4:=hz.cell 4;have z5:=hz.cell 5;have z6:=hz.cell 6;have z7:=hz.cell 7;have z8:=hz.cell 8;have z9:=hz.cell 9;have z10:=hz.cell 10;have z11:=hz.cell 11;have z12:=hz.cell 12;have z13:=hz.cell 13;have rf:=bz.frozen
       have zf:=hz.frozen;have HZ:=Lib.hid hz;clear hz bz
       go_wp2_with fail
       rw [set14_eq]
       refine bodyPost_ret (results_cell_row rfl _ _ w.heap.size 43 _ (0,0) _ rfl (set14_blk HZ.out _ _ _ _ _ _ _ _ _ _ _ _ _ _) Tryz.underlying43 rfl (by kernel_rfl)) rfl ?_
       rw [Hys.out,HRr.out,hc]
       have uE:=set14_upd wz w.heap.size (.string name) (.int .i64 L.v) (.int .i64 L.op) (.int .i64 L.imm) (.int .i64 L.iv) (.slice KL L.kids.length kl) (.int .i64 Q.v) (.int .i64 Q.op) (.int .i64 Q.imm) (.int .i64 Q.iv) (.slice KR Q.kids.length kr) (.slice CA 1 1) (.int .i64 nv) (.int .i64 0)
       refine ⟨⟨KL,kl,KR,kr,CA,1⟩,rfl,⟨PtK.mono (fun k hk h=>by omega) _ _ _ (PtK.upd uE (fun k hk h=>by omega) _ _ _ (PtK.upd uz (fun k hk h=>by omega) _ _ _ HpL.out)),PtK.mono (fun k hk h=>by omega) _ _ _ (PtK.upd uE (fun k hk h=>by omega) _ _ _ (PtK.upd uz (fun k hk h=>by omega) _ _ _ HpR.out)),(hcz.upd uE (fun k hk h=>by omega)).mono (fun k hk h=>by omega),by simp⟩,?_⟩
       exact (hUw1.trans (HU9.out.trans uz (fun _ _ h=>by omega)) (fun k hk h=>by omega)).trans uE (fun k hk h=>by omega)
      ·
       by_cases k3:k=3
       ·
        subst k3
        by_cases n1:1<nv
        ·
         have tn:decide ((1:Int)<(nv:Int))=true:=by simp;omega
         have hc:kCondsF n nv=[⟨4,1,2,0⟩]:=by unfold kCondsF;rw [if_neg (by rw [Hk.out];omega),if_neg (by rw [Hk.out];omega),if_neg (by rw [Hk.out];omega),if_pos ⟨Hk.out,n1⟩]
         go_upto_region 21 with fail
         obtain ⟨bz,hcz,uz⟩:=cond_one HB9.out ⟨4,1,2,0⟩;simp only at bz hcz uz;have hz:=Hb9.out.upd uz (by omega)
         obtain ⟨wz,Hwz⟩:=nm ((w9.alloc (.cells #[.int .i64 4,.int .i64 1,.int .i64 2,.int .i64 0] 69)).setCell ⟨w6.heap.size,11,none⟩ (.slice (some ⟨w9.heap.size,0,none⟩) 1 1))
         rw [Hwz.out] at bz hcz uz hz ⊢;obtain ⟨CA,HCA⟩:=nm (some (⟨w9.heap.size,0,none⟩:Addr));rw [HCA.out] at bz hcz;clear r11 rf;have r0:=bz.cell 0;have r1:=bz.cell 1;have r2:=bz.cell 2;have r3:=bz.cell 3;have r4:=bz.cell 4;have r5:=bz.cell 5;have r6:=bz.cell 6;have r7:=bz.cell 7;have r8:=bz.cell 8;have r9:=bz.cell 9;have r10:=bz.cell 10
         have r11:=bz.cell 11;have r12:=bz.cell 12;have r13:=bz.cell 13;have z0:=hz.cell 0;have z1:=hz.cell 1;have z2:=hz.cell 2;have z3:=hz.cell 3;have z4:=hz.cell 4;have z5:=hz.cell 5;have z6:=hz.cell 6;have z7:=hz.cell 7;have z8:=hz.cell 8;have z9:=hz.cell 9;have z10:=hz.cell 10;have z11:=hz.cell 11;have z12:=hz.cell 12;have z13:=hz.cell 13
         have rf:=bz.frozen;have zf:=hz.frozen;have HZ:=Lib.hid hz;clear hz bz
         go_wp2_with fail
         rw [set14_eq]
         refine bodyPost_ret (results_cell_row rfl _ _ w.heap.size 43 _ (0,0) _ rfl (set14_blk HZ.out _ _ _ _ _ _ _ _ _ _ _ _ _ _) Tryz.underlying43 rfl (by kernel_rfl)) rfl ?_
         rw [Hys.out,HRr.out,hc]
         have uE:=set14_upd wz w.heap.size (.string name) (.int .i64 L.v) (.int .i64 L.op) (.int .i64 L.imm) (.int .i64 L.iv) (.slice KL L.kids.length kl) (.int .i64 Q.v) (.int .i64 Q.op) (.int .i64 Q.imm) (.int .i64 Q.iv) (.slice KR Q.kids.length kr) (.slice CA 1 1) (.int .i64 nv) (.int .i64 0)
         refine ⟨⟨KL,kl,KR,kr,CA,1⟩,rfl,⟨PtK.mono (fun k hk h=>by omega) _ _ _ (PtK.upd uE (fun k hk h=>by omega) _ _ _ (PtK.upd uz (fun k hk h=>by omega) _ _ _ HpL.out)),PtK.mono (fun k hk h=>by omega) _ _ _ (PtK.upd uE (fun k hk h=>by omega) _ _ _ (PtK.upd uz (fun k hk h=>by omega) _ _ _ HpR.out)),(hcz.upd uE (fun k hk h=>by omega)).mono (fun k hk h=>by omega),by simp⟩,?_⟩
         exact (hUw1.trans (HU9.out.trans uz (fun _ _ h=>by omega)) (fun k hk h=>by omega)).trans uE (fun k hk h=>by omega)
        ·
         have tn:decide ((1:Int)<(nv:Int))=false:=by simp;omega
         have hc:kCondsF n nv=[]:=by unfold kCondsF;rw [if_neg (by rw [Hk.out];omega),if_neg (by rw [Hk.out];omega),if_neg (by rw [Hk.out];omega),if_neg (fun h=>n1 h.2)]
         have uz:Upd (·=w6.heap.size) w9 w9:=Upd.refl;have bz:=HB9.out;have hz:=Hb9.out;have hcz:CondsV w9 (fun k=>w9.heap.size≤k) none []:=CondsV.nil;obtain ⟨wz,Hwz⟩:∃wz:World,Hid (w9=wz):=⟨_,rfl⟩
         go_upto_region 21 with fail
         rw [Hwz.out] at bz hz ⊢
         have uz:Upd (·=w6.heap.size) w9 wz:=by rw [←Hwz.out];exact Upd.refl
         have hcz:CondsV wz (fun k=>w9.heap.size≤k) none []:=CondsV.nil;clear r11 rf;have r0:=bz.cell 0;have r1:=bz.cell 1;have r2:=bz.cell 2;have r3:=bz.cell 3;have r4:=bz.cell 4;have r5:=bz.cell 5;have r6:=bz.cell 6;have r7:=bz.cell 7;have r8:=bz.cell 8;have r9:=bz.cell 9;have r10:=bz.cell 10;have r11:=bz.cell 11;have r12:=bz.cell 12
         have r13:=bz.cell 13;have z0:=hz.cell 0;have z1:=hz.cell 1;have z2:=hz.cell 2;have z3:=hz.cell 3;have z4:=hz.cell 4;have z5:=hz.cell 5;have z6:=hz.cell 6;have z7:=hz.cell 7;have z8:=hz.cell 8;have z9:=hz.cell 9;have z10:=hz.cell 10;have z11:=hz.cell 11;have z12:=hz.cell 12;have z13:=hz.cell 13;have rf:=bz.frozen;have zf:=hz.frozen
         have HZ:=Lib.hid hz;clear hz bz
         go_wp2_with fail
         rw [set14_eq]
         refine bodyPost_ret (results_cell_row rfl _ _ w.heap.size 43 _ (0,0) _ rfl (set14_blk HZ.out _ _ _ _ _ _ _ _ _ _ _ _ _ _) Tryz.underlying43 rfl (by kernel_rfl)) rfl ?_
         rw [Hys.out,HRr.out,hc]
         have uE:=set14_upd wz w.heap.size (.string name) (.int .i64 L.v) (.int .i64 L.op) (.int .i64 L.imm) (.int .i64 L.iv) (.slice KL L.kids.length kl) (.int .i64 Q.v) (.int .i64 Q.op) (.int .i64 Q.imm) (.int .i64 Q.iv) (.slice KR Q.kids.length kr) (.slice none 0 0) (.int .i64 nv) (.int .i64 0)
         refine ⟨⟨KL,kl,KR,kr,none,0⟩,rfl,⟨PtK.mono (fun k hk h=>by omega) _ _ _ (PtK.upd uE (fun k hk h=>by omega) _ _ _ (PtK.upd uz (fun k hk h=>by omega) _ _ _ HpL.out)),PtK.mono (fun k hk h=>by omega) _ _ _ (PtK.upd uE (fun k hk h=>by omega) _ _ _ (PtK.upd uz (fun k hk h=>by omega) _ _ _ HpR.out)),(hcz.upd uE (fun k hk h=>by omega)).mono (fun k hk h=>by omega),by simp⟩,?_⟩
         exact (hUw1.trans (HU9.out.trans uz (fun _ _ h=>by omega)) (fun k hk h=>by omega)).trans uE (fun k hk h=>by omega)
       ·
        have hc:kCondsF n nv=[]:=by unfold kCondsF;rw [Hk.out,if_neg k0,if_neg k1,if_neg k2,if_neg (fun h=>k3 h.1)]
        have uz:Upd (·=w6.heap.size) w9 w9:=Upd.refl;have bz:=HB9.out;have hz:=Hb9.out;have hcz:CondsV w9 (fun k=>w9.heap.size≤k) none []:=CondsV.nil;obtain ⟨wz,Hwz⟩:∃wz:World,Hid (w9=wz):=⟨_,rfl⟩
        go_upto_region 21 with fail
        rw [Hwz.out] at bz hz ⊢
        have uz:Upd (·=w6.heap.size) w9 wz:=by rw [←Hwz.out];exact Upd.refl
        have hcz:CondsV wz (fun k=>w9.heap.size≤k) none []:=CondsV.nil;clear r11 rf;have r0:=bz.cell 0;have r1:=bz.cell 1;have r2:=bz.cell 2;have r3:=bz.cell 3;have r4:=bz.cell 4;have r5:=bz.cell 5;have r6:=bz.cell 6;have r7:=bz.cell 7;have r8:=bz.cell 8;have r9:=bz.cell 9;have r10:=bz.cell 10;have r11:=bz.cell 11;have r12:=bz.cell 12
        have r13:=bz.cell 13;have z0:=hz.cell 0;have z1:=hz.cell 1;have z2:=hz.cell 2;have z3:=hz.cell 3;have z4:=hz.cell 4;have z5:=hz.cell 5;have z6:=hz.cell 6;have z7:=hz.cell 7;have z8:=hz.cell 8;have z9:=hz.cell 9;have z10:=hz.cell 10;have z11:=hz.cell 11;have z12:=hz.cell 12;have z13:=hz.cell 13;have rf:=bz.frozen;have zf:=hz.frozen
        have HZ:=Lib.hid hz;clear hz bz
        go_wp2_with fail
        rw [set14_eq]
        refine bodyPost_ret (results_cell_row rfl _ _ w.heap.size 43 _ (0,0) _ rfl (set14_blk HZ.out _ _ _ _ _ _ _ _ _ _ _ _ _ _) Tryz.underlying43 rfl (by kernel_rfl)) rfl ?_
        rw [Hys.out,HRr.out,hc]
        have uE:=set14_upd wz w.heap.size (.string name) (.int .i64 L.v) (.int .i64 L.op) (.int .i64 L.imm) (.int .i64 L.iv) (.slice KL L.kids.length kl) (.int .i64 Q.v) (.int .i64 Q.op) (.int .i64 Q.imm) (.int .i64 Q.iv) (.slice KR Q.kids.length kr) (.slice none 0 0) (.int .i64 nv) (.int .i64 0)
        refine ⟨⟨KL,kl,KR,kr,none,0⟩,rfl,⟨PtK.mono (fun k hk h=>by omega) _ _ _ (PtK.upd uE (fun k hk h=>by omega) _ _ _ (PtK.upd uz (fun k hk h=>by omega) _ _ _ HpL.out)),PtK.mono (fun k hk h=>by omega) _ _ _ (PtK.upd uE (fun k hk h=>by omega) _ _ _ (PtK.upd uz (fun k hk h=>by omega) _ _ _ HpR.out)),(hcz.upd uE (fun k hk h=>by omega)).mono (fun k hk h=>by omega),by simp⟩,?_⟩
        exact (hUw1.trans (HU9.out.trans uz (fun _ _ h=>by omega)) (fun k hk h=>by omega)).trans uE (fun k hk h=>by omega)
set_option maxRecDepth 100000 in
set_option maxHeartbeats 4000000 in
theorem rItem_c {L:List Tok} {T:List (Bs×Nat)} {fin:Nat} (hL:LOk L T fin) (ax:Bs→Option Rl)
  (HAX:Hid ((∃i,tkF T i=some [97,120,105,111,109])→∀(s:Bs) (w:World),Calls Tryz.prog 18 #[.string (kstr s)] w (AxP ax s w)))
  {w:World} {p:Nat} {A:Option Addr} {c:Nat} {x:St} (h:RdS w p A c L x) (hx:Good T x) :
  Calls Tryz.prog 29 #[.pointer (some ⟨p,0,none⟩)] w (ItemP T w p A c L x (itemF T fin ax (psOf x))):=by
 have hiL:x.i<L.length:=by have:=hL.lt;have:=hx.1;omega
 have hLl:=hL.len;obtain ⟨r,Hr⟩:=nm (itemF T fin ax (psOf x));rw [Hr.out]
 obtain ⟨W1,HW1⟩:=nm (w.alloc (.cells #[.string ⟨#[]⟩,.int .i64 0,.int .i64 0,.int .i64 0,.int .i64 0,.slice none 0 0,.int .i64 0,.int .i64 0,.int .i64 0,.int .i64 0,.slice none 0 0,.slice none 0 0,.int .i64 0,.int .i64 0] 43))
 have u1:Upd Non w W1:=by rw [←HW1.out];exact Upd.refl.alloc _
 have b1:Blk W1 w.heap.size 43 z14:=by rw [←HW1.out];exact Blk.new _ _ _
 have s1:W1.heap.size=w.heap.size+1:=by rw [←HW1.out];simp
 obtain ⟨W2,HW2⟩:=nm (W1.alloc (.cells #[.string ⟨#[]⟩,.int .i64 0,.bool false] 62))
 have u2:Upd Non W1 W2:=by rw [←HW2.out];exact Upd.refl.alloc _
 have b2:Blk W2 (w.heap.size+1) 62 z3:=by rw [←HW2.out,←s1];exact Blk.new _ _ _
 have s2:W2.heap.size=w.heap.size+2:=by rw [←HW2.out];simp [s1]
 have b1:=b1.upd u2 (fun f=>f);have U2:=u1.then_non u2;have e1:=HW1.out;have e2:=HW2.out;have HS2:Hid (LocP (P2 w.heap.size) w W2 p A c L x x):=(LocP.start h).turn U2 (fun _ _ f=>f.elim) (fun k q=>.inr (by rcases q with q | q <;> omega));have CI:=Lib.hid (rIs_c HS2.out.rd hiL [97,120,105,111,109]);rw [hL.tk hx.1] at CI;have HX:=Lib.hid hx;have HB1:=Lib.hid b1
 have HB2:=Lib.hid b2;have hpw:p<w.heap.size:=h.blk.lt;obtain ⟨z,Hz⟩:=nm (x.why==0&&decide (tkF T x.i=some [97,120,105,111,109]));rw [Hz.out] at CI;clear h b1 b2 u1 u2 U2 HW1 HW2 hx;go_enter Tryz.func29,Tryz.ntmps29
 go_wp2_with fail
 refine CI.out.mono ?_;rintro e w3 ⟨rfl,hu3⟩;have HS3:=Lib.hid (HS2.out.non hu3);have HB3:=Lib.hid (HB1.out.upd hu3 (fun f=>f));have HK3:=Lib.hid (HB2.out.upd hu3 (fun f=>f));have s3:=hu3.size;clear CI HS2 HB1 HB2 hu3 e1 e2
 cases z with
 | true =>
  have hz:=Hz.out;simp only [Bool.and_eq_true,beq_iff_eq,decide_eq_true_eq] at hz;have H0:Hid (x.why=0):=hz.1;have HTK:Hid (tkF T x.i=some [97,120,105,111,109]):=hz.2;have hiT:=tkF_lt hz.2;obtain ⟨c0,c1,c2,c3,c4,c5,c6⟩:=HS3.out.rd.cells;have cf:=HS3.out.rd.blk.frozen
  have hlt5:x.i<100000:=by omega
  obtain ⟨i,Hi⟩:=nm x.i;rw [Hi.out] at c1 hlt5;obtain ⟨W4,HW4⟩:=nm (w3.setCell ⟨p,1,none⟩ (.int .i64 ((i:Int)+1)));have e4:=HW4.out
  have u4:Upd (·=p) w3 W4:=by rw [←e4];exact updCell _ _ _ _
  have h4:RdS W4 p A c L { x with i:=x.i+1 }:=by
   have:=HS3.out.rd.setI (x.i+1);rw [Hi.out] at this ⊢;rw [←e4];exact this
  have HS4:Hid (LocP (P2 w.heap.size) w W4 p A c L x { x with i:=x.i+1 }):=HS3.out.call h4 (fun _ q=>.inl q) (u4.mono (fun _ _ e=>.inl e));have HB4:=Lib.hid (HB3.out.upd u4 (by omega));have HK4:=Lib.hid (HK3.out.upd u4 (by omega));have HG4:Hid (Good T { x with i:=x.i+1 }):=⟨hiT,fun _=>by have:=HX.out.2 hz.1;exact ⟨Nat.le_succ_of_le this.1,Nat.le_succ_of_le this.2⟩⟩
  have CW:=Lib.hid (rWordA_c hL HS4.out.rd HG4.out HB4.out hpw);have hs4:=u4.size;clear hz c0 c2 c3 c4 c5 c6 h4 u4
  go_wp2_with fail
  refine CW.out.mono ?_;rintro e w5 hw5;have HW5:=Lib.hid hw5;clear hw5 CW c1 cf e4;obtain ⟨_,y,ts,tp,ev,htt,hb5,hy5,hg5,_,ho5,hu5,hr5⟩:=HW5.out;subst ev;have HS5:Hid (LocP (P2 w.heap.size) w w5 p A c L x y):=HS4.out.callP hy5 ho5 (hu5.mono (fun _ _ q=>q.imp_right .inl));have HB5:=Lib.hid hb5
  have HK5:=Lib.hid (HK4.out.upd hu5 (fun q=>by
   rcases q with q | q
   ·
    exact (HS4.out.pr _ (.inr rfl)).2.2 q
   ·
    omega))
  have HG5:=Lib.hid hg5;have HR5:=Lib.hid (any_res hr5 (fun q=>(htt q).1))
  have HTP:Hid (y.why=0→tp=offF T fin (x.i+1)):=fun q=>by rw [(htt q).2];exact hL.pos hiT
  have hs5:=hu5.size
  have hyl:y.i<L.length:=by have:=hL.lt;have:=hg5.1;omega
  obtain ⟨W6,HW6⟩:=nm (w5.alloc (.cells #[.string (kstr ts),.int .i64 tp,.bool false] 62));have e6:=HW6.out
  have u6:Upd Non w5 W6:=by rw [←e6];exact Upd.refl.alloc _
  have b6:Blk W6 w5.heap.size 62 #[.string (kstr ts),.int .i64 tp,.bool false]:=by rw [←e6];exact Blk.new _ _ _
  have s6:W6.heap.size=w5.heap.size+1:=by rw [←e6];simp
  clear hb5 hy5 hg5 ho5 hu5 hr5 htt HW5 HB4 HK4 HG4 HS4 HB3 HK3;unfold tokVal;clear e6
  go_upto_region 5 with fail
  rw [HW6.out];have HS6:=Lib.hid (HS5.out.non u6);have HB6:=Lib.hid (HB5.out.upd u6 (fun f=>f));have HK6:=Lib.hid (HK5.out.upd u6 (fun f=>f));have CE:=Lib.hid (rExpect_c HS6.out.rd hyl hLl [59]);have HT6:=Lib.hid b6;clear HW6 b6 u6 HS5 HB5 HK5
  go_wp2_with fail
  refine CE.out.mono ?_;rintro e w7 ⟨rfl,hy7,hu7⟩
  have HS7:Hid (LocP (P2 w.heap.size) w w7 p A c L x (y.exp L [59])):=HS6.out.call hy7 (fun _ hk=>.inl ((exp_own _ _).1 hk)) (hu7.mono (fun _ _ e=>.inl e))
  have HLT:Hid (∀k,St.own (y.exp L [59]) p k→k<w7.heap.size):=fun k q=>hy7.lt q
  have HB7:=Lib.hid (HB6.out.upd hu7 (by omega));have HK7:=Lib.hid (HK6.out.upd hu7 (by omega));have b7:=HT6.out.upd hu7 (by omega);have hs7:=hu7.size;have v0:=b7.cell 0;have HT7:=Lib.hid b7;have CX:=Lib.hid (HAX.out ⟨x.i,HTK.out⟩ ts w7);clear b7 hy7 hu7 CE HS6 HB6 HK6 HT6
  go_wp2_with fail
  refine CX.out.mono ?_;rintro e w8 ⟨rl,a,b,rfl,hk8,hu8,ha1,ha2⟩;have HS8:=Lib.hid (HS7.out.non hu8);have HB8:=Lib.hid (HB7.out.upd hu8 (fun f=>f));have HK8:=Lib.hid (HK7.out.upd hu8 (fun f=>f));have HT8:=Lib.hid (HT7.out.upd hu8 (fun f=>f));have HRK:=Lib.hid hk8;have HAB:Hid ((b=true→ax ts=some rl)∧(b=false→ax ts=none)):=⟨ha1,ha2⟩;have hs8:=hu8.size
  obtain ⟨W9,HW9⟩:=nm (w8.alloc (.cells (rlCells rl a) 43))
  have u9:Upd Non w8 W9:=by rw [←HW9.out];exact Upd.refl.alloc _
  have b9:Blk W9 w8.heap.size 43 (rlCells rl a):=by rw [←HW9.out];exact Blk.new _ _ _
  have s9:W9.heap.size=w8.heap.size+1:=by rw [←HW9.out];simp
  clear CX v0 hk8 hu8 ha1 ha2 HS7 HB7 HK7 HT7;unfold rlv rlCells;unfold rlCells at HW9
  go_upto_region 7 with fail
  rw [show w8.alloc _=W9 from HW9.out];obtain ⟨wD,HwD⟩:=nm W9.drew
  have uD:Upd Non W9 wD:=by rw [←HwD.out];exact Upd.refl.drew
  have HS:=Lib.hid ((HS8.out.non u9).non uD);have HB:=Lib.hid ((HB8.out.upd u9 (fun f=>f)).upd uD (fun f=>f));have HK:=Lib.hid ((HK8.out.upd u9 (fun f=>f)).upd uD (fun f=>f));have HT:=Lib.hid ((HT8.out.upd u9 (fun f=>f)).upd uD (fun f=>f));have HR:=Lib.hid (b9.upd uD (fun f=>f));have HRK:=Lib.hid ((HRK.out.upd u9 (fun _ _ _ f=>f)).upd uD (fun _ _ _ f=>f))
  refine wp_region_held_drew (S:=fun w'=>w'.cell? ⟨w8.heap.size,0,none⟩=some (.string rl.name)∧w'.cell? ⟨w8.heap.size,1,none⟩=some (.int .i64 rl.l.v)∧w'.cell? ⟨w8.heap.size,2,none⟩=some (.int .i64 rl.l.op)∧w'.cell? ⟨w8.heap.size,3,none⟩=some (.int .i64 rl.l.imm)∧w'.cell? ⟨w8.heap.size,4,none⟩=some (.int .i64 rl.l.iv)∧w'.cell? ⟨w8.heap.size,5,none⟩=some (.slice a.la rl.l.kids.length a.lc)∧w'.cell? ⟨w8.heap.size,6,none⟩=some (.int .i64 rl.r.v)∧w'.cell? ⟨w8.heap.size,7,none⟩=some (.int .i64 rl.r.op)∧w'.cell? ⟨w8.heap.size,8,none⟩=some (.int .i64 rl.r.imm)∧w'.cell? ⟨w8.heap.size,9,none⟩=some (.int .i64 rl.r.iv)∧w'.cell? ⟨w8.heap.size,10,none⟩=some (.slice a.ra rl.r.kids.length a.rc)∧w'.cell? ⟨w8.heap.size,11,none⟩=some (.slice a.ca rl.conds.length a.cc)∧w'.cell? ⟨w8.heap.size,12,none⟩=some (.int .i64 rl.vars)∧w'.cell? ⟨w8.heap.size,13,none⟩=some (.int .i64 rl.imms)∧w'.cell? ⟨w5.heap.size,0,none⟩=some (.string (kstr ts))∧w'.cell? ⟨w5.heap.size,1,none⟩=some (.int .i64 (tp:Nat))∧w'.cell? ⟨w5.heap.size,2,none⟩=some (.bool false)) (by kernel_rfl) (by rw [HwD.out];exact rt_cells HR.out HT.out) (fun hHeld=>?_)
  rw [HwD.out] at hHeld ⊢;clear b9 u9 HS8 HB8 HK8 HT8 HW9;refine wpT 0 ?_
  try simp only [put_y,put_z]
  refine wpT 1 ?_
  try simp only [put_y,put_z]
  refine wpT 2 ?_
  try simp only [put_y,put_z]
  have b0:=HB.out;unfold z14 at b0;have z0:=b0.cell 0;have z1:=b0.cell 1;have z2:=b0.cell 2;have z3:=b0.cell 3;have z4:=b0.cell 4;have z5:=b0.cell 5;have z6:=b0.cell 6;have z7:=b0.cell 7;have z8:=b0.cell 8;have z9:=b0.cell 9;have z10:=b0.cell 10;have z11:=b0.cell 11;have z12:=b0.cell 12;have z13:=b0.cell 13;have zf:=b0.frozen
  refine wpAnyH_ready (rs:=[3]) (by kernel_rfl) (by simp) ?_;refine AllReadyH.cons rfl (fun K hK=>?_) AllReadyH.nil;go_simp;rw [set14_eq]
  obtain ⟨W10,HW10⟩:=nm (set14 wD w.heap.size (.string rl.name) (.int .i64 rl.l.v) (.int .i64 rl.l.op) (.int .i64 rl.l.imm) (.int .i64 rl.l.iv) (.slice a.la rl.l.kids.length a.lc) (.int .i64 rl.r.v) (.int .i64 rl.r.op) (.int .i64 rl.r.imm) (.int .i64 rl.r.iv) (.slice a.ra rl.r.kids.length a.rc) (.slice a.ca rl.conds.length a.cc) (.int .i64 rl.vars) (.int .i64 rl.imms))
  rw [HW10.out]
  have u10:Upd (·=w.heap.size) wD W10:=by rw [←HW10.out];exact set14_upd _ _ _ _ _ _ _ _ _ _ _ _ _ _ _ _
  have hb10:Blk W10 w.heap.size 43 (rlCells rl a):=by rw [←HW10.out];exact set14_blk b0 _ _ _ _ _ _ _ _ _ _ _ _ _ _
  have HS10:=Lib.hid (HS.out.turn (P':=P2 w.heap.size) u10 (fun _ _ e=>.inl e) (fun _ q=>.inl q));have HK10:=Lib.hid (HK.out.upd u10 (by omega));have HT10:=Lib.hid (HT.out.upd u10 (by omega));have HR10:=Lib.hid (HR.out.upd u10 (by omega));have HRK10:=Lib.hid (HRK.out.upd u10 (fun k _ q e=>by omega));have HB10:=Lib.hid hb10;refine hK.out _ _ ?_ (fun hHeld=>?_)
  ·
   exact rt_cells HR10.out HT10.out
  clear hK K
  try simp only [put_y,put_z]
  clear b0 zf z0 z1 z2 z3 z4 z5 z6 z7 z8 z9 z10 z11 z12 z13 hb10 HW10;have b0:=HK10.out;unfold z3 at b0;have y0:=b0.cell 0;have y1:=b0.cell 1;have y2:=b0.cell 2;have yf:=b0.frozen;refine wpAnyH_ready (rs:=[4]) (by kernel_rfl) (by simp) ?_;refine AllReadyH.cons rfl (fun K hK=>?_) AllReadyH.nil;go_simp;rw [set3_eq]
  obtain ⟨W11,HW11⟩:=nm (set3 W10 (w.heap.size+1) (.string (kstr ts)) (.int .i64 (tp:Nat)) (.bool false));rw [HW11.out]
  have u11:Upd (·=w.heap.size+1) W10 W11:=by rw [←HW11.out];exact set3_upd _ _ _ _ _
  have hb11:Blk W11 (w.heap.size+1) 62 #[.string (kstr ts),.int .i64 tp,.bool false]:=by rw [←HW11.out];exact set3_blk b0 _ _ _
  have HS11:=Lib.hid (HS10.out.turn (P':=P2 w.heap.size) u11 (fun _ _ e=>.inr e) (fun _ q=>.inl q));have HB11:=Lib.hid (HB10.out.upd u11 (by omega));have HT11:=Lib.hid (HT10.out.upd u11 (by omega));have HR11:=Lib.hid (HR10.out.upd u11 (by omega));have HRK11:=Lib.hid (HRK10.out.upd u11 (fun k _ q e=>by omega));have HK11:=Lib.hid hb11;refine hK.out _ _ ?_ (fun hHeld=>?_)
  ·
   exact rt_cells HR11.out HT11.out
  clear hK K
  try simp only [put_y,put_z]
  clear b0 yf y0 y1 y2 hb11 HW11;refine wpAnyH_ready (rs:=[5]) (by kernel_rfl) (by simp) ?_;refine AllReadyH.cons rfl (fun K hK=>?_) AllReadyH.nil;go_simp;refine hK.out _ _ ?_ (fun hHeld=>?_)
  ·
   exact rt_cells HR11.out HT11.out
  clear hK K
  try simp only [put_y,put_z]
  refine wpAnyH_done (by kernel_rfl) ?_ _
  go_wp2_with fail
  refine bodyPost_ret (results_cell_cell_tmp rfl _ _ w.heap.size 43 _ (0,0) _ (w.heap.size+1) 62 _ (0,0) _ rfl HB11.out Tryz.underlying43 rfl (by kernel_rfl) rfl HK11.out Tryz.underlying62 rfl (by kernel_rfl)) rfl ?_
  rw [←Hr.out]
  exact ⟨rl,a,ts,tp,b,y.exp L [59],rfl,HRK11.out.mono (fun k _ q=>⟨by omega,fun r=>by have:=HLT.out k r;omega⟩),HS11.out.rd,exp_good hL HG5.out,HS11.out.own,HS11.out.upd,item_ax hL H0.out HTK.out HR5.out HG5.out HTP.out HAB.out⟩
 | false =>
  have CE:=Lib.hid (rExpect_c HS3.out.rd hiL hLl [114,117,108,101])
  go_wp2_with fail
  refine CE.out.mono ?_;rintro e w4 ⟨rfl,hy4,hu4⟩;have hg0:Good T (x.exp L [114,117,108,101]):=exp_good hL HX.out
  have ho0:∀k,(x.exp L [114,117,108,101]).own p k→x.own p k:=fun k hk=>(exp_own _ _).1 hk
  obtain ⟨y0,Hy0⟩:=nm (x.exp L [114,117,108,101]);rw [Hy0.out] at hy4 hg0 ho0;have HS4:Hid (LocP (P2 w.heap.size) w w4 p A c L x y0):=HS3.out.call hy4 (fun k hk=>.inl (ho0 k hk)) (hu4.mono (fun _ _ e=>.inl e));have HB4:=Lib.hid (HB3.out.upd hu4 (by omega));have HK4:=Lib.hid (HK3.out.upd hu4 (by omega));have HG0:=Lib.hid hg0;have hs4:=hu4.size
  obtain ⟨c0,c1,c2,c3,c4,c5,c6⟩:=HS4.out.rd.cells;have cf:=HS4.out.rd.blk.frozen;have hcl:=HS4.out.rd.clear;obtain ⟨W5,HW5⟩:=nm ((w4.setCell ⟨p,4,none⟩ (.slice none 0 0)).setCell ⟨p,5,none⟩ (.slice none 0 0));rw [HW5.out] at hcl;have e5:=HW5.out
  have HS5:Hid (LocP (P2 w.heap.size) w W5 p A c L x y0.clear):=HS4.out.call hcl.1 (fun k hk=>.inl (.inl ((clear_own _ _ _).1 hk))) (hcl.2.mono (fun _ _ e=>.inl e))
  have HB5:=Lib.hid (HB4.out.upd hcl.2 (by omega));have HK5:=Lib.hid (HK4.out.upd hcl.2 (by omega));have hs5:=hcl.2.size;have HG5:Hid (Good T y0.clear):=⟨hg0.1,fun _=>⟨Nat.zero_le _,Nat.zero_le _⟩⟩;have CW:=Lib.hid (rWordA_c hL HS5.out.rd HG5.out HB5.out hpw);clear CE hy4 hu4 hg0 ho0 c0 c1 c2 c3 c6 hcl HS3 HB3 HK3
  go_wp2_with fail
  refine CW.out.mono ?_;rintro e w6 hw6;have HW6:=Lib.hid hw6;clear hw6 CW c4 c5 cf e5 HS4 HB4 HK4;obtain ⟨_,y1,ts,tp,ev,htt,hb6,hy6,hg6,_,ho6,hu6,hr6⟩:=HW6.out;subst ev;have HS6:Hid (LocP (P2 w.heap.size) w w6 p A c L x y1):=HS5.out.callP hy6 ho6 (hu6.mono (fun _ _ q=>q.imp_right .inl));have HB6:=Lib.hid hb6
  have HK6:=Lib.hid (HK5.out.upd hu6 (fun q=>by
   rcases q with q | q
   ·
    exact (HS5.out.pr _ (.inr rfl)).2.2 q
   ·
    omega))
  have HG1:=Lib.hid hg6;have hR1:=any_res hr6 (fun q=>(htt q).1);have HR1:Hid (ResS y0 y1 (anyF T fin { psOf y0 with vs:=[],ms:=[] }) (fun v=>v=ts)):=hR1
  have HTP:Hid (y1.why=0→tp=offF T fin y0.i):=fun q=>by rw [(htt q).2];exact hL.pos HG5.out.1
  have hs6:=hu6.size
  have hyl:y1.i<L.length:=by have:=hL.lt;have:=hg6.1;omega
  obtain ⟨W7,HW7⟩:=nm (w6.alloc (.cells #[.string (kstr ts),.int .i64 tp,.bool false] 62))
  have u7:Upd Non w6 W7:=by rw [←HW7.out];exact Upd.refl.alloc _
  have b7:Blk W7 w6.heap.size 62 #[.string (kstr ts),.int .i64 tp,.bool false]:=by rw [←HW7.out];exact Blk.new _ _ _
  have s7:W7.heap.size=w6.heap.size+1:=by rw [←HW7.out];simp
  have HS7:Hid (LocP (fun k=>P2 w.heap.size k∨k=w6.heap.size) w W7 p A c L x y1):=HS6.out.turn u7 (fun _ _ f=>f.elim) (fun k q=>q.imp_right (fun q=>by omega))
  have HB7:=Lib.hid (HB6.out.upd u7 (fun f=>f));have HK7:=Lib.hid (HK6.out.upd u7 (fun f=>f));have HT7:=Lib.hid b7;have CE:=Lib.hid (rExpect_c HS7.out.rd hyl hLl [58]);clear hb6 hy6 hg6 ho6 hu6 hr6 hR1 htt b7 u7 HW6 HB5 HK5 HS5 HS6 HB6 HK6;unfold tokVal
  go_upto_region 11 with fail
  rw [HW7.out]
  go_wp2_with fail
  refine CE.out.mono ?_;rintro e w8 ⟨rfl,hy8,hu8⟩
  have HS8:Hid (LocP (fun k=>P2 w.heap.size k∨k=w6.heap.size) w w8 p A c L x (y1.exp L [58])):=HS7.out.call hy8 (fun _ hk=>.inl ((exp_own _ _).1 hk)) (hu8.mono (fun _ _ e=>.inl e))
  have HB8:=Lib.hid (HB7.out.upd hu8 (by omega));have HK8:=Lib.hid (HK7.out.upd hu8 (by omega));have b8:=HT7.out.upd hu8 (by omega);have hs8:=hu8.size;have v0:=b8.cell 0;have HT8:=Lib.hid b8
  obtain ⟨W9,HW9⟩:=nm (w8.alloc (.cells #[.string (kstr ts),.int .i64 0,.int .i64 0,.int .i64 0,.int .i64 0,.slice none 0 0,.int .i64 0,.int .i64 0,.int .i64 0,.int .i64 0,.slice none 0 0,.slice none 0 0,.int .i64 0,.int .i64 0] 43))
  have u9:Upd Non w8 W9:=by rw [←HW9.out];exact Upd.refl.alloc _
  have b9:Blk W9 w8.heap.size 43 (rlCells ⟨kstr ts,.mk 0 0 0 0 [],.mk 0 0 0 0 [],[],0,0⟩ ⟨none,0,none,0,none,0⟩):=by rw [←HW9.out];exact Blk.new _ _ _
  have s9:W9.heap.size=w8.heap.size+1:=by rw [←HW9.out];simp
  have HS9:Hid (ItS w W9 p A c L x (y1.exp L [58]) w6.heap.size w8.heap.size ts tp ⟨kstr ts,.mk 0 0 0 0 [],.mk 0 0 0 0 [],[],0,0⟩ ⟨none,0,none,0,none,0⟩):=by
   refine ⟨HS8.out.turn u9 (fun _ _ f=>f.elim) (fun k q=>?_),HB8.out.upd u9 (fun f=>f),HK8.out.upd u9 (fun f=>f),HT8.out.upd u9 (fun f=>f),b9,CdO.none_,by omega,by omega,ItS.leaf,ItS.leaf⟩
   rcases q with q | q | q | q | q
   ·
    exact .inl (.inl (.inl q))
   ·
    exact .inl (.inl (.inr q))
   ·
    exact .inl (.inr q)
   ·
    exact .inr (by omega)
   ·
    exact (At.none_ q).elim
  have HG2:Hid (Good T (y1.exp L [58])):=exp_good hL HG1.out;clear CE b8 hy8 hu8 b9 u9 HS7 HB7 HK7 HT7 HS8 HB8 HK8 HT8
  go_upto_region 13 with fail
  rw [HW9.out];obtain ⟨c0,c1,c2,c3,c4,c5,c6⟩:=HS9.out.loc.rd.cells;have cf:=HS9.out.loc.rd.blk.frozen;obtain ⟨W10,HW10⟩:=nm (W9.setCell ⟨p,6,none⟩ (.bool true));have e10:=HW10.out
  have HS10:Hid (ItS w W10 p A c L x { (y1.exp L [58]) with left:=true } w6.heap.size w8.heap.size ts tp ⟨kstr ts,.mk 0 0 0 0 [],.mk 0 0 0 0 [],[],0,0⟩ ⟨none,0,none,0,none,0⟩):=by rw [←e10];exact HS9.out.setLeft true
  have HG3:Hid (Good T { (y1.exp L [58]) with left:=true }):=HG2.out;have CT:=Lib.hid (rTerm_any hL true T.length HS10.out.loc.rd HG3.out rfl (fun _=>by omega));clear v0 HW9 c0 c1 c2 c3 c4 c5 HS9 HW7
  go_wp2_with fail
  refine CT.out.mono ?_;rintro e w11 ⟨q1,KA1,kc1,y3,rfl,hq,hy,hg,_,ho,hu,hres⟩;have HS11:=Lib.hid (HS10.out.call hy ho hu);have HQ1:=Lib.hid (HS10.out.new hq);have HG4:=Lib.hid hg
  have HR3:Hid (ResS (y1.exp L [58]) y3 (termF T fin true (T.length+1) (psOf (y1.exp L [58]))) (fun v=>v=q1)):=by
   have h2:ResS { (y1.exp L [58]) with left:=true } y3 (termF T fin true (T.length+1) (psOf { (y1.exp L [58]) with left:=true })) (fun v=>v=q1):=ResS.mono hres (fun _ q=>q.1)
   exact h2
  have hs11:=hu.size;have b11:=HS11.out.rl;unfold rlCells at b11;have k1:=b11.cell 1;have k2:=b11.cell 2;have k3:=b11.cell 3;have k4:=b11.cell 4;have k5:=b11.cell 5;have kf:=b11.frozen;clear c6 cf e10 CT hq hy hg ho hu hres HS10;unfold pv
  go_upto_region 15 with fail
  rw [setLf_eq];obtain ⟨W12,HW12⟩:=nm (setLf w11 w8.heap.size (.int .i64 q1.v) (.int .i64 q1.op) (.int .i64 q1.imm) (.int .i64 q1.iv) (.slice KA1 q1.kids.length kc1));rw [HW12.out]
  have u12:Upd (·=w8.heap.size) w11 W12:=by rw [←HW12.out];exact setLf_upd _ _ _ _ _ _ _
  have b12:Blk W12 w8.heap.size 43 (rlCells ⟨kstr ts,q1,.mk 0 0 0 0 [],[],0,0⟩ ⟨KA1,kc1,none,0,none,0⟩):=by rw [←HW12.out];exact setLf_blk b11 _ _ _ _ _
  have HS12:=Lib.hid (HS11.out.rule u12 b12 rfl rfl rfl HQ1.out HS11.out.kr);clear b11 k1 k2 k3 k4 k5 kf u12 b12 HW12 HS11 HQ1;obtain ⟨c0,c1,c2,c3,c4,c5,c6⟩:=HS12.out.loc.rd.cells;have cf:=HS12.out.loc.rd.blk.frozen;obtain ⟨W13,HW13⟩:=nm (W12.setCell ⟨p,6,none⟩ (.bool false));have e13:=HW13.out
  have HS13:Hid (ItS w W13 p A c L x { y3 with left:=false } w6.heap.size w8.heap.size ts tp ⟨kstr ts,q1,.mk 0 0 0 0 [],[],0,0⟩ ⟨KA1,kc1,none,0,none,0⟩):=by rw [←e13];exact HS12.out.setLeft false
  have HG5:Hid (Good T { y3 with left:=false }):=HG4.out
  have hyl3:({ y3 with left:=false }:St).i<L.length:=by have:=hL.lt;have:=HG4.out.1;show y3.i<_;omega
  have CE:=Lib.hid (rExpect_c HS13.out.loc.rd hyl3 hLl [61,62]);clear c0 c1 c2 c3 c4 c5 HS12 hyl3
  go_wp2_with fail
  refine CE.out.mono ?_;rintro e w14 ⟨rfl,hy14,hu14⟩;have HS14:=Lib.hid (HS13.out.exp hy14 hu14);have hg14:Good T (({ y3 with left:=false }:St).exp L [61,62]):=exp_good hL HG5.out;rw [exp_left_set] at HS14 hg14;have HG6:=Lib.hid hg14;have CT:=Lib.hid (rTerm_any hL false T.length HS14.out.loc.rd HG6.out rfl (fun _=>by omega));clear CE c6 cf e13 hy14 hu14 hg14 HS13
  go_wp2_with fail
  refine CT.out.mono ?_;rintro e w15 ⟨q2,KA2,kc2,y5,rfl,hq,hy,hg,hl5,ho,hu,hres⟩;have HS15:=Lib.hid (HS14.out.call hy ho hu);have HQ2:=Lib.hid (HS14.out.new hq);have HG7:=Lib.hid hg;have HL7:Hid (y5.left=false):=hl5
  have HR5:Hid (ResS (y3.exp L [61,62]) y5 (termF T fin false (T.length+1) (psOf (y3.exp L [61,62]))) (fun v=>v=q2)):=by
   have h2:ResS { (y3.exp L [61,62]) with left:=false } y5 (termF T fin false (T.length+1) (psOf { (y3.exp L [61,62]) with left:=false })) (fun v=>v=q2):=ResS.mono hres (fun _ q=>q.1)
   exact h2
  have b15:=HS15.out.rl;unfold rlCells at b15;have k6:=b15.cell 6;have k7:=b15.cell 7;have k8:=b15.cell 8;have k9:=b15.cell 9;have k10:=b15.cell 10;have kf:=b15.frozen;clear CT hq hy hg ho hu hres hl5 HS14;unfold pv
  go_upto_region 18 with fail
  rw [setRt_eq];obtain ⟨W16,HW16⟩:=nm (setRt w15 w8.heap.size (.int .i64 q2.v) (.int .i64 q2.op) (.int .i64 q2.imm) (.int .i64 q2.iv) (.slice KA2 q2.kids.length kc2));rw [HW16.out]
  have u16:Upd (·=w8.heap.size) w15 W16:=by rw [←HW16.out];exact setRt_upd _ _ _ _ _ _ _
  have b16:Blk W16 w8.heap.size 43 (rlCells ⟨kstr ts,q1,q2,[],0,0⟩ ⟨KA1,kc1,KA2,kc2,none,0⟩):=by rw [←HW16.out];exact setRt_blk b15 _ _ _ _ _
  have HS16:=Lib.hid (HS15.out.rule u16 b16 rfl rfl rfl HS15.out.kl HQ2.out)
  have hy5l:y5.i<L.length:=by have:=hL.lt;have:=HG7.out.1;omega
  have CI:=Lib.hid (rIs_c HS16.out.loc.rd hy5l [105,102]);rw [hL.tk HG7.out.1] at CI;obtain ⟨z,Hz2⟩:=nm (y5.why==0&&decide (tkF T y5.i=some [105,102]));rw [Hz2.out] at CI;clear b15 k6 k7 k8 k9 k10 kf u16 b16 HW16 HS15 HQ2
  go_upto_if 65 with fail
  refine CI.out.mono ?_;rintro e w17 ⟨rfl,hu17⟩;have HS17:=Lib.hid (HS16.out.non hu17);clear CI hu17 HS16
  go_upto_if 65 with fail
  have hTl:T.length≤100000:=by have:=hL.lt;omega
  go_cut [] (fun wx=>∃(CA:Option Addr) (cc:Nat) (cs:List Cd) (y6:St),Hid (ItS w wx p A c L x y6 w6.heap.size w8.heap.size ts tp ⟨kstr ts,q1,q2,cs,0,0⟩ ⟨KA1,kc1,KA2,kc2,CA,cc⟩)∧Hid (Good T y6)∧Hid (ResS y5 y6 (ifF T fin (T.length+1) (psOf y5)) (fun v=>v=cs)))
  case first =>
   cases z with
   | false =>
    go_wp2_with fail
    go_meet
    case rel=>exact ⟨none,0,[],y5,HS17,HG7,ifF_none Hz2.out⟩
   | true =>
    have hz2:=Hz2.out;simp only [Bool.and_eq_true,beq_iff_eq,decide_eq_true_eq] at hz2;have H05:Hid (y5.why=0):=hz2.1;have HTK:Hid (tkF T y5.i=some [105,102]):=hz2.2;have hiT:=tkF_lt hz2.2;obtain ⟨c0,c1,c2,c3,c4,c5,c6⟩:=HS17.out.loc.rd.cells;have cf:=HS17.out.loc.rd.blk.frozen;have hs18:=HS17.out.setI (y5.i+1)
    have hg18:Good T { y5 with i:=y5.i+1 }:=⟨hiT,fun _=>by have:=HG7.out.2 hz2.1;exact ⟨Nat.le_succ_of_le this.1,Nat.le_succ_of_le this.2⟩⟩;obtain ⟨i,Hi⟩:=nm y5.i;rw [Hi.out] at c1 hiT hs18;rw [show (.int .i64 ((i+1:Nat):Int):Value)=.int .i64 ((i:Int)+1) from rfl] at hs18;obtain ⟨W18,HW18⟩:=nm (w17.setCell ⟨p,1,none⟩ (.int .i64 ((i:Int)+1)))
    have e18:=HW18.out;rw [e18,←Hi.out] at hs18;have HS18:=Lib.hid hs18;have HG:=Lib.hid hg18;have HL:Hid (({ y5 with i:=y5.i+1 }:St).left=false):=HL7.out;clear hz2 c0 c2 c3 c4 c5 c6 hs18 hg18
    go_upto_region 20 with fail
    clear c1 cf e18 HW18
    obtain ⟨yy,CA,cc,cs,Hyy,Hcs,HS,HG,HL⟩:∃(yy:St) (CA:Option Addr) (cc:Nat) (cs:List Cd),Hid (yy={ y5 with i:=y5.i+1 })∧Hid (cs=[])∧Hid (ItS w W18 p A c L x yy w6.heap.size w8.heap.size ts tp ⟨kstr ts,q1,q2,cs,0,0⟩ ⟨KA1,kc1,KA2,kc2,CA,cc⟩)∧Hid (Good T yy)∧Hid (yy.left=false):=⟨_,none,0,[],rfl,rfl,HS18,HG,HL⟩
    have hcl:cs.length≤100000:=by rw [Hcs.out];exact Nat.zero_le _
    clear HS18 HS17
    go_cut [] (fun wx=>∃(A8:Option Addr) (c8:Nat) (cd:Cd) (y':St),Hid (ItS w wx p A c L x y' w6.heap.size w8.heap.size ts tp ⟨kstr ts,q1,q2,cs++[cd],0,0⟩ ⟨KA1,kc1,KA2,kc2,A8,c8⟩)∧Hid (Good T y')∧Hid (y'.left=false)∧Hid (ResS yy y' (pcondF T fin (psOf yy)) (fun v=>v=cd∧yy.i+1≤y'.i)))
    case first =>
     obtain ⟨wD,HwD⟩:=nm W18.drew
     have uD:Upd Non W18 wD:=by rw [←HwD.out];exact Upd.refl.drew
     have HS:=Lib.hid (HS.out.non uD);refine wp_region_held_drew (S:=fun _=>True) (by kernel_rfl) trivial (fun hHeld=>?_);rw [HwD.out];clear uD;refine wpT 0 ?_
     try simp only [put_y,put_z]
     refine wpT 2 ?_
     try simp only [put_y,put_z]
     refine wpAnyH_ready (rs:=[1,3]) (by kernel_rfl) (by simp) ?_;refine AllReadyH.cons rfl (fun K hK=>?_) (AllReadyH.cons rfl (fun K hK=>?_) AllReadyH.nil)
     ·
      skip;have hbk:=HS.out.rl;unfold rlCells at hbk;have k11:=hbk.cell 11;go_simp;refine hK.out _ _ ?_ (fun hHeld=>?_)
      ·
       exact trivial
      clear hK K
      try simp only [put_y,put_z]
      clear hbk k11;refine wpAnyH_ready (rs:=[3]) (by kernel_rfl) (by simp) ?_;refine AllReadyH.cons rfl (fun K hK=>?_) AllReadyH.nil;go_simp;refine (rCond_c hL HS.out.loc.rd HG.out HL.out).mono ?_;rintro e wc6 ⟨cd,y',rfl,hy',hg',hl',ho',hu',hres⟩;have HS:=Lib.hid (HS.out.call hy' ho' hu');have HG2:=Lib.hid hg';have HL2:Hid (y'.left=false):=hl'.trans HL.out
      have HRS:=Lib.hid hres;clear hy' hg' ho' hu' hres hl'
      go_wp2_with fail
      refine hK.out _ _ ?_ (fun hHeld=>?_)
      ·
       exact trivial
      clear hK K
      try simp only [put_y,put_z]
      refine wpAnyH_ready (rs:=[4]) (by kernel_rfl) (by simp) ?_;refine AllReadyH.cons rfl (fun K hK=>?_) AllReadyH.nil;go_simp;have HS:=Lib.hid (HS.out.non (Upd.refl.alloc (.cells #[.int .i64 cd.kind,.int .i64 cd.a,.int .i64 cd.b,.int .i64 cd.n] 69) (S:=Non)));refine hK.out _ _ ?_ (fun hHeld=>?_)
      ·
       exact trivial
      clear hK K
      try simp only [put_y,put_z]
      refine wpAnyH_ready (rs:=[5]) (by kernel_rfl) (by simp) ?_;refine AllReadyH.cons rfl (fun K hK=>?_) AllReadyH.nil;have hko:=HS.out.cds;unfold CdO at hko;refine step_app rfl rfl T_conds rfl hko rfl (Sl.new _ _ _) rfl (by simp [Value.oneCell']) (by simp only [maxLen];omega) (by omega) ?_;intro A8 c8 w8' ho8 hu8 hat8;have hcd:=CdO.of rfl ho8
      have hbk:=HS.out.rl.upd hu8 HS.out.ncd.2.2.2;unfold rlCells at hbk;have k11:=hbk.cell 11;have kf:=hbk.frozen;clear hko ho8;refine hK.out _ _ ?_ (fun hHeld=>?_)
      ·
       exact trivial
      clear hK K
      try simp only [put_y,put_z]
      refine wpT 6 ?_
      try simp only [put_y,put_z]
      refine wpAnyH_ready (rs:=[7]) (by kernel_rfl) (by simp) ?_;refine AllReadyH.cons rfl (fun K hK=>?_) AllReadyH.nil;go_simp;have hb9:=hbk.set_ 11 (.slice A8 (cs++[cd]).length c8);obtain ⟨w9,Hw9⟩:=nm (w8'.setCell ⟨w8.heap.size,11,none⟩ (.slice A8 (cs++[cd]).length c8));have e9:=Hw9.out;rw [e9] at hb9;rw [List.length_append,List.length_singleton] at e9;rw [e9]
      have u9:Upd (·=w8.heap.size) w8' w9:=by rw [←Hw9.out];exact updCell _ _ _ _
      have HS:=Lib.hid (HS.out.app hu8 hcd hat8 u9 (by simpa [rlCells] using hb9));clear hbk k11 kf hcd hu8 hat8 hb9 u9 Hw9 e9;refine hK.out _ _ ?_ (fun hHeld=>?_)
      ·
       exact trivial
      clear hK K
      try simp only [put_y,put_z]
      refine wpAnyH_done (by kernel_rfl) ?_ _
      go_wp2_with fail
      go_meet
      case rel=>exact ⟨A8,c8,cd,y',HS,HG2,HL2,HRS⟩
     ·
      skip;go_simp;refine (rCond_c hL HS.out.loc.rd HG.out HL.out).mono ?_;rintro e wc6 ⟨cd,y',rfl,hy',hg',hl',ho',hu',hres⟩;have HS:=Lib.hid (HS.out.call hy' ho' hu');have HG2:=Lib.hid hg';have HL2:Hid (y'.left=false):=hl'.trans HL.out;have HRS:=Lib.hid hres;clear hy' hg' ho' hu' hres hl'
      go_wp2_with fail
      refine hK.out _ _ ?_ (fun hHeld=>?_)
      ·
       exact trivial
      clear hK K
      try simp only [put_y,put_z]
      have hbk:=HS.out.rl;unfold rlCells at hbk;have k11:=hbk.cell 11
      refine wpAnyH_takeM (fun w'=>w'.cell? ⟨w8.heap.size,11,none⟩=some (.slice CA cs.length cc)) (calm_cell _ _) [5,6,7] (i:=1) (v:=?_) rfl (by kernel_rfl) (by kernel_rfl) (by kernel_rfl) (by kernel_rfl) (fun _ _ _ h=>h) (Or.inl ⟨by rfl,?_⟩) (k11) (by assumption) ?_
      rotate_left
      ·
       intro w hSw;(try dsimp only at hSw);go_simp;try with_reducible rfl
      try simp only [put_y,put_z]
      clear hbk k11;refine wpAnyH_ready (rs:=[4]) (by kernel_rfl) (by simp) ?_;refine AllReadyH.cons rfl (fun K hK=>?_) AllReadyH.nil;go_simp;have HS:=Lib.hid (HS.out.non (Upd.refl.alloc (.cells #[.int .i64 cd.kind,.int .i64 cd.a,.int .i64 cd.b,.int .i64 cd.n] 69) (S:=Non)));refine hK.out _ _ ?_ (fun hHeld=>?_)
      ·
       exact trivial
      clear hK K
      try simp only [put_y,put_z]
      refine wpAnyH_ready (rs:=[5]) (by kernel_rfl) (by simp) ?_;refine AllReadyH.cons rfl (fun K hK=>?_) AllReadyH.nil;have hko:=HS.out.cds;unfold CdO at hko;refine step_app rfl rfl T_conds rfl hko rfl (Sl.new _ _ _) rfl (by simp [Value.oneCell']) (by simp only [maxLen];omega) (by omega) ?_;intro A8 c8 w8' ho8 hu8 hat8;have hcd:=CdO.of rfl ho8
      have hbk:=HS.out.rl.upd hu8 HS.out.ncd.2.2.2;unfold rlCells at hbk;have k11:=hbk.cell 11;have kf:=hbk.frozen;clear hko ho8;refine hK.out _ _ ?_ (fun hHeld=>?_)
      ·
       exact trivial
      clear hK K
      try simp only [put_y,put_z]
      refine wpT 6 ?_
      try simp only [put_y,put_z]
      refine wpAnyH_ready (rs:=[7]) (by kernel_rfl) (by simp) ?_;refine AllReadyH.cons rfl (fun K hK=>?_) AllReadyH.nil;go_simp;have hb9:=hbk.set_ 11 (.slice A8 (cs++[cd]).length c8);obtain ⟨w9,Hw9⟩:=nm (w8'.setCell ⟨w8.heap.size,11,none⟩ (.slice A8 (cs++[cd]).length c8));have e9:=Hw9.out;rw [e9] at hb9;rw [List.length_append,List.length_singleton] at e9;rw [e9]
      have u9:Upd (·=w8.heap.size) w8' w9:=by rw [←Hw9.out];exact updCell _ _ _ _
      have HS:=Lib.hid (HS.out.app hu8 hcd hat8 u9 (by simpa [rlCells] using hb9));clear hbk k11 kf hcd hu8 hat8 hb9 u9 Hw9 e9;refine hK.out _ _ ?_ (fun hHeld=>?_)
      ·
       exact trivial
      clear hK K
      try simp only [put_y,put_z]
      refine wpAnyH_done (by kernel_rfl) ?_ _
      go_wp2_with fail
      go_meet
      case rel=>exact ⟨A8,c8,cd,y',HS,HG2,HL2,HRS⟩
    case rest =>
     obtain ⟨CB,cb,cd,y6,HS,HG,HL,HRS⟩:=hcut
     have HC:Hid (CdL T fin y5 y6 (cs++[cd]) (T.length+1)):=by
      show CdL T fin y5 y6 (cs++[cd]) (T.length+1);rw [Hcs.out];have h2:=HRS.out;rw [Hyy.out] at h2;exact CdL.first HTK.out H05.out h2
     have hcb:(cs++[cd]).length+(T.length+1)≤T.length+2:=by rw [Hcs.out];simp;omega
     clear Hyy Hcs HRS hcl HTK H05
     go_wp2_with fail
     go_loopg [] (T.length+1) (fun g wr=>∃(fu:Nat) (CB:Option Addr) (cb:Nat) (cs:List Cd) (y:St),Hid (g=fu)∧Hid (ItS w wr p A c L x y w6.heap.size w8.heap.size ts tp ⟨kstr ts,q1,q2,cs,0,0⟩ ⟨KA1,kc1,KA2,kc2,CB,cb⟩)∧Hid (Good T y)∧Hid (y.left=false)∧Hid (CdL T fin y5 y cs fu)∧cs.length+fu≤T.length+2)
     case atStart=>exact ⟨_,CB,cb,cs++[cd],y6,rfl,HS,HG,HL,HC,hcb⟩
     case round =>
      clear HS HG HL HC hcb;obtain ⟨fu,CA,cc,cs,y,Hfu,HS,HG,HL,HC,hcb⟩:=hrel
      have hyl:y.i<L.length:=by have:=hL.lt;have:=HG.out.1;omega
      have CI:=Lib.hid (rIs_c HS.out.loc.rd hyl [44]);rw [hL.tk HG.out.1] at CI;obtain ⟨z,Hz3⟩:=nm (y.why==0&&decide (tkF T y.i=some [44]));rw [Hz3.out] at CI
      go_wp2_with fail
      refine CI.out.mono ?_;rintro e wi ⟨rfl,hui⟩;have HSi:=Lib.hid (HS.out.non hui);clear HS CI hui
      cases z with
      | false =>
       go_wp2_with fail
       go_meet
       case rel=>exact ⟨CA,cc,cs,y,HSi,HG,CdL.done HC.out Hz3.out⟩
      | true =>
       have hz2:=Hz3.out;simp only [Bool.and_eq_true,beq_iff_eq,decide_eq_true_eq] at hz2;have H05:Hid (y.why=0):=hz2.1;have HTK:Hid (tkF T y.i=some [44]):=hz2.2;have hiT:=tkF_lt hz2.2;obtain ⟨c0,c1,c2,c3,c4,c5,c6⟩:=HSi.out.loc.rd.cells;have cf:=HSi.out.loc.rd.blk.frozen;have hs18:=HSi.out.setI (y.i+1)
       have hg18:Good T { y with i:=y.i+1 }:=⟨hiT,fun _=>by have:=HG.out.2 hz2.1;exact ⟨Nat.le_succ_of_le this.1,Nat.le_succ_of_le this.2⟩⟩;have HIT:=Lib.hid hiT;obtain ⟨i,Hi⟩:=nm y.i;rw [Hi.out] at c1 hiT hs18;rw [show (.int .i64 ((i+1:Nat):Int):Value)=.int .i64 ((i:Int)+1) from rfl] at hs18
       obtain ⟨W18,HW18⟩:=nm (wi.setCell ⟨p,1,none⟩ (.int .i64 ((i:Int)+1)));have e18:=HW18.out;rw [e18,←Hi.out] at hs18
       obtain ⟨yy,Hyy,HS,HG,HL⟩:∃(yy:St),Hid (yy={ y with i:=y.i+1 })∧Hid (ItS w W18 p A c L x yy w6.heap.size w8.heap.size ts tp ⟨kstr ts,q1,q2,cs,0,0⟩ ⟨KA1,kc1,KA2,kc2,CA,cc⟩)∧Hid (Good T yy)∧Hid (yy.left=false):=⟨_,rfl,hs18,hg18,HL.out⟩
       have hcl:cs.length≤100002:=by omega
       clear hz2 c0 c2 c3 c4 c5 c6 hs18 hg18 HSi
       go_upto_region 23 with fail
       clear c1 cf e18 HW18;obtain ⟨wD,HwD⟩:=nm W18.drew
       have uD:Upd Non W18 wD:=by rw [←HwD.out];exact Upd.refl.drew
       have HS:=Lib.hid (HS.out.non uD);refine wp_region_held_drew (S:=fun _=>True) (by kernel_rfl) trivial (fun hHeld=>?_);rw [HwD.out];clear uD;refine wpT 0 ?_
       try simp only [put_y,put_z]
       refine wpT 2 ?_
       try simp only [put_y,put_z]
       refine wpAnyH_ready (rs:=[1,3]) (by kernel_rfl) (by simp) ?_;refine AllReadyH.cons rfl (fun K hK=>?_) (AllReadyH.cons rfl (fun K hK=>?_) AllReadyH.nil)
       ·
        skip;have hbk:=HS.out.rl;unfold rlCells at hbk;have k11:=hbk.cell 11;go_simp;refine hK.out _ _ ?_ (fun hHeld=>?_)
        ·
         exact trivial
        clear hK K
        try simp only [put_y,put_z]
        clear hbk k11;refine wpAnyH_ready (rs:=[3]) (by kernel_rfl) (by simp) ?_;refine AllReadyH.cons rfl (fun K hK=>?_) AllReadyH.nil;go_simp;refine (rCond_c hL HS.out.loc.rd HG.out HL.out).mono ?_;rintro e wc6 ⟨cd,y',rfl,hy',hg',hl',ho',hu',hres⟩;have HS:=Lib.hid (HS.out.call hy' ho' hu');have HG2:=Lib.hid hg';have HL2:Hid (y'.left=false):=hl'.trans HL.out
        have HRS:=Lib.hid hres;clear hy' hg' ho' hu' hres hl'
        go_wp2_with fail
        refine hK.out _ _ ?_ (fun hHeld=>?_)
        ·
         exact trivial
        clear hK K
        try simp only [put_y,put_z]
        refine wpAnyH_ready (rs:=[4]) (by kernel_rfl) (by simp) ?_;refine AllReadyH.cons rfl (fun K hK=>?_) AllReadyH.nil;go_simp;have HS:=Lib.hid (HS.out.non (Upd.refl.alloc (.cells #[.int .i64 cd.kind,.int .i64 cd.a,.int .i64 cd.b,.int .i64 cd.n] 69) (S:=Non)));refine hK.out _ _ ?_ (fun hHeld=>?_)
        ·
         exact trivial
        clear hK K
        try simp only [put_y,put_z]
        refine wpAnyH_ready (rs:=[5]) (by kernel_rfl) (by simp) ?_;refine AllReadyH.cons rfl (fun K hK=>?_) AllReadyH.nil;have hko:=HS.out.cds;unfold CdO at hko;refine step_app rfl rfl T_conds rfl hko rfl (Sl.new _ _ _) rfl (by simp [Value.oneCell']) (by simp only [maxLen];omega) (by omega) ?_;intro A8 c8 w8' ho8 hu8 hat8;have hcd:=CdO.of rfl ho8
        have hbk:=HS.out.rl.upd hu8 HS.out.ncd.2.2.2;unfold rlCells at hbk;have k11:=hbk.cell 11;have kf:=hbk.frozen;clear hko ho8;refine hK.out _ _ ?_ (fun hHeld=>?_)
        ·
         exact trivial
        clear hK K
        try simp only [put_y,put_z]
        refine wpT 6 ?_
        try simp only [put_y,put_z]
        refine wpAnyH_ready (rs:=[7]) (by kernel_rfl) (by simp) ?_;refine AllReadyH.cons rfl (fun K hK=>?_) AllReadyH.nil;go_simp;have hb9:=hbk.set_ 11 (.slice A8 (cs++[cd]).length c8);obtain ⟨w9,Hw9⟩:=nm (w8'.setCell ⟨w8.heap.size,11,none⟩ (.slice A8 (cs++[cd]).length c8));have e9:=Hw9.out;rw [e9] at hb9;rw [List.length_append,List.length_singleton] at e9;rw [e9]
        have u9:Upd (·=w8.heap.size) w8' w9:=by rw [←Hw9.out];exact updCell _ _ _ _
        have HS:=Lib.hid (HS.out.app hu8 hcd hat8 u9 (by simpa [rlCells] using hb9));clear hbk k11 kf hcd hu8 hat8 hb9 u9 Hw9 e9;refine hK.out _ _ ?_ (fun hHeld=>?_)
        ·
         exact trivial
        clear hK K
        try simp only [put_y,put_z]
        refine wpAnyH_done (by kernel_rfl) ?_ _
        have HM:Hid (0<fu∧CdL T fin y5 y' (cs++[cd]) (fu - 1)):=by
         have h2:=HRS.out;rw [Hyy.out] at h2;exact CdL.more HC.out HTK.out H05.out HIT.out h2
        have hg0:=HM.out.1;have HC2:Hid (CdL T fin y5 y' (cs++[cd]) (fu - 1)):=HM.out.2;clear HM HRS Hyy HC HTK H05
        go_wp2_with fail
        go_roundg (fu - 1)
        case measure=>rw [Hfu.out];omega
        case rel=>exact ⟨fu - 1,A8,c8,cs++[cd],y',rfl,HS,HG2,HL2,HC2,by rw [List.length_append,List.length_singleton];omega⟩
       ·
        skip;go_simp;refine (rCond_c hL HS.out.loc.rd HG.out HL.out).mono ?_;rintro e wc6 ⟨cd,y',rfl,hy',hg',hl',ho',hu',hres⟩;have HS:=Lib.hid (HS.out.call hy' ho' hu');have HG2:=Lib.hid hg';have HL2:Hid (y'.left=false):=hl'.trans HL.out;have HRS:=Lib.hid hres;clear hy' hg' ho' hu' hres hl'
        go_wp2_with fail
        refine hK.out _ _ ?_ (fun hHeld=>?_)
        ·
         exact trivial
        clear hK K
        try simp only [put_y,put_z]
        have hbk:=HS.out.rl;unfold rlCells at hbk;have k11:=hbk.cell 11
        refine wpAnyH_takeM (fun w'=>w'.cell? ⟨w8.heap.size,11,none⟩=some (.slice CA cs.length cc)) (calm_cell _ _) [5,6,7] (i:=1) (v:=?_) rfl (by kernel_rfl) (by kernel_rfl) (by kernel_rfl) (by kernel_rfl) (fun _ _ _ h=>h) (Or.inl ⟨by rfl,?_⟩) (k11) (by assumption) ?_
        rotate_left
        ·
         intro w hSw;(try dsimp only at hSw);go_simp;try with_reducible rfl
        try simp only [put_y,put_z]
        clear hbk k11;refine wpAnyH_ready (rs:=[4]) (by kernel_rfl) (by simp) ?_;refine AllReadyH.cons rfl (fun K hK=>?_) AllReadyH.nil;go_simp;have HS:=Lib.hid (HS.out.non (Upd.refl.alloc (.cells #[.int .i64 cd.kind,.int .i64 cd.a,.int .i64 cd.b,.int .i64 cd.n] 69) (S:=Non)));refine hK.out _ _ ?_ (fun hHeld=>?_)
        ·
         exact trivial
        clear hK K
        try simp only [put_y,put_z]
        refine wpAnyH_ready (rs:=[5]) (by kernel_rfl) (by simp) ?_;refine AllReadyH.cons rfl (fun K hK=>?_) AllReadyH.nil;have hko:=HS.out.cds;unfold CdO at hko;refine step_app rfl rfl T_conds rfl hko rfl (Sl.new _ _ _) rfl (by simp [Value.oneCell']) (by simp only [maxLen];omega) (by omega) ?_;intro A8 c8 w8' ho8 hu8 hat8;have hcd:=CdO.of rfl ho8
        have hbk:=HS.out.rl.upd hu8 HS.out.ncd.2.2.2;unfold rlCells at hbk;have k11:=hbk.cell 11;have kf:=hbk.frozen;clear hko ho8;refine hK.out _ _ ?_ (fun hHeld=>?_)
        ·
         exact trivial
        clear hK K
        try simp only [put_y,put_z]
        refine wpT 6 ?_
        try simp only [put_y,put_z]
        refine wpAnyH_ready (rs:=[7]) (by kernel_rfl) (by simp) ?_;refine AllReadyH.cons rfl (fun K hK=>?_) AllReadyH.nil;go_simp;have hb9:=hbk.set_ 11 (.slice A8 (cs++[cd]).length c8);obtain ⟨w9,Hw9⟩:=nm (w8'.setCell ⟨w8.heap.size,11,none⟩ (.slice A8 (cs++[cd]).length c8));have e9:=Hw9.out;rw [e9] at hb9;rw [List.length_append,List.length_singleton] at e9;rw [e9]
        have u9:Upd (·=w8.heap.size) w8' w9:=by rw [←Hw9.out];exact updCell _ _ _ _
        have HS:=Lib.hid (HS.out.app hu8 hcd hat8 u9 (by simpa [rlCells] using hb9));clear hbk k11 kf hcd hu8 hat8 hb9 u9 Hw9 e9;refine hK.out _ _ ?_ (fun hHeld=>?_)
        ·
         exact trivial
        clear hK K
        try simp only [put_y,put_z]
        refine wpAnyH_done (by kernel_rfl) ?_ _
        have HM:Hid (0<fu∧CdL T fin y5 y' (cs++[cd]) (fu - 1)):=by
         have h2:=HRS.out;rw [Hyy.out] at h2;exact CdL.more HC.out HTK.out H05.out HIT.out h2
        have hg0:=HM.out.1;have HC2:Hid (CdL T fin y5 y' (cs++[cd]) (fu - 1)):=HM.out.2;clear HM HRS Hyy HC HTK H05
        go_wp2_with fail
        go_roundg (fu - 1)
        case measure=>rw [Hfu.out];omega
        case rel=>exact ⟨fu - 1,A8,c8,cs++[cd],y',rfl,HS,HG2,HL2,HC2,by rw [List.length_append,List.length_singleton];omega⟩
  case rest =>
   clear HG7 HL7 HS17;obtain ⟨CA,cc,cs,y6,HS,HG,HR6⟩:=hcut
   have hyl:y6.i<L.length:=by have:=hL.lt;have:=HG.out.1;omega
   have CE:=Lib.hid (rExpect_c HS.out.loc.rd hyl hLl [59])
   go_wp2_with fail
   refine CE.out.mono ?_;rintro e w19 ⟨rfl,hy19,hu19⟩;have HS19:=Lib.hid (HS.out.exp hy19 hu19);have hg19:Good T (y6.exp L [59]):=exp_good hL HG.out;have HGE:=Lib.hid hg19;clear CE hy19 hu19 hg19 HS
   go_upto_region 25 with fail
   obtain ⟨wD,HwD⟩:=nm w19.drew
   have uD:Upd Non w19 wD:=by rw [←HwD.out];exact Upd.refl.drew
   have HS:=Lib.hid (HS19.out.non uD);clear HS19 uD;obtain ⟨vn,Hvn⟩:=nm (y6.exp L [59]).vs.length;obtain ⟨mn,Hmn⟩:=nm (y6.exp L [59]).ms.length;have hcs:=HS.out.loc.rd.cells;rw [Hvn.out,Hmn.out] at hcs
   refine wp_region_held_drew (S:=fun w'=>w'.cell? ⟨p,4,none⟩=some (.slice (y6.exp L [59]).va vn (y6.exp L [59]).vc)∧w'.cell? ⟨p,5,none⟩=some (.slice (y6.exp L [59]).ma mn (y6.exp L [59]).mc)) (by kernel_rfl) (by rw [HwD.out];exact ⟨hcs.2.2.2.2.1,hcs.2.2.2.2.2.1⟩) (fun hHeld=>?_)
   rw [HwD.out] at hHeld ⊢;clear hcs;refine wpT 0 ?_
   try simp only [put_y,put_z]
   refine wpT 1 ?_
   try simp only [put_y,put_z]
   refine wpT 2 ?_
   try simp only [put_y,put_z]
   refine wpT 3 ?_
   try simp only [put_y,put_z]
   refine wpT 4 ?_
   try simp only [put_y,put_z]
   refine wpT 5 ?_
   try simp only [put_y,put_z]
   refine wpT 6 ?_
   try simp only [put_y,put_z]
   refine wpT 7 ?_
   try simp only [put_y,put_z]
   refine wpT 8 ?_
   try simp only [put_y,put_z]
   refine wpT 9 ?_
   try simp only [put_y,put_z]
   refine wpT 10 ?_
   try simp only [put_y,put_z]
   have hbk:=HS.out.rl;unfold rlCells at hbk;have k12:=hbk.cell 12;have kf:=hbk.frozen;refine wpAnyH_ready (rs:=[11]) (by kernel_rfl) (by simp) ?_;refine AllReadyH.cons rfl (fun K hK=>?_) AllReadyH.nil;go_simp;obtain ⟨W20,HW20⟩:=nm (wD.setCell ⟨w8.heap.size,12,none⟩ (.int .i64 (vn:Nat)));rw [HW20.out]
   have u20:Upd (·=w8.heap.size) wD W20:=by rw [←HW20.out];exact updCell _ _ _ _
   have b20:Blk W20 w8.heap.size 43 (rlCells ⟨kstr ts,q1,q2,cs,vn,0⟩ ⟨KA1,kc1,KA2,kc2,CA,cc⟩):=by
    have:=hbk.set_ 12 (.int .i64 (vn:Nat));rw [HW20.out] at this
    simpa [rlCells] using this
   have HS20:=Lib.hid (HS.out.rule u20 b20 rfl rfl rfl HS.out.kl HS.out.kr);have hcs:=HS20.out.loc.rd.cells;rw [Hvn.out,Hmn.out] at hcs;refine hK.out _ _ ?_ (fun hHeld=>?_)
   ·
    exact ⟨hcs.2.2.2.2.1,hcs.2.2.2.2.2.1⟩
   clear hK K
   try simp only [put_y,put_z]
   clear hcs hbk k12 kf u20 b20 HS HW20;refine wpT 12 ?_
   try simp only [put_y,put_z]
   have hbk:=HS20.out.rl;unfold rlCells at hbk;have k13:=hbk.cell 13;have kf:=hbk.frozen;refine wpAnyH_ready (rs:=[13]) (by kernel_rfl) (by simp) ?_;refine AllReadyH.cons rfl (fun K hK=>?_) AllReadyH.nil;go_simp;obtain ⟨W21,HW21⟩:=nm (W20.setCell ⟨w8.heap.size,13,none⟩ (.int .i64 (mn:Nat)));rw [HW21.out]
   have u21:Upd (·=w8.heap.size) W20 W21:=by rw [←HW21.out];exact updCell _ _ _ _
   have b21:Blk W21 w8.heap.size 43 (rlCells ⟨kstr ts,q1,q2,cs,vn,mn⟩ ⟨KA1,kc1,KA2,kc2,CA,cc⟩):=by
    have:=hbk.set_ 13 (.int .i64 (mn:Nat));rw [HW21.out] at this
    simpa [rlCells] using this
   have HS21:=Lib.hid (HS20.out.rule u21 b21 rfl rfl rfl HS20.out.kl HS20.out.kr);have hcs:=HS21.out.loc.rd.cells;rw [Hvn.out,Hmn.out] at hcs;refine hK.out _ _ ?_ (fun hHeld=>?_)
   ·
    exact ⟨hcs.2.2.2.2.1,hcs.2.2.2.2.2.1⟩
   clear hK K
   try simp only [put_y,put_z]
   clear hcs hbk k13 kf u21 b21 HS20 HW21;refine wpAnyH_done (by kernel_rfl) ?_ _
   go_upto_region 26 with fail
   obtain ⟨wE,HwE⟩:=nm W21.drew
   have uE:Upd Non W21 wE:=by rw [←HwE.out];exact Upd.refl.drew
   have HS:=Lib.hid (HS21.out.non uE);clear HS21 uE
   refine wp_region_held_drew (S:=fun w'=>w'.cell? ⟨w8.heap.size,0,none⟩=some (.string (kstr ts))∧w'.cell? ⟨w8.heap.size,1,none⟩=some (.int .i64 q1.v)∧w'.cell? ⟨w8.heap.size,2,none⟩=some (.int .i64 q1.op)∧w'.cell? ⟨w8.heap.size,3,none⟩=some (.int .i64 q1.imm)∧w'.cell? ⟨w8.heap.size,4,none⟩=some (.int .i64 q1.iv)∧w'.cell? ⟨w8.heap.size,5,none⟩=some (.slice KA1 q1.kids.length kc1)∧w'.cell? ⟨w8.heap.size,6,none⟩=some (.int .i64 q2.v)∧w'.cell? ⟨w8.heap.size,7,none⟩=some (.int .i64 q2.op)∧w'.cell? ⟨w8.heap.size,8,none⟩=some (.int .i64 q2.imm)∧w'.cell? ⟨w8.heap.size,9,none⟩=some (.int .i64 q2.iv)∧w'.cell? ⟨w8.heap.size,10,none⟩=some (.slice KA2 q2.kids.length kc2)∧w'.cell? ⟨w8.heap.size,11,none⟩=some (.slice CA cs.length cc)∧w'.cell? ⟨w8.heap.size,12,none⟩=some (.int .i64 (vn:Nat))∧w'.cell? ⟨w8.heap.size,13,none⟩=some (.int .i64 (mn:Nat))∧w'.cell? ⟨w6.heap.size,0,none⟩=some (.string (kstr ts))∧w'.cell? ⟨w6.heap.size,1,none⟩=some (.int .i64 (tp:Nat))∧w'.cell? ⟨w6.heap.size,2,none⟩=some (.bool false)) (by kernel_rfl) (by rw [HwE.out];exact rt_cells HS.out.rl HS.out.tk) (fun hHeld=>?_)
   rw [HwE.out] at hHeld ⊢;refine wpT 0 ?_
   try simp only [put_y,put_z]
   refine wpT 1 ?_
   try simp only [put_y,put_z]
   have b0:=HS.out.res;unfold z14 at b0;have z0:=b0.cell 0;have z1:=b0.cell 1;have z2:=b0.cell 2;have z3:=b0.cell 3;have z4:=b0.cell 4;have z5:=b0.cell 5;have z6:=b0.cell 6;have z7:=b0.cell 7;have z8:=b0.cell 8;have z9:=b0.cell 9;have z10:=b0.cell 10;have z11:=b0.cell 11;have z12:=b0.cell 12;have z13:=b0.cell 13;have zf:=b0.frozen
   refine wpAnyH_ready (rs:=[2]) (by kernel_rfl) (by simp) ?_;refine AllReadyH.cons rfl (fun K hK=>?_) AllReadyH.nil;go_simp;rw [set14_eq]
   obtain ⟨W22,HW22⟩:=nm (set14 wE w.heap.size (.string (kstr ts)) (.int .i64 q1.v) (.int .i64 q1.op) (.int .i64 q1.imm) (.int .i64 q1.iv) (.slice KA1 q1.kids.length kc1) (.int .i64 q2.v) (.int .i64 q2.op) (.int .i64 q2.imm) (.int .i64 q2.iv) (.slice KA2 q2.kids.length kc2) (.slice CA cs.length cc) (.int .i64 (vn:Nat)) (.int .i64 (mn:Nat)))
   rw [HW22.out]
   have u22:Upd (·=w.heap.size) wE W22:=by rw [←HW22.out];exact set14_upd _ _ _ _ _ _ _ _ _ _ _ _ _ _ _ _
   have hb22:Blk W22 w.heap.size 43 (rlCells ⟨kstr ts,q1,q2,cs,vn,mn⟩ ⟨KA1,kc1,KA2,kc2,CA,cc⟩):=by rw [←HW22.out];exact set14_blk b0 _ _ _ _ _ _ _ _ _ _ _ _ _ _
   have HK22:=Lib.hid (HS.out.tkr.upd u22 (by omega));have U22:Upd (P2 w.heap.size) wE W22:=u22.mono (fun _ _ e=>.inl e);have HF:=HS.out.fin U22;refine hK.out _ _ ?_ (fun hHeld=>?_)
   ·
    exact rt_cells HF.2.2.2 HF.2.2.1
   clear hK K
   try simp only [put_y,put_z]
   have HB22:=Lib.hid hb22;clear b0 zf z0 z1 z2 z3 z4 z5 z6 z7 z8 z9 z10 z11 z12 z13 hb22 HW22 HF;have b0:=HK22.out;unfold z3 at b0;have y0_:=b0.cell 0;have y1_:=b0.cell 1;have y2_:=b0.cell 2;have yf:=b0.frozen;refine wpAnyH_ready (rs:=[3]) (by kernel_rfl) (by simp) ?_;refine AllReadyH.cons rfl (fun K hK=>?_) AllReadyH.nil;go_simp;rw [set3_eq]
   obtain ⟨W23,HW23⟩:=nm (set3 W22 (w.heap.size+1) (.string (kstr ts)) (.int .i64 (tp:Nat)) (.bool false));rw [HW23.out]
   have u23:Upd (·=w.heap.size+1) W22 W23:=by rw [←HW23.out];exact set3_upd _ _ _ _ _
   have hb23:Blk W23 (w.heap.size+1) 62 #[.string (kstr ts),.int .i64 tp,.bool false]:=by rw [←HW23.out];exact set3_blk b0 _ _ _
   have HB23:=Lib.hid (HB22.out.upd u23 (by omega));have HK23:=Lib.hid hb23;have HF:=HS.out.fin (U22.trans (u23.mono (T:=P2 w.heap.size) (fun _ _ e=>.inr e)) (fun _ _ q=>q));refine hK.out _ _ ?_ (fun hHeld=>?_)
   ·
    exact rt_cells HF.2.2.2 HF.2.2.1
   clear hK K
   try simp only [put_y,put_z]
   have HFF:=Lib.hid HF;clear b0 yf y0_ y1_ y2_ hb23 HW23 HF HB22 HK22;refine wpAnyH_ready (rs:=[4]) (by kernel_rfl) (by simp) ?_;refine AllReadyH.cons rfl (fun K hK=>?_) AllReadyH.nil;go_simp;refine hK.out _ _ ?_ (fun hHeld=>?_)
   ·
    exact rt_cells HFF.out.2.2.2 HFF.out.2.2.1
   clear hK K
   try simp only [put_y,put_z]
   refine wpAnyH_done (by kernel_rfl) ?_ _
   go_wp2_with fail
   refine bodyPost_ret (results_cell_cell_tmp rfl _ _ w.heap.size 43 _ (0,0) _ (w.heap.size+1) 62 _ (0,0) _ rfl HB23.out Tryz.underlying43 rfl (by kernel_rfl) rfl HK23.out Tryz.underlying62 rfl (by kernel_rfl)) rfl ?_
   rw [←Hr.out]
   refine ⟨⟨kstr ts,q1,q2,cs,vn,mn⟩,⟨KA1,kc1,KA2,kc2,CA,cc⟩,ts,tp,true,y6.exp L [59],rfl,HFF.out.2.1,HFF.out.1.rd,HGE.out,HFF.out.1.own,HFF.out.1.upd,?_⟩
   have hru:=rule_fin hL (fun e he=>ifF_err he) HR1.out HG1.out HR3.out HG4.out HR5.out HR6.out HG.out;rw [Hvn.out,Hmn.out] at hru;rw [←Hy0.out] at hru;have h1:=HR1.out;rw [←Hy0.out] at h1;exact item_ru hL HX.out Hz.out h1 (by rw [Hy0.out];exact HTP.out) hru
set_option maxRecDepth 100000 in
set_option maxHeartbeats 4000000 in
theorem rParse_c (ax:Bs→Option Rl) (hax:∀s r,ax s=some r→RlSz r) (s:ByteArray)
  (HAX:Hid ((∃i,tkF (goodT (toksF (kx s))) i=some [97,120,105,111,109])→∀(q:Bs) (w:World),Calls Tryz.prog 18 #[.string (kstr q)] w (AxP ax q w))) (w:World) :
  Calls Tryz.prog 10 #[.string s] w (ParseP (parseG ax (kx s)) w):=by
 have HP:Hid (parseG ax (kx s)=if 20000<(kx s).length then .error (6,20000) else loopF (goodT (toksF (kx s))) (finT (toksF (kx s))) ax (kx s).length ((kx s).length+1) ⟨0,[],[]⟩ []):=rfl
 obtain ⟨R,HR⟩:=nm (parseG ax (kx s));rw [HR.out] at HP ⊢;obtain ⟨n,Hn⟩:=nm s.size;have hn:=Hn.out
 have hkn:(kx s).length=n:=by rw [kx_len,hn]
 rw [hkn] at HP;have hx0:Upd Non w (w.alloc (.cells #[.int .i64 0,.int .i64 0] 31)):=Upd.refl.alloc _;have hb0:Blk (w.alloc (.cells #[.int .i64 0,.int .i64 0] 31)) w.heap.size 31 #[.int .i64 0,.int .i64 0]:=Blk.new _ _ _
 by_cases hbig:20000<n
 ·
  have t0:decide ((20000:Int)<(n:Int))=true:=decide_eq_true (by omega)
  have HE:Hid (R=.error (6,20000)):=by show _=_;rw [HP.out,if_pos hbig]
  clear hbig hkn;go_enter Tryz.func10,Tryz.ntmps10
  go_wp2_with fail
  refine bodyPost_ret (results_tmp_cell rfl _ _ w.heap.size 31 _ (0,0) _ rfl (Blk.new _ _ _) Tryz.underlying31 rfl (by kernel_rfl)) rfl ?_;exact ⟨Upd.refl.alloc _,.inl ⟨_,HE.out,rfl⟩⟩
 ·
  have t0:decide ((20000:Int)<(n:Int))=false:=decide_eq_false (by omega)
  have HE:Hid (R=loopF (goodT (toksF (kx s))) (finT (toksF (kx s))) ax n (n+1) ⟨0,[],[]⟩ []):=by show _=_;rw [HP.out,if_neg hbig]
  have hn2:n≤20000:=by omega
  obtain ⟨W1,HW1⟩:=nm (w.alloc (.cells #[.int .i64 0,.int .i64 0] 31));have CT:=Lib.hid (rTokenize_c s W1 (by omega));have e1:=HW1.out;rw [e1] at hx0 hb0
  have s1:W1.heap.size=w.heap.size+1:=by rw [←e1];simp
  have HB1:=Lib.hid hb0;have HU1:=Lib.hid hx0
  have hkl:(kx s).length≤20000:=by omega
  obtain ⟨LT,HLT⟩:=nm (toksF (kx s))
  have HLK:Hid (LT.length≤n+1→LOk LT (goodT LT) (finT LT)):=fun q=>by
   have:=lok_toks hkl (by rw [HLT.out,hkn];exact q);rw [HLT.out] at this;exact this
  rw [HLT.out] at CT HE HAX;obtain ⟨T,HT⟩:=nm (goodT LT);obtain ⟨fin,HF⟩:=nm (finT LT);rw [HT.out] at HE HAX HLK;rw [HF.out] at HE HLK;clear hbig hkn hx0 hb0 HP hkl;go_enter Tryz.func10,Tryz.ntmps10
  go_wp2_with fail
  refine CT.out.mono ?_;rintro e w2 ⟨A,c,rfl,hto,hat,hlen,hu2⟩;rw [hn] at hlen;have hLK:=HLK.out hlen;obtain ⟨W3,HW3⟩:=nm (w2.alloc (.cells #[.slice A LT.length c,.int .i64 0,.int .i64 0,.int .i64 0,.slice none 0 0,.slice none 0 0,.bool false] 59));have hp2:w2.heap.size=w2.heap.size:=rfl
  have u3:Upd Non w2 W3:=by rw [←HW3.out];exact Upd.refl.alloc _
  have b3:Blk W3 w2.heap.size 59 #[.slice A LT.length c,.int .i64 0,.int .i64 0,.int .i64 0,.slice none 0 0,.slice none 0 0,.bool false]:=by rw [←HW3.out];exact Blk.new _ _ _
  have s3:W3.heap.size=w2.heap.size+1:=by rw [←HW3.out];simp
  have hs2:=hu2.size;obtain ⟨W4,HW4⟩:=nm (W3.alloc (.map #[] 0))
  have u4:Upd Non W3 W4:=by rw [←HW4.out];exact Upd.refl.alloc _
  have HS:Hid (PaS w W4 w2.heap.size (w2.heap.size+1) A c LT ⟨0,0,0,none,0,[],none,0,[],false⟩ none 0 []):=by
   have hr3:RdS W3 w2.heap.size A c LT ⟨0,0,0,none,0,[],none,0,[],false⟩:=⟨b3,(hto.view.upd u3 (fun _ _ _ f=>f)).mono (fun k hk q=>Own.lt hto q),Own.le hto,Own.none_,Own.none_,fun k q=>(At.none_ q).elim,fun k q=>(At.none_ q).elim,fun k q=>(At.none_ q).elim⟩
   refine ⟨hr3.non u4,((HB1.out.upd hu2 (fun f=>f)).upd u3 (fun f=>f)).upd u4 (fun f=>f),RlO.none_,?_,fun k q=>?_,fun k q=>(At.none_ q).elim,by omega,((HU1.out.then_non hu2).then_non u3).then_non u4⟩
   ·
    rw [nmV_nil,←HW4.out,←s3];exact SMap.new W3
   ·
    rcases q with q | q | q
    ·
     omega
    ·
     exact (At.none_ q).elim
    ·
     exact (At.none_ q).elim
  have HG:Hid (Good T ⟨0,0,0,none,0,[],none,0,[],false⟩):=⟨Nat.zero_le _,fun _=>⟨Nat.le_refl _,Nat.le_refl _⟩⟩
  have HL:Hid (LpR T fin ax n R ⟨0,0,0,none,0,[],none,0,[],false⟩ [] (n+1)):=⟨fun _=>⟨by have:=hLK.lt;show T.length<n+1+0;omega,Nat.zero_le _,HE.out.symm⟩,fun q=>absurd rfl q⟩
  have HLT:Hid (LOk LT T fin):=hLK;have hmm:=@run_makeMap Tryz.prog;clear b3 u3 u4 hs2 hu2 hat hto HW1 HB1 HU1 HE HLK e1 hLK hp2
  go_wp2_with fail
  rw [HW3.out,HW4.out];clear hmm
  go_loopg [5,7,8,9,43,47,54,62,71] (n+1) (fun g o _ _ _ _ _ _ _ _ wr=>∃(fu:Nat) (y:St) (OA:Option Addr) (oc:Nat) (Q:List Rl),Hid (g=fu)∧o=.slice OA Q.length oc∧Hid (PaS w wr w2.heap.size (w2.heap.size+1) A c LT y OA oc Q)∧Hid (Good T y)∧Hid (LpR T fin ax n R y Q fu)∧Q.length≤161)
  case atStart=>exact ⟨_,_,none,0,[],rfl,rfl,HS,HG,HL,Nat.zero_le _⟩
  case round =>
   clear HS HG HL;obtain ⟨fu,y,OA,oc,Q,Hfu,rfl,HS,HG,HL,hQl⟩:=hrel
   have hyl:y.i<LT.length:=by have:=HLT.out.lt;have:=HG.out.1;omega
   obtain ⟨D,HD⟩:=nm (y.why==0&&decide (offF T fin y.i<n));have HD0:=HD;rw [←HLT.out.pos HG.out.1,posT_eq hyl] at HD
   go_upto_region 6 with fail
   go_cut [36] (fun s wx=>s=.bool D∧Upd Non wr wx)
   case first =>
    obtain ⟨c0,c1,c2,c3,c4,c5,c6⟩:=HS.out.rd.cells;obtain ⟨b,o,rfl,hF,hb,t0_,t1,t2⟩:=HS.out.rd.tok.at_ hyl;have hle:=HS.out.rd.le;have HH:=Lib.hid HS.out.rd;obtain ⟨ln,Hln⟩:=nm LT.length;rw [Hln.out] at c0 hyl hle;obtain ⟨i,Hi⟩:=nm y.i;rw [Hi.out] at c1 hyl
    have t1':wr.cell? ⟨b,o+i * 3+1,none⟩=some (.int .i64 LT[y.i].pos):=by rw [←Hi.out];exact t1
    generalize LT[y.i].pos=pz at *;obtain ⟨z,Hz⟩:=nm (y.why==0);rw [Hz.out] at HD
    have CO:Hid (∀w',Upd Non wr w'→Calls Tryz.prog 28 #[.pointer (some ⟨w2.heap.size,0,none⟩)] w' fun e w2=>e=.returned (.bool z)∧w2=w'):=fun w' u=>by
     rw [←Hz.out];exact rOk_c (HH.out.non u)
    obtain ⟨dd,Hdd⟩:=nm (decide (pz<n));rw [Hdd.out] at HD
    have hdd:decide ((pz:Int)<(n:Int))=dd:=by rw [←Hdd.out];simp
    clear t0_ t1 t2 c2 c3 c4 c5 c6 HS HG HL CT;obtain ⟨wD,HwD⟩:=nm wr.drew
    have uD:Upd Non wr wD:=by rw [←HwD.out];exact Upd.refl.drew
    refine wp_region_held_drew (S:=fun w'=>Upd Non wr w'∧w'.cell? ⟨w2.heap.size,0,none⟩=some (.slice (some ⟨b,o,none⟩) ln c)∧w'.cell? ⟨w2.heap.size,1,none⟩=some (.int .i64 i)∧w'.cell? ⟨b,o+i * 3+1,none⟩=some (.int .i64 pz)) (by kernel_rfl) (by rw [HwD.out];exact ⟨uD,cell_upd c0 uD (fun f=>f),cell_upd c1 uD (fun f=>f),cell_upd t1' uD (fun f=>f)⟩) (fun hHeld=>?_)
    rw [HwD.out] at hHeld ⊢;refine wpT 0 ?_
    try simp only [put_y,put_z]
    refine wpAnyH_takeC (i:=1) (v:=?v1) rfl (by kernel_rfl) (by kernel_rfl) (by kernel_rfl) (fun _ _ _ h=>h) ⟨by rfl,?f1,?a1,?r1,?c1⟩ (by assumption) ?m1
    case r1=>intro w;go_simp;constructor <;> with_reducible rfl
    case c1=>intro W hSw;refine (CO.out _ hSw.1).mono ?_;rintro e w' ⟨rfl,rfl⟩;constructor <;> with_reducible rfl
    try simp only [put_y,put_z]
    cases z with
    | false =>
     obtain rfl:D=false:=by rw [←HD.out];rfl
     refine wpT 2 ?_
     try simp only [put_y,put_z]
     refine wpU 3 ?_
     try simp only [put_y,put_z]
     refine wpU 4 ?_
     try simp only [put_y,put_z]
     refine wpU 5 ?_
     try simp only [put_y,put_z]
     refine wpU 6 ?_
     try simp only [put_y,put_z]
     refine wpU 7 ?_
     try simp only [put_y,put_z]
     refine wpU 8 ?_
     try simp only [put_y,put_z]
     refine wpU 9 ?_
     try simp only [put_y,put_z]
     refine wpU 10 ?_
     try simp only [put_y,put_z]
     refine wpU 11 ?_
     try simp only [put_y,put_z]
     refine wpU 12 ?_
     try simp only [put_y,put_z]
     refine wpU 13 ?_
     try simp only [put_y,put_z]
     refine wpU 14 ?_
     try simp only [put_y,put_z]
     refine wpU 15 ?_
     try simp only [put_y,put_z]
     refine wpU 16 ?_
     try simp only [put_y,put_z]
     refine wpT 17 ?_
     try simp only [put_y,put_z]
     refine wpAnyH_done (by kernel_rfl) ?_ _
     go_wp2_with fail
     go_meet
     case rel=>exact ⟨rfl,uD⟩
    | true =>
     obtain rfl:dd=D:=by rw [←HD.out];rfl
     refine wpT 2 ?_
     try simp only [put_y,put_z]
     refine wpT 3 ?_
     try simp only [put_y,put_z]
     refine wpT 4 ?_
     try simp only [put_y,put_z]
     refine wpT 5 ?_
     try simp only [put_y,put_z]
     refine wpT 6 ?_
     try simp only [put_y,put_z]
     refine wpT 7 ?_
     try simp only [put_y,put_z]
     refine wpT 8 ?_
     try simp only [put_y,put_z]
     refine wpT 9 ?_
     try simp only [put_y,put_z]
     refine wpT 10 ?_
     try simp only [put_y,put_z]
     refine wpT 11 ?_
     try simp only [put_y,put_z]
     refine wpT 12 ?_
     try simp only [put_y,put_z]
     refine wpT 13 ?_
     try simp only [put_y,put_z]
     refine wpT 14 ?_
     try simp only [put_y,put_z]
     refine wpT 15 ?_
     try simp only [put_y,put_z]
     refine wpT 16 ?_
     try simp only [put_y,put_z]
     refine wpT 17 ?_
     try simp only [put_y,put_z]
     refine wpAnyH_done (by kernel_rfl) ?_ _
     go_wp2_with fail
     go_meet
     case rel=>exact ⟨congrArg Value.bool Hdd.out,uD⟩
   case rest =>
    obtain ⟨rfl,hwc⟩:=hcut;have HS:=Lib.hid (HS.out.non hwc);clear hwc
    cases D with
    | false =>
     obtain ⟨hx1,hx2⟩:=HL.out.exit HG.out.1 HD0.out;have CO:=Lib.hid (rOk_c HS.out.rd);have her:=HS.out.er;have r0:=her.cell 0;have r1:=her.cell 1;have rf:=her.frozen;obtain ⟨z,Hz⟩:=nm (y.why==0);rw [Hz.out] at CO;have HX1:=Lib.hid hx1;have HX2:=Lib.hid hx2;clear hx1 hx2 HL HD HD0
     cases z with
     | true =>
      have H0:Hid (y.why=0):=by have:=Hz.out;exact beq_iff_eq.1 this
      go_wp2_with fail
      refine CO.out.mono ?_;rintro e w5 ⟨rfl,rfl⟩
      go_wp2_with fail
      rw [setE2_eq];obtain ⟨f1,f2,f3,f4⟩:=HS.out.res (.int .i64 0) (.int .i64 0);refine bodyPost_ret (results_tmp_cell rfl _ _ w.heap.size 31 _ (0,0) _ rfl f1 Tryz.underlying31 rfl (by kernel_rfl)) rfl ?_;exact ⟨f2,.inr ⟨Q,OA,oc,HX1.out H0.out,rfl,f4,HS.out.out.le⟩⟩
     | false =>
      have H0:Hid (y.why≠0):=by have:=Hz.out;exact fun q=>by rw [q] at this;cases this
      go_wp2_with fail
      refine CO.out.mono ?_;rintro e w5 ⟨rfl,rfl⟩
      go_upto_region 20 with fail
      obtain ⟨wD,HwD⟩:=nm w5.drew
      have uD:Upd Non w5 wD:=by rw [←HwD.out];exact Upd.refl.drew
      have HS:=Lib.hid (HS.out.non uD);clear her r0 r1 rf;have hcs:=HS.out.rd.cells
      refine wp_region_held_drew (S:=fun w'=>w'.cell? ⟨w2.heap.size,2,none⟩=some (.int .i64 y.why)∧w'.cell? ⟨w2.heap.size,3,none⟩=some (.int .i64 y.ea)) (by kernel_rfl) (by rw [HwD.out];exact ⟨hcs.2.2.1,hcs.2.2.2.1⟩) (fun hHeld=>?_)
      rw [HwD.out] at hHeld ⊢;refine wpT 0 ?_
      try simp only [put_y,put_z]
      refine wpT 1 ?_
      try simp only [put_y,put_z]
      refine wpT 2 ?_
      try simp only [put_y,put_z]
      refine wpT 3 ?_
      try simp only [put_y,put_z]
      refine wpT 4 ?_
      try simp only [put_y,put_z]
      have her:=HS.out.er;have r0:=her.cell 0;have r1:=her.cell 1;have rf:=her.frozen;refine wpAnyH_ready (rs:=[5]) (by kernel_rfl) (by simp) ?_;refine AllReadyH.cons rfl (fun K hK=>?_) AllReadyH.nil;go_simp;rw [setE2_eq];have HF:=Lib.hid (HS.out.res (.int .i64 y.why) (.int .i64 y.ea));obtain ⟨W9,HW9⟩:=nm (setE2 wD w.heap.size (.int .i64 y.why) (.int .i64 y.ea))
      rw [HW9.out] at HF ⊢;refine hK.out _ _ ?_ (fun hHeld=>?_)
      ·
       exact ⟨HF.out.2.2.1.cell 2,HF.out.2.2.1.cell 3⟩
      clear hK K
      try simp only [put_y,put_z]
      refine wpAnyH_done (by kernel_rfl) ?_ _
      go_wp2_with fail
      refine bodyPost_ret (results_tmp_cell rfl _ _ w.heap.size 31 _ (0,0) _ rfl HF.out.1 Tryz.underlying31 rfl (by kernel_rfl)) rfl ?_;exact ⟨HF.out.2.1,.inl ⟨_,HX2.out H0.out,rfl⟩⟩
    | true =>
     have hD:=HD0.out;simp only [Bool.and_eq_true,beq_iff_eq,decide_eq_true_eq] at hD;have H0:=Lib.hid hD.1;have HDT:=Lib.hid hD.2;have CIT:=Lib.hid (rItem_c HLT.out ax HAX HS.out.rd HG.out);clear hD HD HD0 CT
     go_wp2_with fail
     refine CIT.out.mono ?_;rintro e w5 ⟨rl,a,ts,tp,b,y',rfl,hrk,hrd',hg',ho',hu',hres⟩;have HS5:=Lib.hid (HS.out.call hrd' ho' hu');have hmw:w2.heap.size+1<wc.heap.size:=HS.out.map.lt
     have hoa:∀k,At OA k→k<wc.heap.size:=fun k q=>HS.out.out.lt q
     have hs5:=hu'.size;obtain ⟨m,Hm⟩:=nm wc.heap.size;rw [Hm.out] at hrk hmw hoa hs5;have HRK:=Lib.hid hrk;have HOA:=Lib.hid hoa;clear hoa Hm;have HG':=Lib.hid hg';have hQ2:Q.length≤160:=(HL.out.1 H0.out).2.1;have HRD:=Lib.hid (HL.out.item HLT.out hax HG.out.1 H0.out HDT.out hres);clear hrk hrd' hg' ho' hu' hres CIT HS HL HG H0 HDT;unfold rlv tokVal rlCells
     go_upto_block 2 with fail
     obtain ⟨W6,HW6⟩:=nm (w5.alloc (.cells #[.string rl.name,.int .i64 rl.l.v,.int .i64 rl.l.op,.int .i64 rl.l.imm,.int .i64 rl.l.iv,.slice a.la rl.l.kids.length a.lc,.int .i64 rl.r.v,.int .i64 rl.r.op,.int .i64 rl.r.imm,.int .i64 rl.r.iv,.slice a.ra rl.r.kids.length a.rc,.slice a.ca rl.conds.length a.cc,.int .i64 rl.vars,.int .i64 rl.imms] 43))
     have u6:Upd Non w5 W6:=by rw [←HW6.out];exact Upd.refl.alloc _
     have b6:Blk W6 w5.heap.size 43 (rlCells rl a):=by rw [←HW6.out];exact Blk.new _ _ _
     have s6:W6.heap.size=w5.heap.size+1:=by rw [←HW6.out];simp
     rw [HW6.out];obtain ⟨W7,HW7⟩:=nm (W6.alloc (.cells #[.string (kstr ts),.int .i64 tp,.bool false] 62))
     have u7:Upd Non W6 W7:=by rw [←HW7.out];exact Upd.refl.alloc _
     have b7:Blk W7 (w5.heap.size+1) 62 #[.string (kstr ts),.int .i64 tp,.bool false]:=by rw [←HW7.out,←s6];exact Blk.new _ _ _
     rw [HW7.out];have hu7:Upd Non w5 W7:=u6.then_non u7;have HS:=Lib.hid (HS5.out.non hu7);have HRK:=Lib.hid (HRK.out.upd hu7 (fun _ _ _ f=>f));have HX:=Lib.hid (b6.upd u7 (fun f=>f));have HK:=Lib.hid b7;have hs7:=hu7.size;clear u6 u7 b6 b7 hu7 HW6 HW7 HS5;have CO:=Lib.hid (rOk_c HS.out.rd);obtain ⟨z,Hz⟩:=nm (y'.why==0);rw [Hz.out] at CO
     go_cut [] (fun wx=>∃(y2:St),Hid (PaS w wx w2.heap.size (w2.heap.size+1) A c LT y2 OA oc Q)∧Hid (Good T y2)∧Hid (∀k,y2.own w2.heap.size k→y'.own w2.heap.size k)∧Hid (Upd (·=w2.heap.size) W7 wx)∧Hid (LpR T fin ax n R y2 (Q++[rl]) (fu - 1)))
     case first =>
      cases z with
      | false =>
       have H0:y'.why≠0:=by have:=Hz.out;exact fun q=>by rw [q] at this;cases this
       have HL:Hid (LpR T fin ax n R y' (Q++[rl]) (fu - 1)):=⟨fun q=>absurd q H0,HRD.out.2.1⟩;clear H0
       go_wp2_with fail
       refine CO.out.mono ?_;rintro e w8 ⟨rfl,rfl⟩;clear CO
       go_wp2_with fail
       go_meet
       case rel=>exact ⟨y',HS,HG',fun _ q=>q,Upd.refl,HL⟩
      | true =>
       have H0:Hid (y'.why=0):=by have:=Hz.out;exact beq_iff_eq.1 this
       have HR2:=Lib.hid (HRD.out.2.2 H0.out);have v1:=HK.out.cell 1
       cases b with
       | false =>
        have HRR:=Lib.hid (HR2.out.2.1 rfl);have CF:=Lib.hid (rFail_c HS.out.rd 3 tp)
        go_wp2_with fail
        refine CO.out.mono ?_;rintro e w8 ⟨rfl,rfl⟩;clear CO;have HU:Hid (Upd (·=w2.heap.size) w8 w8):=Upd.refl
        go_wp2_with fail
        refine CF.out.mono ?_;rintro e w9 ⟨rfl,hr9,hu9⟩;have HS9:=Lib.hid (HS.out.call hr9 (fun k q=>.inl ((fail_own _ _ _ _ _).1 q)) (hu9.mono (fun _ _ e=>.inl e)));have HU9:=Lib.hid (HU.out.trans hu9 (fun _ _ q=>q));clear hr9 hu9 CF
        go_wp2_with fail
        go_meet
        case rel=>exact ⟨_,HS9,Good.fail HG'.out.1 (by decide),fun k q=>(fail_own _ _ _ _ _).1 q,HU9,RndR.err H0.out (by decide) HRR.out⟩
       | true =>
        have HRT:=Lib.hid (HR2.out.2.2 rfl);have CV:=Lib.hid (rlValid_c rl a _ W7 HRK.out HRT.out.1);unfold rlv rlCells at CV;have hbx:=HX.out;unfold rlCells at hbx;have k0:=hbx.cell 0;have k1:=hbx.cell 1;have k2:=hbx.cell 2;have k3:=hbx.cell 3;have k4:=hbx.cell 4;have k5:=hbx.cell 5;have k6:=hbx.cell 6;have k7:=hbx.cell 7;have k8:=hbx.cell 8;have k9:=hbx.cell 9
        have k10:=hbx.cell 10;have k11:=hbx.cell 11;have k12:=hbx.cell 12;have k13:=hbx.cell 13;obtain ⟨v,Hv⟩:=nm (implF rl);rw [Hv.out] at CV;clear hbx
        go_wp2_with fail
        refine CO.out.mono ?_;rintro e w8 ⟨rfl,rfl⟩;clear CO
        go_wp2_with fail
        refine CV.out.mono ?_;rintro e w9 ⟨rfl,hu9⟩;have HS:=Lib.hid (HS.out.non hu9);have HU:Hid (Upd (·=w2.heap.size) w8 w9):=hu9.mono (fun _ _ f=>f.elim);have v1:=cell_upd v1 hu9 (fun f=>f);have k0:=cell_upd k0 hu9 (fun f=>f);clear CV hu9 k1 k2 k3 k4 k5 k6 k7 k8 k9 k10 k11 k12 k13
        cases v with
        | false =>
         have HRR:=Lib.hid (HRT.out.2.1 Hv.out);have CF:=Lib.hid (rFail_c HS.out.rd 1 tp);clear k0
         go_wp2_with fail
         refine CF.out.mono ?_;rintro e w9 ⟨rfl,hr9,hu9⟩;have HS9:=Lib.hid (HS.out.call hr9 (fun k q=>.inl ((fail_own _ _ _ _ _).1 q)) (hu9.mono (fun _ _ e=>.inl e)));have HU9:=Lib.hid (HU.out.trans hu9 (fun _ _ q=>q));clear hr9 hu9 CF
         go_wp2_with fail
         go_meet
         case rel=>exact ⟨_,HS9,Good.fail HG'.out.1 (by decide),fun k q=>(fail_own _ _ _ _ _).1 q,HU9,RndR.err H0.out (by decide) HRR.out⟩
        | true =>
         have HRV:=Lib.hid (HRT.out.2.2 Hv.out);have hlook:=HS.out.map.look1 Tryz.underlying60 Tryz.underlying9 (zeroBoolP _) rl.name;rw [nmV_get] at hlook;obtain ⟨d,Hd⟩:=nm (Q.any (fun q=>decide (q.name=rl.name)));rw [Hd.out] at hlook
         cases d with
         | true =>
          have HRR:=Lib.hid (HRV.out.1 Hd.out);have CF:=Lib.hid (rFail_c HS.out.rd 4 tp)
          go_wp2_with fail
          refine CF.out.mono ?_;rintro e w9 ⟨rfl,hr9,hu9⟩;have HS9:=Lib.hid (HS.out.call hr9 (fun k q=>.inl ((fail_own _ _ _ _ _).1 q)) (hu9.mono (fun _ _ e=>.inl e)));have HU9:=Lib.hid (HU.out.trans hu9 (fun _ _ q=>q));clear hr9 hu9 CF
          go_wp2_with fail
          go_meet
          case rel=>exact ⟨_,HS9,Good.fail HG'.out.1 (by decide),fun k q=>(fail_own _ _ _ _ _).1 q,HU9,RndR.err H0.out (by decide) HRR.out⟩
         | false =>
          have HRW:=Lib.hid (HRV.out.2 Hd.out)
          by_cases hq:Q.length=160
          ·
           have HRR:=Lib.hid (HRW.out.1 hq)
           have tq:((Q.length:Int)==160)=true:=by rw [hq];rfl
           have CF:=Lib.hid (rFail_c HS.out.rd 6 tp);clear hq
           go_wp2_with fail
           refine CF.out.mono ?_;rintro e w9 ⟨rfl,hr9,hu9⟩;have HS9:=Lib.hid (HS.out.call hr9 (fun k q=>.inl ((fail_own _ _ _ _ _).1 q)) (hu9.mono (fun _ _ e=>.inl e)));have HU9:=Lib.hid (HU.out.trans hu9 (fun _ _ q=>q));clear hr9 hu9 CF
           go_wp2_with fail
           go_meet
           case rel=>exact ⟨_,HS9,Good.fail HG'.out.1 (by decide),fun k q=>(fail_own _ _ _ _ _).1 q,HU9,RndR.err H0.out (by decide) HRR.out⟩
          ·
           have HLP:=Lib.hid (HRW.out.2 hq)
           have tq:((Q.length:Int)==160)=false:=by simpa using fun q=>hq (by omega)
           clear hq
           go_wp2_with fail
           go_meet
           case rel=>exact ⟨y',HS,HG',fun _ q=>q,HU,HLP⟩
     case rest =>
      clear HS HG' CO Hz;obtain ⟨y2,HS,HG,HO,HU,HL⟩:=hcut;have hbx:=HX.out.upd HU.out (by omega);have HXX:=Lib.hid hbx
      have HRK:Hid (RlK wc (fun k=>m≤k∧¬y2.own w2.heap.size k) rl a):=(HRK.out.upd HU.out (fun k _ q e=>by have:=q.1;omega)).mono (fun k _ q=>⟨q.1,fun r=>q.2 (HO.out k r)⟩)
      have hlw:=HU.out.size;obtain ⟨w10,hst,hsm,hus⟩:=HS.out.map.store Tryz.underlying60 Tryz.underlying9 rl.name (.bool true);rw [nmV_snoc] at hsm;unfold rlCells at hbx;have k0:=hbx.cell 0;obtain ⟨_,cs,hown,hcells⟩:=id HS.out.out;have HCS:=Lib.hid hcells;have hown2:=hown.upd hus (fun k q e=>by have:=HS.out.oat k q;omega);have hb2:=hbx.upd hus (by omega)
      have z0:=hb2.cell 0;have z1:=hb2.cell 1;have z2:=hb2.cell 2;have z3:=hb2.cell 3;have z4:=hb2.cell 4;have z5:=hb2.cell 5;have z6:=hb2.cell 6;have z7:=hb2.cell 7;have z8:=hb2.cell 8;have z9:=hb2.cell 9;have z10:=hb2.cell 10;have z11:=hb2.cell 11;have z12:=hb2.cell 12;have z13:=hb2.cell 13;have HM2:=Lib.hid hsm;have HU2:=Lib.hid hus
      clear hcells hbx hsm hus hb2 hown
      go_wp2_with (at_builtin;refine wpList_app rfl rfl T_rules rfl (hown2.alloc _) rfl (Sl.new _ _ _) rfl (by simp [Value.oneCell']) (by simp only [maxLen];omega) (by omega) ?_;intro A4 c4 w4 ho4 hu4 hat4)
      have HN:Hid (PaS w w4 w2.heap.size (w2.heap.size+1) A c LT y2 A4 c4 (Q++[rl])):=HS.out.app HRK.out hmw HOA.out HCS.out HM2.out HU2.out (Upd.refl.alloc _) ho4 hu4 hat4
      have hfu:=HRD.out.1;clear z0 z1 z2 z3 z4 z5 z6 z7 z8 z9 z10 z11 z12 z13 ho4 hu4 hat4 hst k0 HCS hown2
      go_roundg (fu - 1)
      case measure=>rw [Hfu.out];omega
      case rel=>exact ⟨fu - 1,y2,A4,c4,Q++[rl],rfl,by rw [List.length_append];rfl,HN,HG,HL,by rw [List.length_append,List.length_singleton];omega⟩
def axTx (x:Bs×Bs):Bs:=[114,117,108,101,32]++x.1++[58,32]++x.2++[59]
theorem axiomF_eq (s:Bs):axiomF s=match axL.find? (fun x=>decide (x.1=s)) with
  | none=>none
  | some x=>match parseG (fun _=>none) (axTx x) with
   | .ok [r]=>some r
   | _=>none:=by
 unfold axiomF axText
 cases h:axL.find? (fun x=>decide (x.1=s)) with
 | none=>rfl
 | some x =>
  have:=List.find?_some h;simp only [decide_eq_true_eq] at this;subst this;rfl
def szB (r:Rl):Bool:=decide (r.l.size≤1000000000000)&&decide (r.r.size≤1000000000000)&&decide (r.conds.length≤1000000000000)&&decide (r.name.size≤1000000000000000)
theorem ax_all:axL.all (fun x=>match parseG (fun _=>none) (axTx x) with | .ok [r]=>szB r | _=>false)=true:=by decide +kernel
theorem ax_tok:axL.all (fun x=>(goodT (toksF (axTx x))).all (fun t=>!decide (t.1=[97,120,105,111,109])))=true:=by decide +kernel
theorem ax_parse {x:Bs×Bs} (h:x∈axL):∃r,parseG (fun _=>none) (axTx x)=.ok [r]∧RlSz r:=by
 have h1:=List.all_eq_true.1 ax_all x h
 split at h1
 ·
  rename_i r he;simp only [szB,Bool.and_eq_true,decide_eq_true_eq] at h1;exact ⟨r,he,h1.1.1.1,h1.1.1.2,h1.1.2,h1.2⟩
 ·
  cases h1
theorem ax_none {x:Bs×Bs} (h:x∈axL):¬∃i,tkF (goodT (toksF (axTx x))) i=some [97,120,105,111,109]:=by
 rintro ⟨i,hi⟩;have h1:=List.all_eq_true.1 ax_tok x h;have hl:=tkF_lt hi;unfold tkF at hi;rw [List.getElem?_eq_getElem hl] at hi;have h2:=List.all_eq_true.1 h1 _ (List.getElem_mem hl);simp only [Option.map_some,Option.some.injEq] at hi;rw [hi] at h2;exact absurd h2 (by decide)
theorem ax_len:axL.all (fun x=>decide (x.1.length≤1000)&&decide (x.2.length≤1000))=true:=by decide +kernel
theorem ax_size {x:Bs×Bs} (h:x∈axL):(kstr x.1).size≤1000∧(kstr x.2).size≤1000:=by
 have h1:=List.all_eq_true.1 ax_len x h;simp only [Bool.and_eq_true,decide_eq_true_eq] at h1;rw [←kx_len,←kx_len,kx_kstr,kx_kstr];exact h1
theorem axiomF_sz (s:Bs) (r:Rl) (h:axiomF s=some r):RlSz r:=by
 rw [axiomF_eq] at h
 split at h
 ·
  cases h
 ·
  rename_i x hx;obtain ⟨r2,h1,h2⟩:=ax_parse (List.mem_of_find?_eq_some hx);rw [h1] at h
  injection h with h
  subst h;exact h2
theorem find_take {x:Bs×Bs} {s:Bs} {l:List (Bs×Bs)} (hn:∀y∈l,¬y.1=s) (hx:x.1=s) (r:List (Bs×Bs)):(l++x::r).find? (fun x=>decide (x.1=s))=some x:=by
 rw [List.find?_append]
 have : l.find? (fun x=>decide (x.1=s))=none:=by
  rw [List.find?_eq_none];intro y hy
  simpa using hn y hy
 rw [this,List.find?_cons_of_pos (by simpa using hx)];rfl
def axCs:List Value:=axL.flatMap fun x=>[.string (kstr x.1),.string (kstr x.2)]
theorem axCs_get {i:Nat} (h:i<axL.length):axCs[i * 2]?=some (.string (kstr axL[i].1))∧axCs[i * 2+1]?=some (.string (kstr axL[i].2)):=by
 have : ∀(l:List (Bs×Bs)) (i:Nat) (h:i<l.length),(l.flatMap fun x=>[Value.string (kstr x.1),Value.string (kstr x.2)])[i * 2]?=some (.string (kstr l[i].1))∧(l.flatMap fun x=>[Value.string (kstr x.1),Value.string (kstr x.2)])[i * 2+1]?=some (.string (kstr l[i].2)):=by
  intro l
  induction l with
  | nil=>intro i h;simp at h
  | cons x l ih =>
   intro i h
   cases i with
   | zero=>exact ⟨rfl,rfl⟩
   | succ i =>
    have:=ih i (by simpa using h);rw [show (i+1) * 2=i * 2+1+1 by omega];exact this
 exact this axL i h
end Go.Proofs.YtblkgjdhaibhgaaGreat
namespace Go.Proofs.YtblkgjdhaibhgaaGreat
open Go.RowKit
set_option maxRecDepth 100000 in
theorem raxioms_c (w:World):Calls Tryz.prog 39 #[] w fun e w'=>e=.returned (.slice (some ⟨w.heap.size,0,none⟩) 22 22)∧Blk w' w.heap.size 82 axCs.toArray∧Upd Non w w':=by
 go_enter Tryz.func39,Tryz.ntmps39
 go_wp2_with fail
 go_ret;exact ⟨rfl,Blk.new _ _ _,Upd.refl.alloc _⟩
end Go.Proofs.YtblkgjdhaibhgaaGreat
namespace Go.Proofs.YtblkgjdhaibhgaaGreat
open Go.RowKit
set_option maxRecDepth 100000 in
set_option maxHeartbeats 1000000 in
theorem rAxiom_c (s:Bs) (w:World):Calls Tryz.prog 18 #[.string (kstr s)] w (AxP axiomF s w):=by
 have HX:Hid (axiomF s=match axL.find? (fun x=>decide (x.1=s)) with
  | none=>none
  | some x=>match parseG (fun _=>none) (axTx x) with
   | .ok [r]=>some r
   | _=>none):=axiomF_eq s
 obtain ⟨W1,HW1⟩:=nm (w.alloc (.cells #[.string ⟨#[]⟩,.int .i64 0,.int .i64 0,.int .i64 0,.int .i64 0,.slice none 0 0,.int .i64 0,.int .i64 0,.int .i64 0,.int .i64 0,.slice none 0 0,.slice none 0 0,.int .i64 0,.int .i64 0] 43))
 have e1:=HW1.out
 have u1:Upd Non w W1:=by rw [←e1];exact Upd.refl.alloc _
 have b1:Blk W1 w.heap.size 43 z14:=by rw [←e1];exact Blk.new _ _ _
 have s1:W1.heap.size=w.heap.size+1:=by rw [←e1];simp
 have CA:=Lib.hid (raxioms_c W1);rw [s1] at CA;obtain ⟨qs,Hqs⟩:=nm (kstr s);rw [Hqs.out];have HB1:=Lib.hid b1;have HU1:=Lib.hid u1;clear u1 b1 s1;go_enter Tryz.func18,Tryz.ntmps18
 go_wp2_with fail
 refine CA.out.mono ?_;rintro e w2 ⟨rfl,hbt,hu2⟩;have HT:=Lib.hid hbt;have HB2:=Lib.hid (HB1.out.upd hu2 (fun f=>f));have HU2:=Lib.hid (HU1.out.then_non hu2);clear hbt hu2 CA HB1 HU1 e1
 go_wp2_with fail
 go_loopg [5,6,7,10] 22 (fun g _ _ _ iv wr=>∃j:Nat,Hid (g=22 - j)∧j≤22∧iv=.int .i64 j∧Hid (Upd Non w2 wr)∧Hid (∀x∈axL.take j,¬x.1=s))
 case atStart=>exact ⟨0,rfl,Nat.zero_le _,rfl,Upd.refl,fun x hx=>by simp at hx⟩
 case round =>
  obtain ⟨j,Hg,hj,rfl,HU,HN⟩:=hrel;have hb:=HT.out.upd HU.out (fun f=>f);have hr:=HB2.out.upd HU.out (fun f=>f);have HR:=Lib.hid hr;have hUw:=HU2.out.then_non HU.out;have HUW:=Lib.hid hUw;clear hUw
  by_cases hlt:j<22
  ·
   have hal:j<axL.length:=hlt;obtain ⟨k0,k1⟩:=axCs_get hal
   have c0:wr.cell? ⟨w.heap.size+1,j * 2,none⟩=some (.string (kstr axL[j].1)):=by rw [hb.cell];simpa using k0
   have c1:wr.cell? ⟨w.heap.size+1,j * 2+1,none⟩=some (.string (kstr axL[j].2)):=by rw [hb.cell];simpa using k1
   have HM:Hid (axL[j]∈axL):=List.getElem_mem hal
   have HDR:Hid (axL=axL.take j++axL[j]::axL.drop (j+1)):=by
    show axL=_;rw [←List.drop_eq_getElem_cons hal,List.take_append_drop]
   have HTK:Hid (axL.take (j+1)=axL.take j++[axL[j]]):=take_snoc' hal;generalize axL[j]=xx at *;obtain ⟨D,HD⟩:=nm (decide (xx.1=s))
   have hD:((kstr xx.1).toList==qs.toList)=D:=by rw [←Hqs.out,str_beq,HD.out]
   obtain ⟨qa,Hqa⟩:=nm (kstr xx.1);obtain ⟨qb,Hqb⟩:=nm (kstr xx.2);rw [Hqa.out] at c0 hD;rw [Hqb.out] at c1;clear k0 k1 hb hr
   cases D with
   | false =>
    go_wp2_with fail
    go_roundg (22 - (j+1))
    case measure=>rw [Hg.out];omega
    case rel =>
     refine ⟨j+1,rfl,by omega,by go_num,HU.out.then_non (Upd.refl.alloc _),fun y hy=>?_⟩;rw [HTK.out] at hy
     rcases List.mem_append.1 hy with hy | hy
     ·
      exact HN.out y hy
     ·
      rw [List.mem_singleton] at hy;subst hy;exact of_decide_eq_false HD.out
   | true =>
    obtain ⟨rl,hpr,hsz⟩:=ax_parse HM.out;obtain ⟨la,lb⟩:=ax_size HM.out;rw [Hqa.out] at la;rw [Hqb.out] at lb
    have hkx:kx (((({ data:=#[114,117,108,101,32] }:ByteArray)++qa)++{ data:=#[58,32] })++qb++{ data:=#[59] })=axTx xx:=by
     rw [←Hqa.out,←Hqb.out];simp [kx,kstr,axTx]
    obtain ⟨W3,HW3⟩:=nm (wr.alloc (.cells #[.string qa,.string qb] 82))
    have CP:=Lib.hid (rParse_c (fun _=>none) (fun _ _ q=>by cases q) (((({ data:=#[114,117,108,101,32] }:ByteArray)++qa)++{ data:=#[58,32] })++qb++{ data:=#[59] }) (fun q=>by rw [hkx] at q;exact absurd q (ax_none HM.out)) W3)
    rw [hkx,hpr] at CP;have e3:=HW3.out;have HPR:=Lib.hid hpr
    have u3:Upd Non wr W3:=by rw [←e3];exact Upd.refl.alloc _
    have HU3:=Lib.hid (HUW.out.then_non u3);have HR3:=Lib.hid (HR.out.upd u3 (fun f=>f))
    have b3:Blk W3 wr.heap.size 82 #[.string qa,.string qb]:=by rw [←e3];exact Blk.new _ _ _
    have z0:=b3.cell 0;have z1:=b3.cell 1;clear hkx hpr u3 hsz b3
    go_wp2_with fail
    refine CP.out.mono ?_;rintro e w4 ⟨hu4,h⟩
    rcases h with ⟨er,h,_⟩ | ⟨Q,A,c,h,rfl,hv,hle⟩
    ·
     cases h
    injection h with h
    subst h;obtain ⟨b,o,a,rfl,_,hb4,hat,hrk⟩:=hv.at_ (i:=0) (by simp);unfold RlAt at hat;rw [List.getElem_cons_zero,Nat.zero_mul,Nat.add_zero] at hat;rw [List.getElem_cons_zero] at hrk;obtain ⟨x0,x1,x2,x3,x4,x5,x6,x7,x8,x9,x10,x11,x12,x13⟩:=hat;have b0:=HR3.out.upd hu4 (fun f=>f);have hbl:=b0.lt;unfold z14 at b0;have z0:=b0.cell 0;have z1:=b0.cell 1
    have z2:=b0.cell 2;have z3:=b0.cell 3;have z4:=b0.cell 4;have z5:=b0.cell 5;have z6:=b0.cell 6;have z7:=b0.cell 7;have z8:=b0.cell 8;have z9:=b0.cell 9;have z10:=b0.cell 10;have z11:=b0.cell 11;have z12:=b0.cell 12;have z13:=b0.cell 13;have zf:=b0.frozen;have HRK:=Lib.hid hrk;have HU4:=Lib.hid (HU3.out.then_non hu4);have hle3:=HU3.out.size
    have hlw3:=HR3.out.lt;clear hv hle hrk hu4 CP e3
    go_wp2_with fail
    rw [set14_eq]
    obtain ⟨W8,HW8⟩:=nm (set14 w4 w.heap.size (.string rl.name) (.int .i64 rl.l.v) (.int .i64 rl.l.op) (.int .i64 rl.l.imm) (.int .i64 rl.l.iv) (.slice a.la rl.l.kids.length a.lc) (.int .i64 rl.r.v) (.int .i64 rl.r.op) (.int .i64 rl.r.imm) (.int .i64 rl.r.iv) (.slice a.ra rl.r.kids.length a.rc) (.slice a.ca rl.conds.length a.cc) (.int .i64 rl.vars) (.int .i64 rl.imms))
    rw [HW8.out]
    have us:Upd (·=w.heap.size) w4 W8:=by rw [←HW8.out];exact set14_upd _ _ _ _ _ _ _ _ _ _ _ _ _ _ _ _
    have b5:Blk W8 w.heap.size 43 (rlCells rl a):=by rw [←HW8.out];exact set14_blk b0 _ _ _ _ _ _ _ _ _ _ _ _ _ _
    have ua:Upd Non W8 (W8.alloc (.cells #[.int .i64 0,.int .i64 0] 31)):=Upd.refl.alloc _;refine bodyPost_ret (results_cell_row_tmp rfl _ _ w.heap.size 43 _ (0,0) _ rfl (b5.upd ua (fun f=>f)) Tryz.underlying43 rfl (by kernel_rfl)) rfl ?_;refine ⟨rl,a,true,rfl,?_,(HU4.out.trans us (fun k hk e=>by omega)).then_non ua,fun _=>?_,fun q=>(by cases q)⟩
    ·
     exact ((HRK.out.upd us (fun k _ q e=>by have:=q;omega)).upd ua (fun _ _ _ f=>f)).mono (fun k _ q=>Nat.le_trans hle3 q)
    ·
     rw [HX.out,HDR.out,find_take HN.out (of_decide_eq_true HD.out)];dsimp only;rw [HPR.out]
  ·
   obtain rfl:j=22:=by omega
   clear hb;unfold z14 at hr;have z0:=hr.cell 0;have z1:=hr.cell 1;have z2:=hr.cell 2;have z3:=hr.cell 3;have z4:=hr.cell 4;have z5:=hr.cell 5;have z6:=hr.cell 6;have z7:=hr.cell 7;have z8:=hr.cell 8;have z9:=hr.cell 9;have z10:=hr.cell 10;have z11:=hr.cell 11;have z12:=hr.cell 12;have z13:=hr.cell 13;have zf:=hr.frozen
   go_wp2_with fail
   rw [set14_eq]
   have us:=set14_upd wr w.heap.size (.string ⟨#[]⟩) (.int .i64 0) (.int .i64 0) (.int .i64 0) (.int .i64 0) (.slice none 0 0) (.int .i64 0) (.int .i64 0) (.int .i64 0) (.int .i64 0) (.slice none 0 0) (.slice none 0 0) (.int .i64 0) (.int .i64 0)
   have b5:=set14_blk HR.out (.string ⟨#[]⟩) (.int .i64 0) (.int .i64 0) (.int .i64 0) (.int .i64 0) (.slice none 0 0) (.int .i64 0) (.int .i64 0) (.int .i64 0) (.int .i64 0) (.slice none 0 0) (.slice none 0 0) (.int .i64 0) (.int .i64 0)
   refine bodyPost_ret (results_cell_row_tmp rfl _ _ w.heap.size 43 _ (0,0) _ rfl b5 Tryz.underlying43 rfl (by kernel_rfl)) rfl ?_
   refine ⟨⟨⟨#[]⟩,.mk 0 0 0 0 [],.mk 0 0 0 0 [],[],0,0⟩,⟨none,0,none,0,none,0⟩,false,rfl,⟨PtK.leaf,PtK.leaf,CondsV.nil,Nat.le_refl _⟩,HUW.out.trans us (fun k hk e=>by omega),fun q=>(by cases q),fun _=>?_⟩
   rw [HX.out,List.find?_eq_none.2];intro y hy
   simpa using HN.out y (by rw [List.take_of_length_le (show axL.length≤22 from Nat.le_refl _)];exact hy)
mutual
def ptE:Pt→Pt→Bool
 | .mk v op imm iv ks,q=>decide (v=q.v∧op=q.op∧imm=q.imm∧iv=q.iv∧ks.length=q.kids.length)&&ptEL ks q.kids
def ptEL:List Pt→List Pt→Bool
 | [],_=>true
 | k::ks,ls=>match ls with
  | []=>true
  | l::ls=>ptE k l&&ptEL ks ls
end
theorem ptE_eq (p q:Pt):ptE p q=(decide (p.v=q.v∧p.op=q.op∧p.imm=q.imm∧p.iv=q.iv∧p.kids.length=q.kids.length)&&ptEL p.kids q.kids):=by
 cases p
 rw [ptE];rfl
theorem ptEL_of:∀{ks ls:List Pt},(∀i (h:i<ks.length) (h2:i<ls.length),ptE ks[i] ls[i]=true)→ptEL ks ls=true
 | [],_,_=>by simp [ptEL]
 | k::ks,[],_=>by simp [ptEL]
 | k::ks,l::ls,h=>by
  simp only [ptEL,Bool.and_eq_true];exact ⟨h 0 (Nat.zero_lt_succ _) (Nat.zero_lt_succ _),ptEL_of fun i h1 h2=>h (i+1) (Nat.succ_lt_succ h1) (Nat.succ_lt_succ h2)⟩
theorem ptEL_no:∀{ks ls:List Pt} {i:Nat} (h1:i<ks.length) (h2:i<ls.length),ptE ks[i] ls[i]=false→ptEL ks ls=false
 | k::ks,l::ls,0,_,_,h=>by
  simp only [ptEL,Bool.and_eq_false_iff];exact .inl h
 | k::ks,l::ls,i+1,h1,h2,h=>by
  simp only [ptEL,Bool.and_eq_false_iff];exact .inr (ptEL_no (Nat.lt_of_succ_lt_succ h1) (Nat.lt_of_succ_lt_succ h2) h)
theorem ptE_refl (p:Pt):ptE p p=true:=by
 induction p using Pt.ind with
 | h p ih =>
  rw [ptE_eq,Bool.and_eq_true];exact ⟨by simp,ptEL_of fun i h _=>ih _ (List.getElem_mem h)⟩
def rlE (r s:Rl):Bool:=decide (r.vars=s.vars∧r.imms=s.imms∧r.conds.length=s.conds.length)&&ptE r.l s.l&&ptE r.r s.r&&decide (r.conds=s.conds)
theorem rlE_refl (r:Rl):rlE r r=true:=by simp [rlE,ptE_refl]
def rlsE:List Rl→List Rl→Bool
 | [],[]=>true
 | r::rs,s::ss=>decide (r.name=s.name)&&rlE r s&&rlsE rs ss
 | _,_=>false
theorem rlsE_refl:∀l:List Rl,rlsE l l=true
 | []=>rfl
 | r::l=>by simp [rlsE,rlE_refl,rlsE_refl l]
theorem rlsE_len:∀{a b:List Rl},rlsE a b=true→a.length=b.length
 | [],[],_=>rfl
 | r::rs,s::ss,h=>by
  simp only [rlsE,Bool.and_eq_true] at h;simp [rlsE_len h.2]
theorem rlsE_of:∀{a b:List Rl},a.length=b.length→(∀i (h:i<a.length) (h2:i<b.length),a[i].name=b[i].name∧rlE a[i] b[i]=true)→rlsE a b=true
 | [],[],_,_=>rfl
 | [],_::_,h,_=>by simp at h
 | _::_,[],h,_=>by simp at h
 | r::rs,s::ss,h,k=>by
  simp only [rlsE,Bool.and_eq_true,decide_eq_true_eq];exact ⟨k 0 (Nat.zero_lt_succ _) (Nat.zero_lt_succ _),rlsE_of (by simpa using h) fun i h1 h2=>k (i+1) (Nat.succ_lt_succ h1) (Nat.succ_lt_succ h2)⟩
theorem rlsE_no:∀{a b:List Rl} {i:Nat} (h1:i<a.length) (h2:i<b.length),(¬a[i].name=b[i].name∨rlE a[i] b[i]=false)→rlsE a b=false
 | r::rs,s::ss,0,_,_,h=>by
  rcases h with h | h
  ·
   have h:¬r.name=s.name:=h;simp [rlsE,h]
  ·
   have h:rlE r s=false:=h;simp [rlsE,h]
 | r::rs,s::ss,i+1,h1,h2,h=>by
  have:=rlsE_no (a:=rs) (b:=ss) (i:=i) (Nat.lt_of_succ_lt_succ h1) (Nat.lt_of_succ_lt_succ h2) h;simp [rlsE,this]
theorem CondsV.take {w:World} {F:Nat→Prop} {A:Option Addr} {cs:List Cd} (h:CondsV w F A cs) {i:Nat} (hi:i<cs.length):∃b o,A=some ⟨b,o,none⟩∧b<w.heap.size∧w.cell? ⟨b,o+i * 4,none⟩=some (.int .i64 cs[i].kind)∧w.cell? ⟨b,o+i * 4+1,none⟩=some (.int .i64 cs[i].a)∧w.cell? ⟨b,o+i * 4+2,none⟩=some (.int .i64 cs[i].b)∧w.cell? ⟨b,o+i * 4+3,none⟩=some (.int .i64 cs[i].n):=by
 obtain ⟨b,o,h1,_,h2,h3⟩:=h.at_ hi;exact ⟨b,o,h1,h2,h3⟩
def hdF (r:Rl):Bs:=[114,117,108,101,32]++kx r.name++[58,32]++fmtF r.l++[32,61,62,32]++fmtF r.r
theorem fmtR_hd (r:Rl):fmtR r=hdF r++fmtCs r.conds true++[59,10]:=rfl
theorem hd_eq (r:Rl):kx ((((({ data:=#[114,117,108,101,32] }:ByteArray)++r.name)++{ data:=#[58,32] })++kstr (fmtF r.l))++{ data:=#[32,61,62,32] }++kstr (fmtF r.r))=hdF r:=by
 simp [kx,kstr,hdF]
theorem hdF_len {r:Rl} (h:FmR r):(hdF r).length≤1600:=by
 have e1:=fmtF_len _ h.l;have e2:=fmtF_len _ h.r;have e5:=h.ls;have e6:=h.rs
 have e7:(kx r.name).length≤16:=by rw [kx_len];exact h.n
 unfold hdF;simp only [List.length_append,List.length_cons,List.length_nil];omega
set_option maxRecDepth 100000 in
set_option maxHeartbeats 2000000 in
theorem rPrint_c (w:World) (F:Nat→Prop) (A:Option Addr) (c:Nat) (L:List Rl) (hv:RlsV w F A L) (hz:∀r∈L,RlSz r) (hi:∀r∈L,RlI r) (hn:L.length≤1000000) :
  Calls Tryz.prog 14 #[.slice A L.length c] w fun e w'=>e=.returned (.string (kstr (printF L)))∧Upd Non w w':=by
 have HV:=Lib.hid hv;have HZ:=Lib.hid hz;have HI:=Lib.hid hi;obtain ⟨res,Hres⟩:=nm (kstr (printF L));rw [Hres.out];obtain ⟨n,Hn⟩:=nm L.length;rw [Hn.out] at hn ⊢;clear hv hz hi;go_enter Tryz.func14,Tryz.ntmps14
 go_wp2_with fail
 go_loopg [3,5,6,7,8,11] n (fun g v _ _ _ _ iv wr=>∃(k:Nat) (BA:Option Addr) (bc:Nat) (bs:Bs),Hid (g=n - k)∧k≤n∧iv=.int .i64 k∧v=.slice BA bs.length bc∧Hid (Own wr 5 1 BA bs.length bc (u8s bs))∧Hid (∀q,At BA q→w.heap.size≤q)∧Hid (bs=fmtRs (L.take k))∧bs.length≤2000 * k∧Hid (∀r∈L.take k,implF r=true)∧Hid (Upd Non w wr))
 case atStart=>exact ⟨0,none,0,[],rfl,Nat.zero_le _,rfl,rfl,Own.none_,fun _ q=>(At.none_ q).elim,rfl,by simp,fun r hr=>by simp at hr,Upd.refl⟩
 case round =>
  obtain ⟨k,BA,bc,bs,Hg,hk,rfl,rfl,HO,HA,HB,hbl,HI2,HU⟩:=hrel
  by_cases hlt:k<n
  ·
   have hkl:k<L.length:=by rw [Hn.out];exact hlt
   obtain ⟨b,o,a,rfl,_,hbw0,hat0,hrk0⟩:=HV.out.at_ hkl;have hbw:b<wr.heap.size:=Nat.lt_of_lt_of_le hbw0 HU.out.size;have hat:=hat0.upd HU.out (fun f=>f);have hrk:=hrk0.upd HU.out (fun _ _ _ f=>f);have HRW:=Lib.hid hrk0;clear hat0 hrk0 hbw0;unfold RlAt at hat;have HRZ:=Lib.hid (HZ.out _ (List.getElem_mem hkl));have HRI:=Lib.hid (HI.out _ (List.getElem_mem hkl))
   have HTK:Hid (L.take (k+1)=L.take k++[L[k]]):=take_snoc' hkl;have HME:Hid (L[k]∈L):=List.getElem_mem hkl;generalize L[k]=r at *;obtain ⟨x0,x1,x2,x3,x4,x5,x6,x7,x8,x9,x10,x11,x12,x13⟩:=hat;have CV:=Lib.hid (rlValid_c r a F _ (hrk.upd (Upd.refl.alloc (S:=Non) (.cells (rlCells r a) 43)) (fun _ _ _ f=>f)) HRZ.out);have hb3:=Blk.new wr 43 (rlCells r a)
   have HB3:=Lib.hid hb3;have HRK:=Lib.hid hrk;unfold rlv rlCells at CV;obtain ⟨v,Hv⟩:=nm (implF r);rw [Hv.out] at CV;clear hb3 hrk
   go_wp2_with fail
   refine CV.out.mono ?_;rintro e w4 ⟨rfl,hu4⟩;clear CV x0 x1 x2 x3 x4 x5 x6 x7 x8 x9 x10 x11 x12 x13;have HU4:=Lib.hid ((HU.out.alloc (.cells (rlCells r a) 43)).then_non hu4);have HB4:=Lib.hid (HB3.out.upd hu4 (fun f=>f));have u34:Upd Non wr w4:=(Upd.refl.alloc (S:=Non) (.cells (rlCells r a) 43)).then_non hu4;have HO4:=Lib.hid (Own.upd HO.out u34 (fun _ _ f=>f))
   have HRK4:=Lib.hid (HRK.out.upd u34 (fun _ _ _ f=>f));clear HO HB3 HRK hu4 u34
   cases v with
   | false =>
    go_wp2_with fail
    go_ret;refine ⟨?_,HU4.out⟩;rw [←Hres.out,show printF L=[] from if_neg (fun q=>by have:=List.all_eq_true.1 q r HME.out;rw [Hv.out] at this;cases this)];rfl
   | true =>
    have HF:=Lib.hid (impl_fm Hv.out HRI.out);have hnl:r.name.size≤16:=HF.out.n;have hlz:r.l.size≤24:=HF.out.ls;have hrz:r.r.size≤24:=HF.out.rs;have hl1:(kstr (fmtF r.l)).size≤720:=ksz (by have:=fmtF_len _ HF.out.l;omega);have hl2:(kstr (fmtF r.r)).size≤720:=ksz (by have:=fmtF_len _ HF.out.r;omega)
    have CL:=Lib.hid (fun W (u:Upd Non w4 W)=>rFormat_c r.l W F a.la a.lc (PtK.upd u (fun _ _ _ f=>f) _ _ _ HRK4.out.l) HF.out.l (by omega));have CR:=Lib.hid (fun W (u:Upd Non w4 W)=>rFormat_c r.r W F a.ra a.rc (PtK.upd u (fun _ _ _ f=>f) _ _ _ HRK4.out.r) HF.out.r (by omega));have HE:=Lib.hid (hd_eq r);have hsz:(hdF r).length≤1600:=hdF_len HF.out
    obtain ⟨f1,Hf1⟩:=nm (kstr (fmtF r.l));obtain ⟨f2,Hf2⟩:=nm (kstr (fmtF r.r));rw [Hf1.out] at CL HE hl1;rw [Hf2.out] at CR HE hl2;unfold pv at CL CR;have HAO:=HA
    go_upto_region 7 with fail
    go_cut [3] (fun v wx=>∃(BB:Option Addr) (bb:Nat) (bs2:Bs),v=.slice BB bs2.length bb∧Hid (Own wx 5 1 BB bs2.length bb (u8s bs2))∧Hid (∀q,At BB q→w.heap.size≤q)∧Hid (bs2=bs++hdF r)∧Hid (Upd (At BA) w4 wx))
    case first =>
     obtain ⟨wD,HwD⟩:=nm w4.drew
     have uD:Upd Non w4 wD:=by rw [←HwD.out];exact Upd.refl.drew
     have hbD:=HB4.out.upd uD (fun f=>f);unfold rlCells at hbD
     have hq1:¬(9223372036854775807<5+r.name.size):=by omega
     have hq2:¬(9223372036854775807<5+r.name.size+2):=by omega
     have hq3:¬(9223372036854775807<5+r.name.size+2+f1.size):=by omega
     have hq4:¬(9223372036854775807<5+r.name.size+2+f1.size+4):=by omega
     have hq5:¬(9223372036854775807<5+r.name.size+2+f1.size+4+f2.size):=by omega
     refine wp_region_held_drew (S:=fun w'=>w'.cell? ⟨wr.heap.size,0,none⟩=some (.string r.name)∧w'.cell? ⟨wr.heap.size,1,none⟩=some (.int .i64 r.l.v)∧w'.cell? ⟨wr.heap.size,2,none⟩=some (.int .i64 r.l.op)∧w'.cell? ⟨wr.heap.size,3,none⟩=some (.int .i64 r.l.imm)∧w'.cell? ⟨wr.heap.size,4,none⟩=some (.int .i64 r.l.iv)∧w'.cell? ⟨wr.heap.size,5,none⟩=some (.slice a.la r.l.kids.length a.lc)∧w'.cell? ⟨wr.heap.size,6,none⟩=some (.int .i64 r.r.v)∧w'.cell? ⟨wr.heap.size,7,none⟩=some (.int .i64 r.r.op)∧w'.cell? ⟨wr.heap.size,8,none⟩=some (.int .i64 r.r.imm)∧w'.cell? ⟨wr.heap.size,9,none⟩=some (.int .i64 r.r.iv)∧w'.cell? ⟨wr.heap.size,10,none⟩=some (.slice a.ra r.r.kids.length a.rc)) (by kernel_rfl) (by rw [HwD.out];exact ⟨hbD.cell 0,hbD.cell 1,hbD.cell 2,hbD.cell 3,hbD.cell 4,hbD.cell 5,hbD.cell 6,hbD.cell 7,hbD.cell 8,hbD.cell 9,hbD.cell 10⟩) (fun hHeld=>?_)
     rw [HwD.out] at hHeld ⊢;refine wpT 0 ?_
     try simp only [put_y,put_z]
     refine wpT 1 ?_
     try simp only [put_y,put_z]
     refine wpT 2 ?_
     try simp only [put_y,put_z]
     refine wpT 3 ?_
     try simp only [put_y,put_z]
     refine wpT 4 ?_
     try simp only [put_y,put_z]
     refine wpT 5 ?_
     try simp only [put_y,put_z]
     refine wpT 6 ?_
     try simp only [put_y,put_z]
     refine wpT 10 ?_
     try simp only [put_y,put_z]
     refine wpT 11 ?_
     try simp only [put_y,put_z]
     refine wpAnyH_ready (rs:=[7]) (by kernel_rfl) (by simp) ?_;refine AllReadyH.cons rfl (fun K hK=>?_) AllReadyH.nil;go_simp;refine (CL.out _ uD).mono ?_;rintro e w5 ⟨rfl,u5⟩;have h5:Upd Non w4 w5:=uD.then_non u5;have hb5:=HB4.out.upd h5 (fun f=>f);unfold rlCells at hb5
     go_wp2_with fail
     refine hK.out _ _ ?_ (fun hHeld=>?_)
     ·
      exact ⟨hb5.cell 0,hb5.cell 1,hb5.cell 2,hb5.cell 3,hb5.cell 4,hb5.cell 5,hb5.cell 6,hb5.cell 7,hb5.cell 8,hb5.cell 9,hb5.cell 10⟩
     clear hK K
     try simp only [put_y,put_z]
     refine wpT 8 ?_
     try simp only [put_y,put_z]
     refine wpT 9 ?_
     try simp only [put_y,put_z]
     refine wpAnyH_ready (rs:=[12]) (by kernel_rfl) (by simp) ?_;refine AllReadyH.cons rfl (fun K hK=>?_) AllReadyH.nil;go_simp;refine (CR.out _ h5).mono ?_;rintro e w6 ⟨rfl,u6⟩;have h6:Upd Non w4 w6:=h5.then_non u6;have hb6:=HB4.out.upd h6 (fun f=>f);unfold rlCells at hb6
     go_wp2_with fail
     refine hK.out _ _ ?_ (fun hHeld=>?_)
     ·
      exact ⟨hb6.cell 0,hb6.cell 1,hb6.cell 2,hb6.cell 3,hb6.cell 4,hb6.cell 5,hb6.cell 6,hb6.cell 7,hb6.cell 8,hb6.cell 9,hb6.cell 10⟩
     clear hK K
     try simp only [put_y,put_z]
     refine wpT 13 ?_
     try simp only [put_y,put_z]
     refine wpAnyH_ready (rs:=[14]) (by kernel_rfl) (by simp) ?_;refine AllReadyH.cons rfl (fun K hK=>?_) AllReadyH.nil;have ho6:=Own.upd HO4.out h6 (fun _ _ f=>f);have hs6:=h6.size;have hU6:=HU4.out.size
     have hsq:((((({ data:=#[114,117,108,101,32] }:ByteArray)++r.name)++{ data:=#[58,32] })++f1)++{ data:=#[32,61,62,32] }++f2).size≤1600:=by rw [←kx_len,HE.out];exact hsz
     refine step_apps rfl rfl rfl ho6 HA.out (by omega) rfl (by omega) ?_;intro BB bb w7 ho7 hu7 hat7;rw [HE.out] at ho7;have h7:Upd (At BA) w4 w7:=(h6.mono (fun _ _ f=>f.elim)).trans hu7 (fun _ _ q=>q);have hne:¬At BA wr.heap.size:=Own.ne_blk ho6 hb6 (by decide);have hb7:=hb6.upd hu7 hne;refine hK.out _ _ ?_ (fun hHeld=>?_)
     ·
      exact ⟨hb7.cell 0,hb7.cell 1,hb7.cell 2,hb7.cell 3,hb7.cell 4,hb7.cell 5,hb7.cell 6,hb7.cell 7,hb7.cell 8,hb7.cell 9,hb7.cell 10⟩
     clear hK K
     try simp only [put_y,put_z]
     refine wpT 15 ?_
     try simp only [put_y,put_z]
     refine wpAnyH_done (by kernel_rfl) ?_ _
     have HLE:Hid ((((((({ data:=#[114,117,108,101,32] }:ByteArray)++r.name)++{ data:=#[58,32] })++f1)++{ data:=#[32,61,62,32] }++f2).size=(hdF r).length)):=by show _=_;rw [←kx_len,HE.out]
     have HLS:Hid (5+r.name.size+2+f1.size+4+f2.size=(hdF r).length):=by
      show _=_;rw [←HLE.out];simp only [ByteArray.size_append',ByteArray.size_mk'];rfl
     have HO7:=Lib.hid ho7;have HU7:=Lib.hid h7;have HA7:=Lib.hid hat7;clear ho7 hu7 hat7 h7 hb7 hb6 hb5 hbD ho6 h6 h5 uD hq1 hq2 hq3 hq4 hq5
     go_wp2_with fail
     go_meet
     case rel =>
      refine ⟨BB,bb,bs++hdF r,?_,?_,HA7,rfl,HU7⟩
      ·
       rw [List.length_append,←HLS.out]
      ·
       show Own _ _ _ _ _ _ _;have:=HO7.out;rw [HLE.out] at this;rw [List.length_append];exact this
    case rest =>
     clear CL CR HE hl1 hl2;obtain ⟨BB,bb,bs2,rfl,HO,HA,HBS,HUC⟩:=hcut;have hne:¬At BA wr.heap.size:=Own.ne_blk HO4.out HB4.out (by decide);have hbc:=HB4.out.upd HUC.out hne;unfold rlCells at hbc;have c11:=hbc.cell 11;have hwlt:w.heap.size≤wr.heap.size:=HU.out.size;have HUW:Hid (Upd Non w wc):=HU4.out.trans HUC.out (fun q hq e=>by have:=HAO.out q e;omega)
     obtain ⟨m,Hm⟩:=nm r.conds.length;obtain ⟨ca,Hca⟩:=nm a.ca;rw [Hm.out,Hca.out] at c11
     have hm6:m≤6:=by rw [←Hm.out];exact HF.out.few
     have hb2l:bs2.length≤2000 * k+1600:=by rw [HBS.out,List.length_append];omega
     clear hbc
     go_wp2_with fail
     go_loopg [3,6,7,8,36] m (fun g v _ _ _ iv wq=>∃(q:Nat) (BB:Option Addr) (bb:Nat) (b3:Bs),Hid (g=m - q)∧q≤m∧iv=.int .i64 q∧v=.slice BB b3.length bb∧Hid (Own wq 5 1 BB b3.length bb (u8s b3))∧Hid (∀q,At BB q→w.heap.size≤q)∧Hid (b3=bs2++fmtCs (r.conds.take q) true)∧b3.length≤bs2.length+50 * q∧Hid (Upd Non w wq))
     case atStart=>exact ⟨0,BB,bb,bs2,rfl,Nat.zero_le _,rfl,rfl,HO,HA,by show _=_;simp [fmtCs],by omega,HUW⟩
     case round =>
      clear HO HA HUC HUW hne c11;obtain ⟨q,BB,bb,b3,Hgq,hq,rfl,rfl,HO,HA,HB3,hb3l,HUQ⟩:=hrel
      by_cases hqt:q<m
      ·
       have hql:q<r.conds.length:=by rw [Hm.out];exact hqt
       have htk:=(HRW.out.c.upd HUQ.out (fun _ _ _ f=>f)).take hql;rw [Hca.out] at htk;obtain ⟨b',o',rfl,hbw',y0,y1,y2,y3⟩:=htk;have HCF:=Lib.hid (HF.out.c _ (List.getElem_mem hql));have HTC:Hid (r.conds.take (q+1)=r.conds.take q++[r.conds[q]]):=take_snoc' hql;generalize r.conds[q]=cd at *
       have CFC:=Lib.hid (rFormatCond_c cd HCF.out (wr.alloc (.cells #[.int .i64 cd.kind,.int .i64 cd.a,.int .i64 cd.b,.int .i64 cd.n] 69)));have hzc:(kstr (fmtC cd)).size≤40:=ksz (fmtC_len HCF.out);have HKC:Hid (kx (kstr (fmtC cd))=fmtC cd):=kx_kstr _;obtain ⟨fc,Hfc⟩:=nm (kstr (fmtC cd));rw [Hfc.out] at CFC hzc HKC
       by_cases hq0:q=0
       ·
        have tq:((q:Int)==0)=true:=by simp;omega
        have HE:Hid (kx (({ data:=#[32,105,102,32] }:ByteArray)++fc)=(if true&&(r.conds.take q).isEmpty then [32,105,102,32] else [44,32])++fmtC cd):=by
         show _=_;rw [show (true&&(r.conds.take q).isEmpty)=true by rw [hq0];rfl,if_pos rfl];rw [←HKC.out];simp [kx]
        have hsz:(({ data:=#[32,105,102,32] }:ByteArray)++fc).size≤44:=by rw [ByteArray.size_append'];show 4+fc.size≤44;omega
        clear hq0;have hsl:w.heap.size≤wr.heap.size:=HUQ.out.size
        go_wp2_with fail
        refine CFC.out.mono ?_;rintro e w8 ⟨rfl,hu8⟩;have ua:Upd Non wr w8:=(Upd.refl.alloc (S:=Non) (.cells #[.int .i64 cd.kind,.int .i64 cd.a,.int .i64 cd.b,.int .i64 cd.n] 69)).then_non hu8;have hsl8:w.heap.size≤w8.heap.size:=Nat.le_trans hsl ua.size;have ho8:=Own.upd HO.out ua (fun _ _ f=>f);clear CFC hu8 y0 y1 y2 y3
        go_wp2_with (at_builtin;refine wpList_apps rfl rfl rfl ho8 HA.out hsl8 rfl (by omega) ?_;intro B4 b4 w9 ho9 hu9 hat9)
        rw [HE.out] at ho9;have HU9:Hid (Upd Non w w9):=(HUQ.out.then_non ua).trans hu9 (fun j hj e=>by have:=HA.out j e;omega)
        have HLN:Hid ((({ data:=#[32,105,102,32] }:ByteArray)++fc).size=((if true&&(r.conds.take q).isEmpty then [32,105,102,32] else [44,32])++fmtC cd).length):=by show _=_;rw [←HE.out,kx_len]
        have HLM:Hid (4+fc.size=((if true&&(r.conds.take q).isEmpty then [32,105,102,32] else [44,32])++fmtC cd).length):=by
         show _=_;rw [←HLN.out,ByteArray.size_append'];rfl
        have hs44:4+fc.size≤44:=by omega
        rw [HLN.out] at ho9;have HO9:=Lib.hid ho9;have HA9:=Lib.hid hat9;clear ho9 hu9 hat9 ho8 ua hsz
        go_roundg (m - (q+1))
        case measure=>rw [Hgq.out];omega
        case rel =>
         refine ⟨q+1,B4,b4,b3++((if true&&(r.conds.take q).isEmpty then [32,105,102,32] else [44,32])++fmtC cd),rfl,by omega,by go_num,by rw [List.length_append,←HLM.out],?_,HA9.out,?_,?_,HU9⟩
         ·
          show Own _ _ _ _ _ _ _;rw [List.length_append];exact HO9.out
         ·
          show _=_;rw [HTC.out,fmtCs_snoc,HB3.out,List.append_assoc]
         ·
          rw [List.length_append,←HLM.out];omega
       ·
        have tq:((q:Int)==0)=false:=by simp;omega
        have HE:Hid (kx (({ data:=#[44,32] }:ByteArray)++fc)=(if true&&(r.conds.take q).isEmpty then [32,105,102,32] else [44,32])++fmtC cd):=by
         show _=_
         rw [show (true&&(r.conds.take q).isEmpty)=false by rw [Bool.true_and,List.isEmpty_eq_false_iff];intro ht;have:=congrArg List.length ht;rw [List.length_take] at this;simp only [List.length_nil] at this;omega,if_neg (by decide)]
         rw [←HKC.out];simp [kx]
        have hsz:(({ data:=#[44,32] }:ByteArray)++fc).size≤44:=by rw [ByteArray.size_append'];show 2+fc.size≤44;omega
        clear hq0;have hsl:w.heap.size≤wr.heap.size:=HUQ.out.size
        go_wp2_with fail
        refine CFC.out.mono ?_;rintro e w8 ⟨rfl,hu8⟩;have ua:Upd Non wr w8:=(Upd.refl.alloc (S:=Non) (.cells #[.int .i64 cd.kind,.int .i64 cd.a,.int .i64 cd.b,.int .i64 cd.n] 69)).then_non hu8;have hsl8:w.heap.size≤w8.heap.size:=Nat.le_trans hsl ua.size;have ho8:=Own.upd HO.out ua (fun _ _ f=>f);clear CFC hu8 y0 y1 y2 y3
        go_wp2_with (at_builtin;refine wpList_apps rfl rfl rfl ho8 HA.out hsl8 rfl (by omega) ?_;intro B4 b4 w9 ho9 hu9 hat9)
        rw [HE.out] at ho9;have HU9:Hid (Upd Non w w9):=(HUQ.out.then_non ua).trans hu9 (fun j hj e=>by have:=HA.out j e;omega)
        have HLN:Hid ((({ data:=#[44,32] }:ByteArray)++fc).size=((if true&&(r.conds.take q).isEmpty then [32,105,102,32] else [44,32])++fmtC cd).length):=by show _=_;rw [←HE.out,kx_len]
        have HLM:Hid (2+fc.size=((if true&&(r.conds.take q).isEmpty then [32,105,102,32] else [44,32])++fmtC cd).length):=by
         show _=_;rw [←HLN.out,ByteArray.size_append'];rfl
        have hs44:2+fc.size≤44:=by omega
        rw [HLN.out] at ho9;have HO9:=Lib.hid ho9;have HA9:=Lib.hid hat9;clear ho9 hu9 hat9 ho8 ua hsz
        go_roundg (m - (q+1))
        case measure=>rw [Hgq.out];omega
        case rel =>
         refine ⟨q+1,B4,b4,b3++((if true&&(r.conds.take q).isEmpty then [32,105,102,32] else [44,32])++fmtC cd),rfl,by omega,by go_num,by rw [List.length_append,←HLM.out],?_,HA9.out,?_,?_,HU9⟩
         ·
          show Own _ _ _ _ _ _ _;rw [List.length_append];exact HO9.out
         ·
          show _=_;rw [HTC.out,fmtCs_snoc,HB3.out,List.append_assoc]
         ·
          rw [List.length_append,←HLM.out];omega
      ·
       obtain rfl:m=q:=by omega
       have hsl:w.heap.size≤wr.heap.size:=HUQ.out.size;have HZE:Hid (kx ({ data:=#[59,10] }:ByteArray)=[59,10]):=rfl;have hsz2:({ data:=#[59,10] }:ByteArray).size=2:=rfl
       go_wp2_with (at_builtin;refine wpList_apps rfl rfl rfl HO.out HA.out hsl rfl (by omega) ?_;intro B4 b4 w9 ho9 hu9 hat9)
       have HT:Hid (b3++[59,10]=fmtRs (L.take (k+1))):=by
        show _=_;rw [HTK.out,fmtRs_snoc,fmtR_hd,HB3.out,HBS.out,HB.out,←Hm.out,List.take_length];simp
       have HIA:Hid (∀x∈L.take (k+1),implF x=true):=fun x hx=>by
        rw [HTK.out] at hx
        rcases List.mem_append.1 hx with hx | hx
        ·
         exact HI2.out x hx
        ·
         rw [List.mem_singleton] at hx;subst hx;exact Hv.out
       have HU9:Hid (Upd Non w w9):=HUQ.out.trans hu9 (fun j hj e=>by have:=HA.out j e;omega);rw [HZE.out,HT.out] at ho9;have HO9:=Lib.hid ho9;have HA9:=Lib.hid hat9;clear ho9 hu9 hat9
       go_roundg (n - (k+1))
       case measure=>rw [Hg.out];omega
       case rel =>
        have hlen:b3.length+2=(fmtRs (L.take (k+1))).length:=by rw [←HT.out];simp
        refine ⟨k+1,B4,b4,fmtRs (L.take (k+1)),rfl,by omega,by go_num,by rw [←hlen],?_,HA9.out,rfl,?_,HIA,HU9⟩
        ·
         show Own _ _ _ _ _ _ _;rw [←hlen];exact HO9.out
        ·
         have:=fmtRs_len (L:=L.take (k+1)) (fun x hx=>impl_fm (HIA.out x hx) (HI.out x (List.mem_of_mem_take hx)));rw [List.length_take] at this;omega
  ·
   obtain rfl:n=k:=by omega
   have hcv:=conv_own HO.out rfl
   have HE:Hid (kstr bs=res):=by
    show _=_;rw [←Hres.out,HB.out];unfold printF;have h1:=HI2.out;rw [←Hn.out,List.take_length] at h1 ⊢;rw [if_pos (List.all_eq_true.2 h1)]
   rw [HE.out] at hcv
   go_wp2_with fail
   go_ret;exact ⟨rfl,HU.out⟩
theorem rParse_all (s:ByteArray) (w:World):Calls Tryz.prog 10 #[.string s] w (ParseP (parseF (kx s)) w) :=
 rParse_c axiomF axiomF_sz s (fun _ q w=>rAxiom_c q w) w
def nmCs (l:List (Bs×Bs)):List Value:=l.map fun x=>.string (kstr x.1)
theorem nmCs_snoc (l:List (Bs×Bs)) (x:Bs×Bs):nmCs (l++[x])=nmCs l++[.string (kstr x.1)]:=by simp [nmCs]
theorem T_strs:SlT Tryz.prog 27 9 1 16:=by
 obtain ⟨i,h1,h2,h3,h4⟩:=info_parts (show (Tryz.prog.info? 9).map (fun i=>(i.zero,i.size,i.bytes))=some (some (.string ⟨#[]⟩),1,16) from by kernel_rfl)
 exact ⟨Tryz.underlying27,⟨i,_,h1,h2,h3,h4,rfl⟩,by omega⟩
set_option maxRecDepth 100000 in
set_option maxHeartbeats 1000000 in
theorem rAxioms_c (w:World):Calls Tryz.prog 17 #[] w fun e w'=>∃(A:Option Addr) (c:Nat),e=.returned (.slice A 22 c)∧Own w' 9 1 A 22 c (nmCs axL)∧(∀k,At A k→w.heap.size≤k)∧Upd Non w w':=by
 have CA:=Lib.hid (raxioms_c w);go_enter Tryz.func17,Tryz.ntmps17
 go_wp2_with fail
 refine CA.out.mono ?_;rintro e w2 ⟨rfl,hbt,hu2⟩;have HT:=Lib.hid hbt;have HU2:=Lib.hid hu2;have hs2:=hu2.size;clear hbt hu2 CA
 go_wp2_with fail
 go_loopg [1,3,6] 22 (fun g v _ iv wr=>∃(j:Nat) (A:Option Addr) (c:Nat),Hid (g=22 - j)∧j≤22∧iv=.int .i64 j∧v=.slice A j c∧Hid (Own wr 9 1 A j c (nmCs (axL.take j)))∧Hid (∀k,At A k→w2.heap.size≤k)∧Hid (Upd Non w2 wr))
 case atStart=>exact ⟨0,none,0,rfl,Nat.zero_le _,rfl,rfl,Own.none_,fun _ q=>(At.none_ q).elim,Upd.refl⟩
 case round =>
  obtain ⟨j,A,c,Hg,hj,rfl,rfl,HO,HA,HU⟩:=hrel;have hb:=HT.out.upd HU.out (fun f=>f)
  by_cases hlt:j<22
  ·
   have hal:j<axL.length:=hlt;obtain ⟨k0,k1⟩:=axCs_get hal
   have c0:wr.cell? ⟨w.heap.size,j * 2,none⟩=some (.string (kstr axL[j].1)):=by rw [hb.cell];simpa using k0
   have c1:wr.cell? ⟨w.heap.size,j * 2+1,none⟩=some (.string (kstr axL[j].2)):=by rw [hb.cell];simpa using k1
   have HTK:Hid (axL.take (j+1)=axL.take j++[axL[j]]):=take_snoc' hal;generalize axL[j]=xx at *;obtain ⟨qa,Hqa⟩:=nm (kstr xx.1);obtain ⟨qb,Hqb⟩:=nm (kstr xx.2);rw [Hqa.out] at c0;rw [Hqb.out] at c1;have hsl:=HU.out.size;obtain ⟨W3,HW3⟩:=nm (wr.alloc (.cells #[.string qa,.string qb] 82));have e3:=HW3.out
   have u3:Upd Non wr W3:=by rw [←e3];exact Upd.refl.alloc _
   have b3:Blk W3 wr.heap.size 82 #[.string qa,.string qb]:=by rw [←e3];exact Blk.new _ _ _
   have z0:=b3.cell 0;have hs3:=u3.size;have hoA:=Own.upd HO.out u3 (fun _ _ f=>f);have HU3:=Lib.hid (HU.out.then_non u3);clear k0 k1 hb b3 u3
   go_wp2_with (at_builtin;refine wpList_app rfl rfl T_strs rfl (hoA.alloc _) rfl (Sl.new _ _ _) rfl (by simp [Value.oneCell']) (by simp only [maxLen];omega) (by omega) ?_;intro A4 c4 w4 ho4 hu4 hat4)
   have HU4:Hid (Upd Non w2 w4):=(HU3.out.alloc _).trans hu4 (fun k hk e=>by have:=HA.out k e;omega)
   have HA4:Hid (∀k,At A4 k→w2.heap.size≤k):=fun k hk=>by
    rcases hat4 k hk with q | q
    ·
     exact HA.out k q
    ·
     simp at q;omega
   have HO4:Hid (Own w4 9 1 A4 (j+1) c4 (nmCs (axL.take (j+1)))):=by
    show Own _ _ _ _ _ _ _;rw [HTK.out,nmCs_snoc,Hqa.out];exact ho4
   clear ho4 hu4 hat4 hoA
   go_roundg (22 - (j+1))
   case measure=>rw [Hg.out];omega
   case rel=>exact ⟨j+1,A4,c4,rfl,by omega,by go_num,rfl,HO4.out,HA4.out,HU4.out⟩
  ·
   obtain rfl:j=22:=by omega
   clear hb;have hO:=HO.out;rw [List.take_of_length_le (show axL.length≤22 from Nat.le_refl _)] at hO;have HO2:=Lib.hid hO;clear hO
   go_wp2_with fail
   go_ret;exact ⟨A,c,rfl,HO2.out,fun k hk=>by have:=HA.out k hk;omega,HU2.out.then_non HU.out⟩
def riB (r:Rl):Bool:=(nodes r.l).all (fun q=>decide (-9223372036854775808≤q.imm∧q.imm≤9223372036854775807))&&(nodes r.r).all (fun q=>decide (-9223372036854775808≤q.imm∧q.imm≤9223372036854775807))&&r.conds.all (fun c=>decide (-9223372036854775808≤c.n∧c.n≤9223372036854775807))
theorem riB_ok {r:Rl} (h:riB r=true):RlI r:=by
 simp only [riB,Bool.and_eq_true,List.all_eq_true,decide_eq_true_eq] at h;exact ⟨fun q hq=>h.1.1 q hq,fun q hq=>h.1.2 q hq,fun q hq=>h.2 q hq⟩
theorem szB_ok {r:Rl} (h:szB r=true):RlSz r:=by
 simp only [szB,Bool.and_eq_true,decide_eq_true_eq] at h;exact ⟨h.1.1.1,h.1.1.2,h.1.2,h.2⟩
theorem ktl (l:Bs):(kstr l).toList=l:=by rw [ByteArray.toList_eq];rfl
def exT1:Bs:=[114,117,108,101,32,122,101,114,111,58,32,40,97,100,100,32,63,120,32,48,41,32,61,62,32,63,120,59,32,47,47,32,115,111]
def exT2:Bs:=[97,120,105,111,109,32,110,111,116,104,105,110,103,59]
def exP:Bs:=[114,117,108,101,32,122,101,114,111,58,32,40,97,100,100,32,63,97,32,48,41,32,61,62,32,63,97,59,10]
theorem ex1:(match parseF exT1 with | .ok [r]=>decide (kx r.name=[122,101,114,111])&&decide (r.vars=1)&&decide (printF [r]=exP)&&szB r&&riB r | _=>false)=true:=by decide +kernel
theorem ex2:(match parseF exT2 with | .error e=>decide (e.1=3)&&decide (e.2=6) | _=>false)=true:=by decide +kernel
theorem ex1':∃r,parseF exT1=.ok [r]∧r.name=kstr [122,101,114,111]∧r.vars=1∧printF [r]=exP∧RlSz r∧RlI r:=by
 have h:=ex1
 split at h
 ·
  rename_i r he;simp only [Bool.and_eq_true,decide_eq_true_eq] at h;exact ⟨r,he,by apply kx_inj;rw [kx_kstr];exact h.1.1.1.1,h.1.1.1.2,h.1.1.2,szB_ok h.1.2,riB_ok h.2⟩
 ·
  cases h
theorem ex2':parseF exT2=.error (3,6):=by
 have h:=ex2
 split at h
 ·
  rename_i e he;simp only [Bool.and_eq_true,decide_eq_true_eq] at h;rw [he];obtain ⟨a,b⟩:=e;rw [show a=3 from h.1,show b=6 from h.2]
 ·
  cases h
set_option maxRecDepth 100000 in
set_option maxHeartbeats 1000000 in
theorem RuExamples_c (w:World):Calls Tryz.prog 6 #[] w fun e w'=>e=.returned (.bool true)∧Upd Non w w':=by
 obtain ⟨r,hp,hnm,hvr,hpr,hsz,hri⟩:=ex1';have C1:=Lib.hid (rParse_all (kstr exT1) w);rw [kx_kstr,hp] at C1;have C2:=Lib.hid (fun W=>rParse_all (kstr exT2) W);have CX:=Lib.hid (fun W=>rAxioms_c W);have HP:=Lib.hid hpr;have HS:=Lib.hid hsz;have HI:=Lib.hid hri;clear hp hpr hsz hri;go_enter Tryz.func6,Tryz.ntmps6
 go_wp2_with fail
 refine C1.out.mono ?_;rintro e w1 ⟨u1,h⟩
 rcases h with ⟨er,h,_⟩ | ⟨Q,A,c,h,rfl,hv,hle⟩
 ·
  cases h
 injection h with h
 subst h;have hs1:=u1.size;have HU1:=Lib.hid u1;have HV:=Lib.hid hv;clear u1 hv hle;obtain ⟨W2,HW2⟩:=nm (w1.alloc (.cells #[.int .i64 0,.int .i64 0] 31))
 have u2:Upd Non w1 W2:=by rw [←HW2.out];exact Upd.refl.alloc _
 have b2:Blk W2 w1.heap.size 31 #[.int .i64 0,.int .i64 0]:=by rw [←HW2.out];exact Blk.new _ _ _
 have C22:=Lib.hid (C2.out W2);rw [kx_kstr,ex2'] at C22
 go_upto_region 2 with fail
 rw [HW2.out]
 go_wp2_with fail
 refine C22.out.mono ?_;rintro e w3 ⟨u3,h⟩
 rcases h with ⟨er,h,rfl⟩ | ⟨Q,A,c,h,_⟩
 rotate_left
 ·
  cases h
 injection h with h
 subst h;have b3:=b2.upd u3 (fun f=>f);obtain ⟨W4,HW4⟩:=nm (w3.alloc (.cells #[.int .i64 3,.int .i64 6] 31))
 have u4:Upd Non w3 W4:=by rw [←HW4.out];exact Upd.refl.alloc _
 have b4:Blk W4 w3.heap.size 31 #[.int .i64 3,.int .i64 6]:=by rw [←HW4.out];exact Blk.new _ _ _
 have b5:=b3.upd u4 (fun f=>f);have U4:=(u2.then_non u3).then_non u4;have HB4:=Lib.hid b4;have HB5:=Lib.hid b5;have HU4:=Lib.hid U4;have hV:=HV.out.upd U4 (fun _ _ _ f=>f);obtain ⟨b,o,a,rfl,_,hbw,hat,_⟩:=hV.at_ (i:=0) (by simp)
 have CP:=Lib.hid (rPrint_c W4 _ _ c [r] hV (fun x hx=>by rw [List.mem_singleton] at hx;rw [hx];exact HS.out) (fun x hx=>by rw [List.mem_singleton] at hx;rw [hx];exact HI.out) (by simp))
 rw [HP.out] at CP;unfold RlAt at hat;rw [List.getElem_cons_zero,Nat.zero_mul,Nat.add_zero,hnm,hvr] at hat;obtain ⟨x0,_,_,_,_,_,_,_,_,_,_,_,x12,_⟩:=hat
 go_upto_region 3 with fail
 rw [HW4.out];have y0:=b5.cell 0;have y1:=b5.cell 1;have z0:=b4.cell 0;have z1:=b4.cell 1;clear C1 C2 C22 HW2 HW4 b2 b3 b4 b5 u2 u3 u4 U4
 have hq1:((kstr [122,101,114,111]).toList==[122,101,114,111])=true:=by rw [ktl];rfl
 have hq2:((kstr exP).toList==[114,117,108,101,32,122,101,114,111,58,32,40,97,100,100,32,63,97,32,48,41,32,61,62,32,63,97,59,10])=true:=by rw [ktl];rfl
 obtain ⟨nz,Hnz⟩:=nm (kstr [122,101,114,111]);obtain ⟨ps,Hps⟩:=nm (kstr exP);rw [Hnz.out] at x0 hq1;rw [Hps.out] at CP hq2
 go_wp2_with fail
 refine CP.out.mono ?_;rintro e w5 ⟨rfl,u5⟩;have z0:=cell_upd z0 u5 (fun f=>f);have z1:=cell_upd z1 u5 (fun f=>f);have CA:=Lib.hid (CX.out w5);have HU5:=Lib.hid (HU4.out.then_non u5);clear CP x0 x12 y0 y1
 go_wp2_with fail
 refine CA.out.mono ?_;rintro e w6 ⟨A6,c6,rfl,_,_,u6⟩;clear CA z0 z1
 go_wp2_with fail
 go_ret;exact ⟨rfl,(HU1.out.then_non HU5.out).then_non u6⟩
theorem i64_0 (n:Int) (h:-1000≤n∧n≤1000):I64 n:=by unfold I64;omega
theorem leafF_i {sort:Int} {dp:Bool} {vars:Int} {st:Bool} {n:Int} (h:I64 n):PI (leafF sort dp vars st n):=by
 have key:∀(v op imm iv:Int),I64 imm→PI (.mk v op imm iv []):=fun v op imm iv hi q hq=>by
  simp only [nodes,nodesL,List.mem_singleton] at hq;subst hq;exact hi
 unfold leafF
 split
 ·
  exact key _ _ _ _ (i64_0 _ (by omega))
 ·
  split
  ·
   exact key _ _ _ _ (wordF_i64 _ h)
  ·
   split <;> exact key _ _ _ _ (i64_0 _ (by omega))
theorem tail_i {xs:List Int} (h:∀x∈xs,I64 x):∀x∈xs.tail,I64 x:=fun x hx=>h x (List.mem_of_mem_tail hx)
theorem head_i {xs:List Int} (h:∀x∈xs,I64 x):I64 (xs.headD 0):=by
 cases xs with
 | nil=>exact i64_0 _ (by simp)
 | cons x xs=>exact h x List.mem_cons_self
theorem nodesL_of {q:Pt}:∀{ks:List Pt},q∈nodesL ks→∃k∈ks,q∈nodes k
 | [],h=>by simp [nodesL] at h
 | k::ks,h=>by
  rw [nodesL,List.mem_append] at h
  rcases h with h | h
  ·
   exact ⟨k,List.mem_cons_self,h⟩
  ·
   obtain ⟨k2,h1,h2⟩:=nodesL_of h;exact ⟨k2,List.mem_cons_of_mem _ h1,h2⟩
theorem PI.mk {v op imm iv:Int} {ks:List Pt} (hi:I64 imm) (h:∀k∈ks,PI k):PI (.mk v op imm iv ks):=by
 intro q hq;rw [nodes_eq,List.mem_cons] at hq
 rcases hq with rfl | hq
 ·
  exact hi
 ·
  obtain ⟨k,h1,h2⟩:=nodesL_of hq;exact h k h1 q h2
theorem kImm_i (op n:Int):I64 (kImmF op n).1:=by
 unfold kImmF
 split
 ·
  split
  ·
   dsimp only
   split
   ·
    exact i64_0 _ (by omega)
   ·
    exact i64_0 _ (by omega)
  ·
   exact i64_0 _ (by simp)
 ·
  exact i64_0 _ (by simp)
theorem patF_i (vars:Int) (st:Bool):∀(f:Nat) (s:Int) (xs:List Int),(∀x∈xs,I64 x)→PI (patF vars st f s xs).1∧∀x∈(patF vars st f s xs).2,I64 x
 | 0,s,xs,h=>⟨leafF_i (head_i h),tail_i h⟩
 | f+1,s,xs,h=>by
  rw [patF]
  split
  ·
   exact ⟨leafF_i (head_i h),tail_i h⟩
  ·
   have key:∀(ss:List Int) (xs:List Int),(∀x∈xs,I64 x)→(∀k∈(kidsG (patF vars st f) ss xs).1,PI k)∧∀x∈(kidsG (patF vars st f) ss xs).2,I64 x:=by
    intro ss
    induction ss with
    | nil=>intro xs h;exact ⟨fun k hk=>by simp [kidsG] at hk,h⟩
    | cons s ss ih =>
     intro xs h;obtain ⟨h1,h2⟩:=patF_i vars st f s xs h;obtain ⟨h3,h4⟩:=ih _ h2;simp only [kidsG]
     exact ⟨fun k hk=>by
      rcases List.mem_cons.1 hk with rfl | hk
      ·
       exact h1
      ·
       exact h3 k hk,h4⟩
   obtain ⟨h1,h2⟩:=key (sortsOf (kOpF s st (xs.headD 0))) xs.tail (tail_i h);exact ⟨.mk (kImm_i _ _) h1,h2⟩
theorem numF_i (p:Pt):∀(vs ms:List Int),PI p→PI (numF p vs ms).1:=by
 induction p using Pt.ind with
 | h p ih =>
  intro vs ms hp;have hI:=hp p (nodes_self p)
  by_cases hv:0<p.v
  ·
   rw [numF_var hv]
   exact .mk hI fun k hk=>hp.kid hk
  ·
   rw [numF_op hv];refine .mk hI ?_
   have key:∀(ks:List Pt),(∀k∈ks,PI k∧∀(vs ms:List Int),PI k→PI (numF k vs ms).1)→∀vs ms,∀k∈(numL ks vs ms).1,PI k:=by
    intro ks
    induction ks with
    | nil=>intro _ vs ms k hk;simp [numL] at hk
    | cons k ks ihk =>
     intro hh vs ms q hq;simp only [numL] at hq;obtain ⟨h1,h2⟩:=hh k List.mem_cons_self
     rcases List.mem_cons.1 hq with rfl | hq
     ·
      exact h2 _ _ h1
     ·
      exact ihk (fun q hq=>hh q (List.mem_cons_of_mem _ hq)) _ _ q hq
   exact key _ (fun k hk=>⟨hp.kid hk,ih k hk⟩) _ _
theorem sideF_i {op:Int} {p:Pt} (h:PI p):PI (sideF op p):=by
 unfold sideF
 split
 ·
  exact .mk (i64_0 _ (by omega)) fun k hk=>by rw [List.mem_singleton] at hk;subst hk;exact h
 ·
  exact h
theorem kRule_i (name:ByteArray) (xs:List Int) (h:∀x∈xs,I64 x):RlI (kRuleF name xs):=by
 obtain ⟨h1,h2⟩:=patF_i (3:Nat) false 3 1 xs.tail (tail_i h);have h3:=sideF_i (op:=21) (numF_i _ [] [] h1);unfold kRuleF;dsimp only
 split
 ·
  refine ⟨h3,.mk (wordF_i64 _ (i64_0 _ (by omega))) (fun k hk=>by simp at hk),fun x hx=>by simp at hx⟩
 ·
  refine ⟨h3,(patF_i _ false 2 1 _ h2).1,fun x hx=>?_⟩;simp only [kCondsF] at hx
  (repeat' split at hx) <;> simp at hx <;> subst hx <;> first | exact wordF_i64 _ (i64_0 3 (by omega)) | exact i64_0 0 (by omega)
end Go.Proofs.YtblkgjdhaibhgaaGreat
