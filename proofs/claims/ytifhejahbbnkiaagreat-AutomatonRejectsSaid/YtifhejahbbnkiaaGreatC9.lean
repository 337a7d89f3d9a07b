/-
  Lemmas and walks that the claim rests on, part 9 (packed by a program).
-/
import Derived.Test.YtifhejahbbnkiaaGreatC8
import Derived.Test.YtifhejahbbnkiaaGreatC4
import Derived.Test.YtifhejahbbnkiaaGreatC2
import Derived.Test.YtifhejahbbnkiaaGreatC5
namespace Go.Proofs.YtifhejahbbnkiaaGreat
open Go.RowKit
theorem set_mid2 (l adds:List Bool) (g z b:Bool):((l++[g,z])++adds).set (l.length+1) b=l++([g,b]++adds):=by
 rw [List.append_assoc,List.set_append_right _ _ (by omega),Nat.add_sub_cancel_left];rfl
set_option maxRecDepth 100000 in
set_option maxHeartbeats 16000000 in
theorem rBit_cmp (k:Nat) (hk:k<64) (p:Pt) (hv:¬0<p.v) (ho:15≤p.op∧p.op≤19) (IH:∀q∈p.kids,BitC 180 k q):BitC 180 k p:=by
 intro w F x ins old now NA nc KA kc hrt hp hs hw hb hn hil;have hwI:=(WfP.iff ins.length p).1 hw;obtain ⟨W,HW⟩:=nm (w.alloc (.cells #[.int .i64 p.v,.int .i64 p.op,.int .i64 p.imm,.int .i64 p.iv,.slice KA p.kids.length kc] 38));have hU:Upd Non w W:=by rw [←HW.out];exact Upd.refl.alloc _
 have e0:=HW.out;have hbk:Blk W w.heap.size 38 #[.int .i64 p.v,.int .i64 p.op,.int .i64 p.imm,.int .i64 p.iv,.slice KA p.kids.length kc]:=by rw [←HW.out];exact Blk.new _ _ _
 have HB0:=h_ (hrt.non hU).bs;have HPT:=h_ (PtK.upd hU (fun _ _ _ f=>f) _ _ _ hp);have HUW:=h_ hU;have HFAR:Hid (∀i,F i→i≠x∧¬At NA i):=fun i q=>(hrt.far i q).2
 have HXL:Hid (x<w.heap.size):=hrt.lt;have HNL:Hid (∀i,At NA i→i<w.heap.size):=fun i q=>hrt.own.lt q
 have HPB:Hid (∀w',Upd (fun i=>i=x∨At NA i) W w'→Blk w' w.heap.size 38 #[.int .i64 p.v,.int .i64 p.op,.int .i64 p.imm,.int .i64 p.iv,.slice KA p.kids.length kc]):=fun w' u=>hbk.upd u (fun q=>by
  rcases q with q | q
  ·have:=HXL.out;omega
  ·have:=HNL.out _ q;omega)
 obtain ⟨pb,hpb⟩:∃b,w.heap.size=b:=⟨_,rfl⟩;rw [hpb] at HPB;have c0:W.cell? ⟨pb,0,none⟩=some (.int .i64 p.v):=(HPB.out W Upd.refl).cell 0;have c1:W.cell? ⟨pb,1,none⟩=some (.int .i64 p.op):=(HPB.out W Upd.refl).cell 1;have tv:decide (p.v > 0)=false:=dF_ (by omega);have HPE:=h_ (fun (r:List Bool×List Bool×List Bool) (hr:bitL k (insF ins) p.kids (old.drop (ownN p.op p.kids))=r)=>bitP_op hv k (insF ins) old (r:=r) hr)
 have har:=hwI.2.2.1 (by have:=hwI.1;omega);rw [supF_op hv,Bool.and_eq_true] at hs;have HSK:=h_ hs.2;have HWK:=h_ hwI.2.2.2;have hbn:bN p=ownN p.op p.kids+bL p.kids:=by rw [bN_iff,if_neg hv]
 obtain ⟨n,Hn⟩:=nm now.length;obtain ⟨ol,Hol⟩:=nm old.length;rw [Hn.out] at hn;rw [Hol.out] at hb;have HIL:Hid (ins.length≤1000):=hil;have hop5:p.op=15∨p.op=16∨p.op=17∨p.op=18∨p.op=19:=by omega
 have hown:ownN p.op p.kids=2:=by rcases hop5 with e | e | e | e | e <;> rw [e] <;> rfl
 rw [hown] at hbn HPE;have hl2:p.kids.length=2:=by rw [har];rcases hop5 with e | e | e | e | e <;> rw [e] <;> rfl
 obtain ⟨q0,q1,hk1⟩:∃q0 q1,p.kids=[q0,q1]:=by
  match p.kids,hl2 with
  | [a,b],_=>exact ⟨a,b,rfl⟩
 have hbl:bL p.kids=bN q0+bN q1:=by rw [hk1];simp [bL]
 obtain ⟨g,m,rest,rfl⟩:∃g m rest,old=g::m::rest:=by
  match old,Hol.out,hb with
  | [],e,h=>rw [←e,List.length_nil] at h;omega
  | [a],e,h=>rw [←e,List.length_singleton] at h;omega
  | g::m::r,_,_=>exact ⟨g,m,r,rfl⟩
 have hrl:rest.length+2=ol:=by rw [←Hol.out];rfl
 obtain ⟨kn,Hkn⟩:=nm p.kids.length;rw [Hkn.out] at hl2 HPB e0;have hkn0:(0:Int)<(kn:Int):=by omega
 have hkn1:(1:Int)<(kn:Int):=by omega
 have hs0:=List.all_eq_true.1 HSK.out q0 (by rw [hk1];simp);have hs1:=List.all_eq_true.1 HSK.out q1 (by rw [hk1];simp);have hre:=bitP_rest (k:=k) (f:=insF ins) hs0 (old:=rest) (by omega);obtain ⟨r0,Hr0⟩:=nm (bitP k (insF ins) q0 rest);rw [Hr0.out] at hre;have HK0:=h_ (fun (w1:World) (A1:Option Addr) (k1:Nat) (hB1:BS W NA w1 F x k ins rest (now++[g,false]) A1 k1)=>hB1.kid HFAR.out HPT.out (i:=0) (q:=q0) (by rw [hk1];exact Nat.succ_pos 1) (by simp [hk1]) (IH q0 (by rw [hk1];simp)) hs0 (HWK.out q0 (by rw [hk1];simp)) (by omega) (by rw [List.length_append,Hn.out];simp;omega) hil Hr0.out)
 obtain ⟨a0,rest0,add0⟩:=r0;simp only at HK0 hre;obtain ⟨r1,Hr1⟩:=nm (bitP k (insF ins) q1 rest0);have hr0l:rest0.length=rest.length - bN q0:=by rw [hre.1,List.length_drop]
 have HK1:=h_ (fun (w1:World) (A1:Option Addr) (k1:Nat) (hB1:BS W NA w1 F x k ins rest0 ((now++[g,false])++add0) A1 k1)=>hB1.kid HFAR.out HPT.out (i:=1) (q:=q1) (by rw [hk1];exact Nat.lt_succ_self 1) (by simp [hk1]) (IH q1 (by rw [hk1];simp)) hs1 (HWK.out q1 (by rw [hk1];simp)) (by rw [hr0l];omega) (by rw [List.length_append,List.length_append,Hn.out,hre.2];simp;omega) hil Hr1.out)
 obtain ⟨a1,rest1,add1⟩:=r1;simp only at HK1;have HPE2:=HPE.out ([a0,a1],rest1,add0++add1) (by show bitL k (insF ins) p.kids rest=_;rw [hk1,bitL_two,Hr0.out];simp only [Hr1.out])
 have HRX:Hid (bitP k (insF ins) p (g::m::rest)=(decide (k=0)&&g,rest1,[g,cfF p.op k m a0 a1]++(add0++add1))):=by
  show _=_;rw [HPE2];rcases hop5 with e | e | e | e | e <;> rw [e] <;> rfl
 obtain ⟨op,Hop⟩:=nm p.op;rw [Hop.out] at c1 e0 HRX hop5 HPB ho;have CF:=h_ (fun w'=>rCompareFlag_c op ho k m a0 a1 w');obtain ⟨cf,Hcf⟩:=nm (cfF op k m a0 a1);rw [Hcf.out] at HRX CF;have CT:=HB0.out.takeC;unfold pv;rw [Hkn.out,Hop.out];unfold b8 at CT CF;have hn2:n+2≤1000000:=by omega
 have c4:W.cell? ⟨pb,4,none⟩=some (.slice KA kn kc):=(HPB.out W Upd.refl).cell 4;clear hrt hp hs hw hb hn hwI hbk har hbn hk1 hbl hown HPE HPE2 hl2 hre hr0l hs0 hs1 ho hrl c4;rcases hop5 with e | e | e | e | e
 ·subst e;go_enter Tryz.func180,Tryz.ntmps180;go_wp2_with fail
  refine CT.out.mono ?_;rintro e w1 ⟨rfl,hB1⟩;have CT2:=hB1.takeC;unfold b8 at CT2;clear CT hB1;go_wp2_with fail
  refine CT2.out.mono ?_;rintro e w2 ⟨rfl,hB2⟩;obtain ⟨IA,ic,OA,oc,d0,d1,d2,d3,f3,f2,_,_,_,_⟩:=hB2.cells;have HB2:=h_ hB2;have hO2:=hB2.rt.own;rw [Hn.out] at d3 hO2;clear hB2 CT2
  go_wp2_with (at_builtin;refine wpList_app rfl rfl T_u8s rfl (hO2.alloc _) rfl (Sl.new _ _ _) rfl (by simp [Value.oneCell']) (by simp only [maxLen];omega) (by omega) ?_)
  intro A3 c3 w3 ho3 hu3 hat3;have hx2:=HB2.out.rt.ne;have hp3:=HB2.out.push (z:=[g,false]) (m:=2) (Upd.refl.alloc _) (by rw [Hn.out];exact ho3) rfl hu3 (fun i q=>(hat3 i q).imp id (fun z=>by rw [z];simp))
  rw [Hn.out] at hp3;have g3:=u_ d3 ((Upd.refl (S:=Non)).alloc (.cells #[.int .u8 (bW g),.int .u8 0] 5)) (fun f=>f);have g3':=u_ g3 hu3 hx2
  have hfz:w3.frozen? ⟨x,3,none⟩=false:=by
   obtain ⟨_,_,_,_,h1,_⟩:=(HB2.out.non ((Upd.refl (S:=Non)).alloc (.cells #[.int .u8 (bW g),.int .u8 0] 5))).rt.blk;exact (h1.upd hu3 hx2).frozen 3
  obtain ⟨W3,HW3⟩:=nm (w3.setCell ⟨x,3,none⟩ (.slice A3 (n+2) c3));rw [HW3.out] at hp3;have y4:W3.cell? ⟨pb,4,none⟩=some (.slice KA kn kc):=(HPB.out W3 hp3.upd).cell 4;obtain ⟨eb,eo,KB,kd,rfl,m0,m1,m2,m3,m4,C1⟩:=HK0.out W3 A3 c3 hp3;simp only [Nat.zero_mul,Nat.add_zero] at m0 m1 m2 m3 m4;unfold b8 at C1;clear hp3 ho3 hu3 hat3 g3 hO2 hx2 d0 d1 d2 d3 f3 f2 HK0
  go_upto_region 40 with fail
  rw [HW3.out];clear g3' hfz;go_wp2_with fail
  refine C1.out.mono ?_;rintro e w4 ⟨A4,k4,rfl,hB4⟩;have y4:w4.cell? ⟨pb,4,none⟩=some (.slice (some ⟨eb,eo,none⟩) kn kc):=(HPB.out w4 hB4.upd).cell 4;obtain ⟨eb2,eo2,KB2,kd2,eK,m0,m1,m2,m3,m4,C2⟩:=HK1.out w4 A4 k4 hB4;injection eK with eK
  injection eK with eK1 eK2
  subst eK1 eK2;simp only [Nat.one_mul] at m0 m1 m2 m3 m4;unfold b8 at C2;clear hB4 C1 HK1;go_wp2_with fail
  refine C2.out.mono ?_;rintro e w5 ⟨A5,k5,rfl,hB5⟩;rw [List.append_assoc (now++[g,false])] at hB5;obtain ⟨addx,hax⟩:∃z,add0++add1=z:=⟨_,rfl⟩;rw [hax] at hB5 HRX;have hxx:=hB5.rt.lt;obtain ⟨nb,rfl⟩:=hB5.rt.own.some_ (by rw [List.length_append,List.length_append];simp;omega);have y1:w5.cell? ⟨pb,1,none⟩=some (.int .i64 15):=(HPB.out w5 hB5.upd).cell 1;have hpl:pb<w5.heap.size:=(HPB.out w5 hB5.upd).lt;have hpn:¬pb=nb:=fun e=>hB5.rt.own.ne_blk (HPB.out w5 hB5.upd) (by decide) (At.some_.2 e)
  obtain ⟨IA,ic,OA,oc,d0,d1,d2,d3,f3,f2,_,_,_,_⟩:=hB5.cells;obtain ⟨L,HL⟩:=nm ((now++[g,false])++addx).length;have hnL:n+1<L:=by rw [←HL.out,List.length_append,List.length_append,Hn.out];simp;omega
  obtain ⟨vc,hcn⟩:∃v,w5.cell? ⟨nb,n+1,none⟩=some v:=⟨_,hB5.rt.own.cell_ (i:=n+1) (by rw [b8s_len,HL.out];exact hnL)⟩;have hfn:=hB5.rt.own.frozen_ (n+1);have hxn:¬x=nb:=fun e=>hB5.rt.ne (At.some_.2 e)
  rw [HL.out] at d3;have hst:=(hB5.non (Upd.refl (S:=Non) (w:=w5)).drew).set (n+1) cf;rw [←Hn.out,set_mid2,Hn.out] at hst
  have HFIN:Hid (BitR w F x k ins now NA (bitP k (insF ins) p (g::m::rest)) (.returned (b8 (decide (k=0)&&g))) (w5.drew.setCell ⟨nb,n+1,none⟩ (b8 cf))):=by
   show BitR _ _ _ _ _ _ _ _ _ _;rw [HRX.out];exact BitR.back HUW.out (BS.done (r:=(_,rest1,[g,cf]++addx)) hst rfl rfl)
  have q1:IntKind.i64.wrap ((n:Int)+1)=((n+1:Nat):Int):=by rw [i64w_of (by unfold I64;omega)];omega
  have q3:(0:Int)≤((n+1:Nat):Int):=by omega
  have q4:((n+1:Nat):Int)<(L:Int):=by omega
  obtain ⟨n1,Hn1⟩:=nm (n+1);rw [Hn1.out] at q1 q3 q4 hcn hfn HFIN
  have HS1:Hid ((w5.drew.setCell ⟨nb,n1,none⟩ (.int .u8 (bW cf))).cell? ⟨x,3,none⟩=some (.slice (some ⟨nb,0,none⟩) L k5)∧(w5.drew.setCell ⟨nb,n1,none⟩ (.int .u8 (bW cf))).cell? ⟨x,0,none⟩=some (.int .i64 (k:Int))∧(w5.drew.setCell ⟨nb,n1,none⟩ (.int .u8 (bW cf))).cell? ⟨pb,1,none⟩=some (.int .i64 15)):=by
   have u:=updCell w5.drew nb n1 (.int .u8 (bW cf));exact ⟨by rw [World.cell?_of_block (w:=w5.drew) (u.block x hxx hxn)];exact d3,by rw [World.cell?_of_block (w:=w5.drew) (u.block x hxx hxn)];exact d0,by rw [World.cell?_of_block (w:=w5.drew) (u.block pb hpl hpn)];exact y1⟩
  unfold b8 at HFIN;clear hB5 hst C2 m0 m1 m2 m3 m4 d1 d2 f3 f2 hnL hax
  go_upto_region 42 with fail
  refine wp_region_held_drew (S:=fun w'=>w'.cell? ⟨x,3,none⟩=some (.slice (some ⟨nb,0,none⟩) L k5)∧w'.cell? ⟨x,0,none⟩=some (.int .i64 (k:Int))∧w'.cell? ⟨pb,1,none⟩=some (.int .i64 15)) (by kernel_rfl) ⟨d3,d0,y1⟩ (fun hHeld=>?_)
  refine wpT 0 ?_;(try simp only [y_,z_]);refine wpT 1 ?_;(try simp only [y_,z_]);refine wpT 2 ?_;(try simp only [y_,z_]);refine wpT 3 ?_;(try simp only [y_,z_]);refine wpT 4 ?_;(try simp only [y_,z_]);refine wpT 5 ?_;(try simp only [y_,z_]);refine wpT 6 ?_;(try simp only [y_,z_]);refine wpT 7 ?_;(try simp only [y_,z_]);refine wpT 8 ?_;(try simp only [y_,z_]);refine wpT 9 ?_;(try simp only [y_,z_]);refine wpT 10 ?_;(try simp only [y_,z_]);refine wpT 11 ?_;(try simp only [y_,z_]);refine wpT 12 ?_;(try simp only [y_,z_]);refine wpT 13 ?_;(try simp only [y_,z_]);refine wpT 14 ?_;(try simp only [y_,z_]);refine aR_ (rs:=[15]) (by kernel_rfl) (by simp) ?_;refine aC_ rfl (fun K hK=>?_) aN_;go_simp;refine (CF.out _).mono ?_;rintro e w9 ⟨rfl,hw9⟩;subst hw9;go_wp2_with fail
  refine hK.out _ _ ?_ (fun hHeld=>?_)
  ·exact hHeld
  clear hK K;(try simp only [y_,z_]);refine wpT 16 ?_;(try simp only [y_,z_]);refine aR_ (rs:=[17]) (by kernel_rfl) (by simp) ?_;refine aC_ rfl (fun K hK=>?_) aN_;go_simp;refine hK.out _ _ ?_ (fun hHeld=>?_)
  ·exact HS1.out
  clear hK K;(try simp only [y_,z_]);refine aD_ (by kernel_rfl) ?_ _;clear hHeld d3 y1 hcn hfn;by_cases hk0:k=0
  ·have tk:((k:Int)==0)=true:=by rw [hk0];rfl
   rw [dT_ hk0,Bool.true_and] at HFIN;subst hk0;go_wp2_with fail
   go_ret;exact HFIN.out
  ·have tk:((k:Int)==0)=false:=by simp;omega
   rw [dF_ hk0,Bool.false_and] at HFIN;have tk2:(k==0)=false:=by simp;omega
   go_wp2_with fail
   go_ret;exact HFIN.out
 ·subst e;go_enter Tryz.func180,Tryz.ntmps180;go_wp2_with fail
  refine CT.out.mono ?_;rintro e w1 ⟨rfl,hB1⟩;have CT2:=hB1.takeC;unfold b8 at CT2;clear CT hB1;go_wp2_with fail
  refine CT2.out.mono ?_;rintro e w2 ⟨rfl,hB2⟩;obtain ⟨IA,ic,OA,oc,d0,d1,d2,d3,f3,f2,_,_,_,_⟩:=hB2.cells;have HB2:=h_ hB2;have hO2:=hB2.rt.own;rw [Hn.out] at d3 hO2;clear hB2 CT2
  go_wp2_with (at_builtin;refine wpList_app rfl rfl T_u8s rfl (hO2.alloc _) rfl (Sl.new _ _ _) rfl (by simp [Value.oneCell']) (by simp only [maxLen];omega) (by omega) ?_)
  intro A3 c3 w3 ho3 hu3 hat3;have hx2:=HB2.out.rt.ne;have hp3:=HB2.out.push (z:=[g,false]) (m:=2) (Upd.refl.alloc _) (by rw [Hn.out];exact ho3) rfl hu3 (fun i q=>(hat3 i q).imp id (fun z=>by rw [z];simp))
  rw [Hn.out] at hp3;have g3:=u_ d3 ((Upd.refl (S:=Non)).alloc (.cells #[.int .u8 (bW g),.int .u8 0] 5)) (fun f=>f);have g3':=u_ g3 hu3 hx2
  have hfz:w3.frozen? ⟨x,3,none⟩=false:=by
   obtain ⟨_,_,_,_,h1,_⟩:=(HB2.out.non ((Upd.refl (S:=Non)).alloc (.cells #[.int .u8 (bW g),.int .u8 0] 5))).rt.blk;exact (h1.upd hu3 hx2).frozen 3
  obtain ⟨W3,HW3⟩:=nm (w3.setCell ⟨x,3,none⟩ (.slice A3 (n+2) c3));rw [HW3.out] at hp3;have y4:W3.cell? ⟨pb,4,none⟩=some (.slice KA kn kc):=(HPB.out W3 hp3.upd).cell 4;obtain ⟨eb,eo,KB,kd,rfl,m0,m1,m2,m3,m4,C1⟩:=HK0.out W3 A3 c3 hp3;simp only [Nat.zero_mul,Nat.add_zero] at m0 m1 m2 m3 m4;unfold b8 at C1;clear hp3 ho3 hu3 hat3 g3 hO2 hx2 d0 d1 d2 d3 f3 f2 HK0
  go_upto_region 40 with fail
  rw [HW3.out];clear g3' hfz;go_wp2_with fail
  refine C1.out.mono ?_;rintro e w4 ⟨A4,k4,rfl,hB4⟩;have y4:w4.cell? ⟨pb,4,none⟩=some (.slice (some ⟨eb,eo,none⟩) kn kc):=(HPB.out w4 hB4.upd).cell 4;obtain ⟨eb2,eo2,KB2,kd2,eK,m0,m1,m2,m3,m4,C2⟩:=HK1.out w4 A4 k4 hB4;injection eK with eK
  injection eK with eK1 eK2
  subst eK1 eK2;simp only [Nat.one_mul] at m0 m1 m2 m3 m4;unfold b8 at C2;clear hB4 C1 HK1;go_wp2_with fail
  refine C2.out.mono ?_;rintro e w5 ⟨A5,k5,rfl,hB5⟩;rw [List.append_assoc (now++[g,false])] at hB5;obtain ⟨addx,hax⟩:∃z,add0++add1=z:=⟨_,rfl⟩;rw [hax] at hB5 HRX;have hxx:=hB5.rt.lt;obtain ⟨nb,rfl⟩:=hB5.rt.own.some_ (by rw [List.length_append,List.length_append];simp;omega);have y1:w5.cell? ⟨pb,1,none⟩=some (.int .i64 16):=(HPB.out w5 hB5.upd).cell 1;have hpl:pb<w5.heap.size:=(HPB.out w5 hB5.upd).lt;have hpn:¬pb=nb:=fun e=>hB5.rt.own.ne_blk (HPB.out w5 hB5.upd) (by decide) (At.some_.2 e)
  obtain ⟨IA,ic,OA,oc,d0,d1,d2,d3,f3,f2,_,_,_,_⟩:=hB5.cells;obtain ⟨L,HL⟩:=nm ((now++[g,false])++addx).length;have hnL:n+1<L:=by rw [←HL.out,List.length_append,List.length_append,Hn.out];simp;omega
  obtain ⟨vc,hcn⟩:∃v,w5.cell? ⟨nb,n+1,none⟩=some v:=⟨_,hB5.rt.own.cell_ (i:=n+1) (by rw [b8s_len,HL.out];exact hnL)⟩;have hfn:=hB5.rt.own.frozen_ (n+1);have hxn:¬x=nb:=fun e=>hB5.rt.ne (At.some_.2 e)
  rw [HL.out] at d3;have hst:=(hB5.non (Upd.refl (S:=Non) (w:=w5)).drew).set (n+1) cf;rw [←Hn.out,set_mid2,Hn.out] at hst
  have HFIN:Hid (BitR w F x k ins now NA (bitP k (insF ins) p (g::m::rest)) (.returned (b8 (decide (k=0)&&g))) (w5.drew.setCell ⟨nb,n+1,none⟩ (b8 cf))):=by
   show BitR _ _ _ _ _ _ _ _ _ _;rw [HRX.out];exact BitR.back HUW.out (BS.done (r:=(_,rest1,[g,cf]++addx)) hst rfl rfl)
  have q1:IntKind.i64.wrap ((n:Int)+1)=((n+1:Nat):Int):=by rw [i64w_of (by unfold I64;omega)];omega
  have q3:(0:Int)≤((n+1:Nat):Int):=by omega
  have q4:((n+1:Nat):Int)<(L:Int):=by omega
  obtain ⟨n1,Hn1⟩:=nm (n+1);rw [Hn1.out] at q1 q3 q4 hcn hfn HFIN
  have HS1:Hid ((w5.drew.setCell ⟨nb,n1,none⟩ (.int .u8 (bW cf))).cell? ⟨x,3,none⟩=some (.slice (some ⟨nb,0,none⟩) L k5)∧(w5.drew.setCell ⟨nb,n1,none⟩ (.int .u8 (bW cf))).cell? ⟨x,0,none⟩=some (.int .i64 (k:Int))∧(w5.drew.setCell ⟨nb,n1,none⟩ (.int .u8 (bW cf))).cell? ⟨pb,1,none⟩=some (.int .i64 16)):=by
   have u:=updCell w5.drew nb n1 (.int .u8 (bW cf));exact ⟨by rw [World.cell?_of_block (w:=w5.drew) (u.block x hxx hxn)];exact d3,by rw [World.cell?_of_block (w:=w5.drew) (u.block x hxx hxn)];exact d0,by rw [World.cell?_of_block (w:=w5.drew) (u.block pb hpl hpn)];exact y1⟩
  unfold b8 at HFIN;clear hB5 hst C2 m0 m1 m2 m3 m4 d1 d2 f3 f2 hnL hax
  go_upto_region 42 with fail
  refine wp_region_held_drew (S:=fun w'=>w'.cell? ⟨x,3,none⟩=some (.slice (some ⟨nb,0,none⟩) L k5)∧w'.cell? ⟨x,0,none⟩=some (.int .i64 (k:Int))∧w'.cell? ⟨pb,1,none⟩=some (.int .i64 16)) (by kernel_rfl) ⟨d3,d0,y1⟩ (fun hHeld=>?_)
  refine wpT 0 ?_;(try simp only [y_,z_]);refine wpT 1 ?_;(try simp only [y_,z_]);refine wpT 2 ?_;(try simp only [y_,z_]);refine wpT 3 ?_;(try simp only [y_,z_]);refine wpT 4 ?_;(try simp only [y_,z_]);refine wpT 5 ?_;(try simp only [y_,z_]);refine wpT 6 ?_;(try simp only [y_,z_]);refine wpT 7 ?_;(try simp only [y_,z_]);refine wpT 8 ?_;(try simp only [y_,z_]);refine wpT 9 ?_;(try simp only [y_,z_]);refine wpT 10 ?_;(try simp only [y_,z_]);refine wpT 11 ?_;(try simp only [y_,z_]);refine wpT 12 ?_;(try simp only [y_,z_]);refine wpT 13 ?_;(try simp only [y_,z_]);refine wpT 14 ?_;(try simp only [y_,z_]);refine aR_ (rs:=[15]) (by kernel_rfl) (by simp) ?_;refine aC_ rfl (fun K hK=>?_) aN_;go_simp;refine (CF.out _).mono ?_;rintro e w9 ⟨rfl,hw9⟩;subst hw9;go_wp2_with fail
  refine hK.out _ _ ?_ (fun hHeld=>?_)
  ·exact hHeld
  clear hK K;(try simp only [y_,z_]);refine wpT 16 ?_;(try simp only [y_,z_]);refine aR_ (rs:=[17]) (by kernel_rfl) (by simp) ?_;refine aC_ rfl (fun K hK=>?_) aN_;go_simp;refine hK.out _ _ ?_ (fun hHeld=>?_)
  ·exact HS1.out
  clear hK K;(try simp only [y_,z_]);refine aD_ (by kernel_rfl) ?_ _;clear hHeld d3 y1 hcn hfn;by_cases hk0:k=0
  ·have tk:((k:Int)==0)=true:=by rw [hk0];rfl
   rw [dT_ hk0,Bool.true_and] at HFIN;subst hk0;go_wp2_with fail
   go_ret;exact HFIN.out
  ·have tk:((k:Int)==0)=false:=by simp;omega
   rw [dF_ hk0,Bool.false_and] at HFIN;have tk2:(k==0)=false:=by simp;omega
   go_wp2_with fail
   go_ret;exact HFIN.out
 ·subst e;go_enter Tryz.func180,Tryz.ntmps180;go_wp2_with fail
  refine CT.out.mono ?_;rintro e w1 ⟨rfl,hB1⟩;have CT2:=hB1.takeC;unfold b8 at CT2;clear CT hB1;go_wp2_with fail
  refine CT2.out.mono ?_;rintro e w2 ⟨rfl,hB2⟩;obtain ⟨IA,ic,OA,oc,d0,d1,d2,d3,f3,f2,_,_,_,_⟩:=hB2.cells;have HB2:=h_ hB2;have hO2:=hB2.rt.own;rw [Hn.out] at d3 hO2;clear hB2 CT2
  go_wp2_with (at_builtin;refine wpList_app rfl rfl T_u8s rfl (hO2.alloc _) rfl (Sl.new _ _ _) rfl (by simp [Value.oneCell']) (by simp only [maxLen];omega) (by omega) ?_)
  intro A3 c3 w3 ho3 hu3 hat3;have hx2:=HB2.out.rt.ne;have hp3:=HB2.out.push (z:=[g,false]) (m:=2) (Upd.refl.alloc _) (by rw [Hn.out];exact ho3) rfl hu3 (fun i q=>(hat3 i q).imp id (fun z=>by rw [z];simp))
  rw [Hn.out] at hp3;have g3:=u_ d3 ((Upd.refl (S:=Non)).alloc (.cells #[.int .u8 (bW g),.int .u8 0] 5)) (fun f=>f);have g3':=u_ g3 hu3 hx2
  have hfz:w3.frozen? ⟨x,3,none⟩=false:=by
   obtain ⟨_,_,_,_,h1,_⟩:=(HB2.out.non ((Upd.refl (S:=Non)).alloc (.cells #[.int .u8 (bW g),.int .u8 0] 5))).rt.blk;exact (h1.upd hu3 hx2).frozen 3
  obtain ⟨W3,HW3⟩:=nm (w3.setCell ⟨x,3,none⟩ (.slice A3 (n+2) c3));rw [HW3.out] at hp3;have y4:W3.cell? ⟨pb,4,none⟩=some (.slice KA kn kc):=(HPB.out W3 hp3.upd).cell 4;obtain ⟨eb,eo,KB,kd,rfl,m0,m1,m2,m3,m4,C1⟩:=HK0.out W3 A3 c3 hp3;simp only [Nat.zero_mul,Nat.add_zero] at m0 m1 m2 m3 m4;unfold b8 at C1;clear hp3 ho3 hu3 hat3 g3 hO2 hx2 d0 d1 d2 d3 f3 f2 HK0
  go_upto_region 40 with fail
  rw [HW3.out];clear g3' hfz;go_wp2_with fail
  refine C1.out.mono ?_;rintro e w4 ⟨A4,k4,rfl,hB4⟩;have y4:w4.cell? ⟨pb,4,none⟩=some (.slice (some ⟨eb,eo,none⟩) kn kc):=(HPB.out w4 hB4.upd).cell 4;obtain ⟨eb2,eo2,KB2,kd2,eK,m0,m1,m2,m3,m4,C2⟩:=HK1.out w4 A4 k4 hB4;injection eK with eK
  injection eK with eK1 eK2
  subst eK1 eK2;simp only [Nat.one_mul] at m0 m1 m2 m3 m4;unfold b8 at C2;clear hB4 C1 HK1;go_wp2_with fail
  refine C2.out.mono ?_;rintro e w5 ⟨A5,k5,rfl,hB5⟩;rw [List.append_assoc (now++[g,false])] at hB5;obtain ⟨addx,hax⟩:∃z,add0++add1=z:=⟨_,rfl⟩;rw [hax] at hB5 HRX;have hxx:=hB5.rt.lt;obtain ⟨nb,rfl⟩:=hB5.rt.own.some_ (by rw [List.length_append,List.length_append];simp;omega);have y1:w5.cell? ⟨pb,1,none⟩=some (.int .i64 17):=(HPB.out w5 hB5.upd).cell 1;have hpl:pb<w5.heap.size:=(HPB.out w5 hB5.upd).lt;have hpn:¬pb=nb:=fun e=>hB5.rt.own.ne_blk (HPB.out w5 hB5.upd) (by decide) (At.some_.2 e)
  obtain ⟨IA,ic,OA,oc,d0,d1,d2,d3,f3,f2,_,_,_,_⟩:=hB5.cells;obtain ⟨L,HL⟩:=nm ((now++[g,false])++addx).length;have hnL:n+1<L:=by rw [←HL.out,List.length_append,List.length_append,Hn.out];simp;omega
  obtain ⟨vc,hcn⟩:∃v,w5.cell? ⟨nb,n+1,none⟩=some v:=⟨_,hB5.rt.own.cell_ (i:=n+1) (by rw [b8s_len,HL.out];exact hnL)⟩;have hfn:=hB5.rt.own.frozen_ (n+1);have hxn:¬x=nb:=fun e=>hB5.rt.ne (At.some_.2 e)
  rw [HL.out] at d3;have hst:=(hB5.non (Upd.refl (S:=Non) (w:=w5)).drew).set (n+1) cf;rw [←Hn.out,set_mid2,Hn.out] at hst
  have HFIN:Hid (BitR w F x k ins now NA (bitP k (insF ins) p (g::m::rest)) (.returned (b8 (decide (k=0)&&g))) (w5.drew.setCell ⟨nb,n+1,none⟩ (b8 cf))):=by
   show BitR _ _ _ _ _ _ _ _ _ _;rw [HRX.out];exact BitR.back HUW.out (BS.done (r:=(_,rest1,[g,cf]++addx)) hst rfl rfl)
  have q1:IntKind.i64.wrap ((n:Int)+1)=((n+1:Nat):Int):=by rw [i64w_of (by unfold I64;omega)];omega
  have q3:(0:Int)≤((n+1:Nat):Int):=by omega
  have q4:((n+1:Nat):Int)<(L:Int):=by omega
  obtain ⟨n1,Hn1⟩:=nm (n+1);rw [Hn1.out] at q1 q3 q4 hcn hfn HFIN
  have HS1:Hid ((w5.drew.setCell ⟨nb,n1,none⟩ (.int .u8 (bW cf))).cell? ⟨x,3,none⟩=some (.slice (some ⟨nb,0,none⟩) L k5)∧(w5.drew.setCell ⟨nb,n1,none⟩ (.int .u8 (bW cf))).cell? ⟨x,0,none⟩=some (.int .i64 (k:Int))∧(w5.drew.setCell ⟨nb,n1,none⟩ (.int .u8 (bW cf))).cell? ⟨pb,1,none⟩=some (.int .i64 17)):=by
   have u:=updCell w5.drew nb n1 (.int .u8 (bW cf));exact ⟨by rw [World.cell?_of_block (w:=w5.drew) (u.block x hxx hxn)];exact d3,by rw [World.cell?_of_block (w:=w5.drew) (u.block x hxx hxn)];exact d0,by rw [World.cell?_of_block (w:=w5.drew) (u.block pb hpl hpn)];exact y1⟩
  unfold b8 at HFIN;clear hB5 hst C2 m0 m1 m2 m3 m4 d1 d2 f3 f2 hnL hax
  go_upto_region 42 with fail
  refine wp_region_held_drew (S:=fun w'=>w'.cell? ⟨x,3,none⟩=some (.slice (some ⟨nb,0,none⟩) L k5)∧w'.cell? ⟨x,0,none⟩=some (.int .i64 (k:Int))∧w'.cell? ⟨pb,1,none⟩=some (.int .i64 17)) (by kernel_rfl) ⟨d3,d0,y1⟩ (fun hHeld=>?_)
  refine wpT 0 ?_;(try simp only [y_,z_]);refine wpT 1 ?_;(try simp only [y_,z_]);refine wpT 2 ?_;(try simp only [y_,z_]);refine wpT 3 ?_;(try simp only [y_,z_]);refine wpT 4 ?_;(try simp only [y_,z_]);refine wpT 5 ?_;(try simp only [y_,z_]);refine wpT 6 ?_;(try simp only [y_,z_]);refine wpT 7 ?_;(try simp only [y_,z_]);refine wpT 8 ?_;(try simp only [y_,z_]);refine wpT 9 ?_;(try simp only [y_,z_]);refine wpT 10 ?_;(try simp only [y_,z_]);refine wpT 11 ?_;(try simp only [y_,z_]);refine wpT 12 ?_;(try simp only [y_,z_]);refine wpT 13 ?_;(try simp only [y_,z_]);refine wpT 14 ?_;(try simp only [y_,z_]);refine aR_ (rs:=[15]) (by kernel_rfl) (by simp) ?_;refine aC_ rfl (fun K hK=>?_) aN_;go_simp;refine (CF.out _).mono ?_;rintro e w9 ⟨rfl,hw9⟩;subst hw9;go_wp2_with fail
  refine hK.out _ _ ?_ (fun hHeld=>?_)
  ·exact hHeld
  clear hK K;(try simp only [y_,z_]);refine wpT 16 ?_;(try simp only [y_,z_]);refine aR_ (rs:=[17]) (by kernel_rfl) (by simp) ?_;refine aC_ rfl (fun K hK=>?_) aN_;go_simp;refine hK.out _ _ ?_ (fun hHeld=>?_)
  ·exact HS1.out
  clear hK K;(try simp only [y_,z_]);refine aD_ (by kernel_rfl) ?_ _;clear hHeld d3 y1 hcn hfn;by_cases hk0:k=0
  ·have tk:((k:Int)==0)=true:=by rw [hk0];rfl
   rw [dT_ hk0,Bool.true_and] at HFIN;subst hk0;go_wp2_with fail
   go_ret;exact HFIN.out
  ·have tk:((k:Int)==0)=false:=by simp;omega
   rw [dF_ hk0,Bool.false_and] at HFIN;have tk2:(k==0)=false:=by simp;omega
   go_wp2_with fail
   go_ret;exact HFIN.out
 ·subst e;go_enter Tryz.func180,Tryz.ntmps180;go_wp2_with fail
  refine CT.out.mono ?_;rintro e w1 ⟨rfl,hB1⟩;have CT2:=hB1.takeC;unfold b8 at CT2;clear CT hB1;go_wp2_with fail
  refine CT2.out.mono ?_;rintro e w2 ⟨rfl,hB2⟩;obtain ⟨IA,ic,OA,oc,d0,d1,d2,d3,f3,f2,_,_,_,_⟩:=hB2.cells;have HB2:=h_ hB2;have hO2:=hB2.rt.own;rw [Hn.out] at d3 hO2;clear hB2 CT2
  go_wp2_with (at_builtin;refine wpList_app rfl rfl T_u8s rfl (hO2.alloc _) rfl (Sl.new _ _ _) rfl (by simp [Value.oneCell']) (by simp only [maxLen];omega) (by omega) ?_)
  intro A3 c3 w3 ho3 hu3 hat3;have hx2:=HB2.out.rt.ne;have hp3:=HB2.out.push (z:=[g,false]) (m:=2) (Upd.refl.alloc _) (by rw [Hn.out];exact ho3) rfl hu3 (fun i q=>(hat3 i q).imp id (fun z=>by rw [z];simp))
  rw [Hn.out] at hp3;have g3:=u_ d3 ((Upd.refl (S:=Non)).alloc (.cells #[.int .u8 (bW g),.int .u8 0] 5)) (fun f=>f);have g3':=u_ g3 hu3 hx2
  have hfz:w3.frozen? ⟨x,3,none⟩=false:=by
   obtain ⟨_,_,_,_,h1,_⟩:=(HB2.out.non ((Upd.refl (S:=Non)).alloc (.cells #[.int .u8 (bW g),.int .u8 0] 5))).rt.blk;exact (h1.upd hu3 hx2).frozen 3
  obtain ⟨W3,HW3⟩:=nm (w3.setCell ⟨x,3,none⟩ (.slice A3 (n+2) c3));rw [HW3.out] at hp3;have y4:W3.cell? ⟨pb,4,none⟩=some (.slice KA kn kc):=(HPB.out W3 hp3.upd).cell 4;obtain ⟨eb,eo,KB,kd,rfl,m0,m1,m2,m3,m4,C1⟩:=HK0.out W3 A3 c3 hp3;simp only [Nat.zero_mul,Nat.add_zero] at m0 m1 m2 m3 m4;unfold b8 at C1;clear hp3 ho3 hu3 hat3 g3 hO2 hx2 d0 d1 d2 d3 f3 f2 HK0
  go_upto_region 40 with fail
  rw [HW3.out];clear g3' hfz;go_wp2_with fail
  refine C1.out.mono ?_;rintro e w4 ⟨A4,k4,rfl,hB4⟩;have y4:w4.cell? ⟨pb,4,none⟩=some (.slice (some ⟨eb,eo,none⟩) kn kc):=(HPB.out w4 hB4.upd).cell 4;obtain ⟨eb2,eo2,KB2,kd2,eK,m0,m1,m2,m3,m4,C2⟩:=HK1.out w4 A4 k4 hB4;injection eK with eK
  injection eK with eK1 eK2
  subst eK1 eK2;simp only [Nat.one_mul] at m0 m1 m2 m3 m4;unfold b8 at C2;clear hB4 C1 HK1;go_wp2_with fail
  refine C2.out.mono ?_;rintro e w5 ⟨A5,k5,rfl,hB5⟩;rw [List.append_assoc (now++[g,false])] at hB5;obtain ⟨addx,hax⟩:∃z,add0++add1=z:=⟨_,rfl⟩;rw [hax] at hB5 HRX;have hxx:=hB5.rt.lt;obtain ⟨nb,rfl⟩:=hB5.rt.own.some_ (by rw [List.length_append,List.length_append];simp;omega);have y1:w5.cell? ⟨pb,1,none⟩=some (.int .i64 18):=(HPB.out w5 hB5.upd).cell 1;have hpl:pb<w5.heap.size:=(HPB.out w5 hB5.upd).lt;have hpn:¬pb=nb:=fun e=>hB5.rt.own.ne_blk (HPB.out w5 hB5.upd) (by decide) (At.some_.2 e)
  obtain ⟨IA,ic,OA,oc,d0,d1,d2,d3,f3,f2,_,_,_,_⟩:=hB5.cells;obtain ⟨L,HL⟩:=nm ((now++[g,false])++addx).length;have hnL:n+1<L:=by rw [←HL.out,List.length_append,List.length_append,Hn.out];simp;omega
  obtain ⟨vc,hcn⟩:∃v,w5.cell? ⟨nb,n+1,none⟩=some v:=⟨_,hB5.rt.own.cell_ (i:=n+1) (by rw [b8s_len,HL.out];exact hnL)⟩;have hfn:=hB5.rt.own.frozen_ (n+1);have hxn:¬x=nb:=fun e=>hB5.rt.ne (At.some_.2 e)
  rw [HL.out] at d3;have hst:=(hB5.non (Upd.refl (S:=Non) (w:=w5)).drew).set (n+1) cf;rw [←Hn.out,set_mid2,Hn.out] at hst
  have HFIN:Hid (BitR w F x k ins now NA (bitP k (insF ins) p (g::m::rest)) (.returned (b8 (decide (k=0)&&g))) (w5.drew.setCell ⟨nb,n+1,none⟩ (b8 cf))):=by
   show BitR _ _ _ _ _ _ _ _ _ _;rw [HRX.out];exact BitR.back HUW.out (BS.done (r:=(_,rest1,[g,cf]++addx)) hst rfl rfl)
  have q1:IntKind.i64.wrap ((n:Int)+1)=((n+1:Nat):Int):=by rw [i64w_of (by unfold I64;omega)];omega
  have q3:(0:Int)≤((n+1:Nat):Int):=by omega
  have q4:((n+1:Nat):Int)<(L:Int):=by omega
  obtain ⟨n1,Hn1⟩:=nm (n+1);rw [Hn1.out] at q1 q3 q4 hcn hfn HFIN
  have HS1:Hid ((w5.drew.setCell ⟨nb,n1,none⟩ (.int .u8 (bW cf))).cell? ⟨x,3,none⟩=some (.slice (some ⟨nb,0,none⟩) L k5)∧(w5.drew.setCell ⟨nb,n1,none⟩ (.int .u8 (bW cf))).cell? ⟨x,0,none⟩=some (.int .i64 (k:Int))∧(w5.drew.setCell ⟨nb,n1,none⟩ (.int .u8 (bW cf))).cell? ⟨pb,1,none⟩=some (.int .i64 18)):=by
   have u:=updCell w5.drew nb n1 (.int .u8 (bW cf));exact ⟨by rw [World.cell?_of_block (w:=w5.drew) (u.block x hxx hxn)];exact d3,by rw [World.cell?_of_block (w:=w5.drew) (u.block x hxx hxn)];exact d0,by rw [World.cell?_of_block (w:=w5.drew) (u.block pb hpl hpn)];exact y1⟩
  unfold b8 at HFIN;clear hB5 hst C2 m0 m1 m2 m3 m4 d1 d2 f3 f2 hnL hax
  go_upto_region 42 with fail
  refine wp_region_held_drew (S:=fun w'=>w'.cell? ⟨x,3,none⟩=some (.slice (some ⟨nb,0,none⟩) L k5)∧w'.cell? ⟨x,0,none⟩=some (.int .i64 (k:Int))∧w'.cell? ⟨pb,1,none⟩=some (.int .i64 18)) (by kernel_rfl) ⟨d3,d0,y1⟩ (fun hHeld=>?_)
  refine wpT 0 ?_;(try simp only [y_,z_]);refine wpT 1 ?_;(try simp only [y_,z_]);refine wpT 2 ?_;(try simp only [y_,z_]);refine wpT 3 ?_;(try simp only [y_,z_]);refine wpT 4 ?_;(try simp only [y_,z_]);refine wpT 5 ?_;(try simp only [y_,z_]);refine wpT 6 ?_;(try simp only [y_,z_]);refine wpT 7 ?_;(try simp only [y_,z_]);refine wpT 8 ?_;(try simp only [y_,z_]);refine wpT 9 ?_;(try simp only [y_,z_]);refine wpT 10 ?_;(try simp only [y_,z_]);refine wpT 11 ?_;(try simp only [y_,z_]);refine wpT 12 ?_;(try simp only [y_,z_]);refine wpT 13 ?_;(try simp only [y_,z_]);refine wpT 14 ?_;(try simp only [y_,z_]);refine aR_ (rs:=[15]) (by kernel_rfl) (by simp) ?_;refine aC_ rfl (fun K hK=>?_) aN_;go_simp;refine (CF.out _).mono ?_;rintro e w9 ⟨rfl,hw9⟩;subst hw9;go_wp2_with fail
  refine hK.out _ _ ?_ (fun hHeld=>?_)
  ·exact hHeld
  clear hK K;(try simp only [y_,z_]);refine wpT 16 ?_;(try simp only [y_,z_]);refine aR_ (rs:=[17]) (by kernel_rfl) (by simp) ?_;refine aC_ rfl (fun K hK=>?_) aN_;go_simp;refine hK.out _ _ ?_ (fun hHeld=>?_)
  ·exact HS1.out
  clear hK K;(try simp only [y_,z_]);refine aD_ (by kernel_rfl) ?_ _;clear hHeld d3 y1 hcn hfn;by_cases hk0:k=0
  ·have tk:((k:Int)==0)=true:=by rw [hk0];rfl
   rw [dT_ hk0,Bool.true_and] at HFIN;subst hk0;go_wp2_with fail
   go_ret;exact HFIN.out
  ·have tk:((k:Int)==0)=false:=by simp;omega
   rw [dF_ hk0,Bool.false_and] at HFIN;have tk2:(k==0)=false:=by simp;omega
   go_wp2_with fail
   go_ret;exact HFIN.out
 ·subst e;go_enter Tryz.func180,Tryz.ntmps180;go_wp2_with fail
  refine CT.out.mono ?_;rintro e w1 ⟨rfl,hB1⟩;have CT2:=hB1.takeC;unfold b8 at CT2;clear CT hB1;go_wp2_with fail
  refine CT2.out.mono ?_;rintro e w2 ⟨rfl,hB2⟩;obtain ⟨IA,ic,OA,oc,d0,d1,d2,d3,f3,f2,_,_,_,_⟩:=hB2.cells;have HB2:=h_ hB2;have hO2:=hB2.rt.own;rw [Hn.out] at d3 hO2;clear hB2 CT2
  go_wp2_with (at_builtin;refine wpList_app rfl rfl T_u8s rfl (hO2.alloc _) rfl (Sl.new _ _ _) rfl (by simp [Value.oneCell']) (by simp only [maxLen];omega) (by omega) ?_)
  intro A3 c3 w3 ho3 hu3 hat3;have hx2:=HB2.out.rt.ne;have hp3:=HB2.out.push (z:=[g,false]) (m:=2) (Upd.refl.alloc _) (by rw [Hn.out];exact ho3) rfl hu3 (fun i q=>(hat3 i q).imp id (fun z=>by rw [z];simp))
  rw [Hn.out] at hp3;have g3:=u_ d3 ((Upd.refl (S:=Non)).alloc (.cells #[.int .u8 (bW g),.int .u8 0] 5)) (fun f=>f);have g3':=u_ g3 hu3 hx2
  have hfz:w3.frozen? ⟨x,3,none⟩=false:=by
   obtain ⟨_,_,_,_,h1,_⟩:=(HB2.out.non ((Upd.refl (S:=Non)).alloc (.cells #[.int .u8 (bW g),.int .u8 0] 5))).rt.blk;exact (h1.upd hu3 hx2).frozen 3
  obtain ⟨W3,HW3⟩:=nm (w3.setCell ⟨x,3,none⟩ (.slice A3 (n+2) c3));rw [HW3.out] at hp3;have y4:W3.cell? ⟨pb,4,none⟩=some (.slice KA kn kc):=(HPB.out W3 hp3.upd).cell 4;obtain ⟨eb,eo,KB,kd,rfl,m0,m1,m2,m3,m4,C1⟩:=HK0.out W3 A3 c3 hp3;simp only [Nat.zero_mul,Nat.add_zero] at m0 m1 m2 m3 m4;unfold b8 at C1;clear hp3 ho3 hu3 hat3 g3 hO2 hx2 d0 d1 d2 d3 f3 f2 HK0
  go_upto_region 40 with fail
  rw [HW3.out];clear g3' hfz;go_wp2_with fail
  refine C1.out.mono ?_;rintro e w4 ⟨A4,k4,rfl,hB4⟩;have y4:w4.cell? ⟨pb,4,none⟩=some (.slice (some ⟨eb,eo,none⟩) kn kc):=(HPB.out w4 hB4.upd).cell 4;obtain ⟨eb2,eo2,KB2,kd2,eK,m0,m1,m2,m3,m4,C2⟩:=HK1.out w4 A4 k4 hB4;injection eK with eK
  injection eK with eK1 eK2
  subst eK1 eK2;simp only [Nat.one_mul] at m0 m1 m2 m3 m4;unfold b8 at C2;clear hB4 C1 HK1;go_wp2_with fail
  refine C2.out.mono ?_;rintro e w5 ⟨A5,k5,rfl,hB5⟩;rw [List.append_assoc (now++[g,false])] at hB5;obtain ⟨addx,hax⟩:∃z,add0++add1=z:=⟨_,rfl⟩;rw [hax] at hB5 HRX;have hxx:=hB5.rt.lt;obtain ⟨nb,rfl⟩:=hB5.rt.own.some_ (by rw [List.length_append,List.length_append];simp;omega);have y1:w5.cell? ⟨pb,1,none⟩=some (.int .i64 19):=(HPB.out w5 hB5.upd).cell 1;have hpl:pb<w5.heap.size:=(HPB.out w5 hB5.upd).lt;have hpn:¬pb=nb:=fun e=>hB5.rt.own.ne_blk (HPB.out w5 hB5.upd) (by decide) (At.some_.2 e)
  obtain ⟨IA,ic,OA,oc,d0,d1,d2,d3,f3,f2,_,_,_,_⟩:=hB5.cells;obtain ⟨L,HL⟩:=nm ((now++[g,false])++addx).length;have hnL:n+1<L:=by rw [←HL.out,List.length_append,List.length_append,Hn.out];simp;omega
  obtain ⟨vc,hcn⟩:∃v,w5.cell? ⟨nb,n+1,none⟩=some v:=⟨_,hB5.rt.own.cell_ (i:=n+1) (by rw [b8s_len,HL.out];exact hnL)⟩;have hfn:=hB5.rt.own.frozen_ (n+1);have hxn:¬x=nb:=fun e=>hB5.rt.ne (At.some_.2 e)
  rw [HL.out] at d3;have hst:=(hB5.non (Upd.refl (S:=Non) (w:=w5)).drew).set (n+1) cf;rw [←Hn.out,set_mid2,Hn.out] at hst
  have HFIN:Hid (BitR w F x k ins now NA (bitP k (insF ins) p (g::m::rest)) (.returned (b8 (decide (k=0)&&g))) (w5.drew.setCell ⟨nb,n+1,none⟩ (b8 cf))):=by
   show BitR _ _ _ _ _ _ _ _ _ _;rw [HRX.out];exact BitR.back HUW.out (BS.done (r:=(_,rest1,[g,cf]++addx)) hst rfl rfl)
  have q1:IntKind.i64.wrap ((n:Int)+1)=((n+1:Nat):Int):=by rw [i64w_of (by unfold I64;omega)];omega
  have q3:(0:Int)≤((n+1:Nat):Int):=by omega
  have q4:((n+1:Nat):Int)<(L:Int):=by omega
  obtain ⟨n1,Hn1⟩:=nm (n+1);rw [Hn1.out] at q1 q3 q4 hcn hfn HFIN
  have HS1:Hid ((w5.drew.setCell ⟨nb,n1,none⟩ (.int .u8 (bW cf))).cell? ⟨x,3,none⟩=some (.slice (some ⟨nb,0,none⟩) L k5)∧(w5.drew.setCell ⟨nb,n1,none⟩ (.int .u8 (bW cf))).cell? ⟨x,0,none⟩=some (.int .i64 (k:Int))∧(w5.drew.setCell ⟨nb,n1,none⟩ (.int .u8 (bW cf))).cell? ⟨pb,1,none⟩=some (.int .i64 19)):=by
   have u:=updCell w5.drew nb n1 (.int .u8 (bW cf));exact ⟨by rw [World.cell?_of_block (w:=w5.drew) (u.block x hxx hxn)];exact d3,by rw [World.cell?_of_block (w:=w5.drew) (u.block x hxx hxn)];exact d0,by rw [World.cell?_of_block (w:=w5.drew) (u.block pb hpl hpn)];exact y1⟩
  unfold b8 at HFIN;clear hB5 hst C2 m0 m1 m2 m3 m4 d1 d2 f3 f2 hnL hax
  go_upto_region 42 with fail
  refine wp_region_held_drew (S:=fun w'=>w'.cell? ⟨x,3,none⟩=some (.slice (some ⟨nb,0,none⟩) L k5)∧w'.cell? ⟨x,0,none⟩=some (.int .i64 (k:Int))∧w'.cell? ⟨pb,1,none⟩=some (.int .i64 19)) (by kernel_rfl) ⟨d3,d0,y1⟩ (fun hHeld=>?_)
  refine wpT 0 ?_;(try simp only [y_,z_]);refine wpT 1 ?_;(try simp only [y_,z_]);refine wpT 2 ?_;(try simp only [y_,z_]);refine wpT 3 ?_;(try simp only [y_,z_]);refine wpT 4 ?_;(try simp only [y_,z_]);refine wpT 5 ?_;(try simp only [y_,z_]);refine wpT 6 ?_;(try simp only [y_,z_]);refine wpT 7 ?_;(try simp only [y_,z_]);refine wpT 8 ?_;(try simp only [y_,z_]);refine wpT 9 ?_;(try simp only [y_,z_]);refine wpT 10 ?_;(try simp only [y_,z_]);refine wpT 11 ?_;(try simp only [y_,z_]);refine wpT 12 ?_;(try simp only [y_,z_]);refine wpT 13 ?_;(try simp only [y_,z_]);refine wpT 14 ?_;(try simp only [y_,z_]);refine aR_ (rs:=[15]) (by kernel_rfl) (by simp) ?_;refine aC_ rfl (fun K hK=>?_) aN_;go_simp;refine (CF.out _).mono ?_;rintro e w9 ⟨rfl,hw9⟩;subst hw9;go_wp2_with fail
  refine hK.out _ _ ?_ (fun hHeld=>?_)
  ·exact hHeld
  clear hK K;(try simp only [y_,z_]);refine wpT 16 ?_;(try simp only [y_,z_]);refine aR_ (rs:=[17]) (by kernel_rfl) (by simp) ?_;refine aC_ rfl (fun K hK=>?_) aN_;go_simp;refine hK.out _ _ ?_ (fun hHeld=>?_)
  ·exact HS1.out
  clear hK K;(try simp only [y_,z_]);refine aD_ (by kernel_rfl) ?_ _;clear hHeld d3 y1 hcn hfn;by_cases hk0:k=0
  ·have tk:((k:Int)==0)=true:=by rw [hk0];rfl
   rw [dT_ hk0,Bool.true_and] at HFIN;subst hk0;go_wp2_with fail
   go_ret;exact HFIN.out
  ·have tk:((k:Int)==0)=false:=by simp;omega
   rw [dF_ hk0,Bool.false_and] at HFIN;have tk2:(k==0)=false:=by simp;omega
   go_wp2_with fail
   go_ret;exact HFIN.out
set_option maxRecDepth 100000 in
set_option maxHeartbeats 16000000 in
theorem rBit_sel (k:Nat) (p:Pt) (hv:¬0<p.v) (ho:p.op=22) (IH:∀q∈p.kids,BitC 180 k q):BitC 180 k p:=by
 intro w F x ins old now NA nc KA kc hrt hp hs hw hb hn hil;have hwI:=(WfP.iff ins.length p).1 hw;obtain ⟨W,HW⟩:=nm (w.alloc (.cells #[.int .i64 p.v,.int .i64 p.op,.int .i64 p.imm,.int .i64 p.iv,.slice KA p.kids.length kc] 38));have hU:Upd Non w W:=by rw [←HW.out];exact Upd.refl.alloc _
 have e0:=HW.out;have hbk:Blk W w.heap.size 38 #[.int .i64 p.v,.int .i64 p.op,.int .i64 p.imm,.int .i64 p.iv,.slice KA p.kids.length kc]:=by rw [←HW.out];exact Blk.new _ _ _
 have HB0:=h_ (hrt.non hU).bs;have HPT:=h_ (PtK.upd hU (fun _ _ _ f=>f) _ _ _ hp);have HUW:=h_ hU;have HFAR:Hid (∀i,F i→i≠x∧¬At NA i):=fun i q=>(hrt.far i q).2
 have HXL:Hid (x<w.heap.size):=hrt.lt;have HNL:Hid (∀i,At NA i→i<w.heap.size):=fun i q=>hrt.own.lt q
 have HPB:Hid (∀w',Upd (fun i=>i=x∨At NA i) W w'→Blk w' w.heap.size 38 #[.int .i64 p.v,.int .i64 p.op,.int .i64 p.imm,.int .i64 p.iv,.slice KA p.kids.length kc]):=fun w' u=>hbk.upd u (fun q=>by
  rcases q with q | q
  ·have:=HXL.out;omega
  ·have:=HNL.out _ q;omega)
 obtain ⟨pb,hpb⟩:∃b,w.heap.size=b:=⟨_,rfl⟩;rw [hpb] at HPB;have c0:W.cell? ⟨pb,0,none⟩=some (.int .i64 p.v):=(HPB.out W Upd.refl).cell 0;have c1:W.cell? ⟨pb,1,none⟩=some (.int .i64 p.op):=(HPB.out W Upd.refl).cell 1;have tv:decide (p.v > 0)=false:=dF_ (by omega);have HPE:=h_ (fun (r:List Bool×List Bool×List Bool) (hr:bitL k (insF ins) p.kids (old.drop (ownN p.op p.kids))=r)=>bitP_op hv k (insF ins) old (r:=r) hr)
 have har:=hwI.2.2.1 (by have:=hwI.1;omega);rw [supF_op hv,Bool.and_eq_true] at hs;have HSK:=h_ hs.2;have HWK:=h_ hwI.2.2.2;have hbn:bN p=ownN p.op p.kids+bL p.kids:=by rw [bN_iff,if_neg hv]
 obtain ⟨n,Hn⟩:=nm now.length;obtain ⟨ol,Hol⟩:=nm old.length;rw [Hn.out] at hn;rw [Hol.out] at hb;have HIL:Hid (ins.length≤1000):=hil;have hown:ownN p.op p.kids=2:=by rw [ho];rfl
 rw [hown] at hbn HPE;have hl2:p.kids.length=3:=by rw [har,ho];rfl
 obtain ⟨q0,q1,q2,hk1⟩:∃q0 q1 q2,p.kids=[q0,q1,q2]:=by
  match p.kids,hl2 with
  | [a,b,c],_=>exact ⟨a,b,c,rfl⟩
 have hbl:bL p.kids=bN q0+(bN q1+bN q2):=by rw [hk1];simp [bL]
 obtain ⟨g,m,rest,rfl⟩:∃g m rest,old=g::m::rest:=by
  match old,Hol.out,hb with
  | [],e,h=>rw [←e,List.length_nil] at h;omega
  | [a],e,h=>rw [←e,List.length_singleton] at h;omega
  | g::m::r,_,_=>exact ⟨g,m,r,rfl⟩
 have hrl:rest.length+2=ol:=by rw [←Hol.out];rfl
 obtain ⟨kn,Hkn⟩:=nm p.kids.length;rw [Hkn.out] at hl2 HPB e0;have hkn0:(0:Int)<(kn:Int):=by omega
 have hkn1:(1:Int)<(kn:Int):=by omega
 have hkn2:(2:Int)<(kn:Int):=by omega
 have hs0:=List.all_eq_true.1 HSK.out q0 (by rw [hk1];simp);have hs1:=List.all_eq_true.1 HSK.out q1 (by rw [hk1];simp);have hs2:=List.all_eq_true.1 HSK.out q2 (by rw [hk1];simp);have hre:=bitP_rest (k:=k) (f:=insF ins) hs0 (old:=rest) (by omega);obtain ⟨r0,Hr0⟩:=nm (bitP k (insF ins) q0 rest);rw [Hr0.out] at hre;have HK0:=h_ (fun (w1:World) (A1:Option Addr) (k1:Nat) (hB1:BS W NA w1 F x k ins rest (now++[g,false]) A1 k1)=>hB1.kid HFAR.out HPT.out (i:=0) (q:=q0) (by rw [hk1];exact Nat.succ_pos 2) (by simp [hk1]) (IH q0 (by rw [hk1];simp)) hs0 (HWK.out q0 (by rw [hk1];simp)) (by omega) (by rw [List.length_append,Hn.out];simp;omega) hil Hr0.out)
 obtain ⟨a0,rest0,add0⟩:=r0;simp only at HK0 hre;have hr0l:rest0.length=rest.length - bN q0:=by rw [hre.1,List.length_drop]
 have hre1:=bitP_rest (k:=k) (f:=insF ins) hs1 (old:=rest0) (by rw [hr0l];omega);obtain ⟨r1,Hr1⟩:=nm (bitP k (insF ins) q1 rest0);rw [Hr1.out] at hre1;have HK1:=h_ (fun (w1:World) (A1:Option Addr) (k1:Nat) (hB1:BS W NA w1 F x k ins rest0 ((now++[g,false])++add0) A1 k1)=>hB1.kid HFAR.out HPT.out (i:=1) (q:=q1) (by rw [hk1];exact Nat.succ_lt_succ (Nat.succ_pos 1)) (by simp [hk1]) (IH q1 (by rw [hk1];simp)) hs1 (HWK.out q1 (by rw [hk1];simp)) (by rw [hr0l];omega) (by rw [List.length_append,List.length_append,Hn.out,hre.2];simp;omega) hil Hr1.out)
 obtain ⟨a1,rest1,add1⟩:=r1;simp only at HK1 hre1;have hr1l:rest1.length=rest0.length - bN q1:=by rw [hre1.1,List.length_drop]
 obtain ⟨r2,Hr2⟩:=nm (bitP k (insF ins) q2 rest1);have HK2:=h_ (fun (w1:World) (A1:Option Addr) (k1:Nat) (hB1:BS W NA w1 F x k ins rest1 (((now++[g,false])++add0)++add1) A1 k1)=>hB1.kid HFAR.out HPT.out (i:=2) (q:=q2) (by rw [hk1];exact Nat.lt_succ_self 2) (by simp [hk1]) (IH q2 (by rw [hk1];simp)) hs2 (HWK.out q2 (by rw [hk1];simp)) (by rw [hr1l,hr0l];omega) (by rw [List.length_append,List.length_append,List.length_append,Hn.out,hre.2,hre1.2];simp;omega) hil Hr2.out)
 obtain ⟨a2,rest2,add2⟩:=r2;simp only at HK2;have HPE2:=HPE.out ([a0,a1,a2],rest2,add0++(add1++add2)) (by show bitL k (insF ins) p.kids rest=_;rw [hk1,bitL_three,Hr0.out];simp only [Hr1.out,Hr2.out])
 obtain ⟨cf,hcf⟩:∃b,(m || a0)=b:=⟨_,rfl⟩
 have HRX:Hid (bitP k (insF ins) p (g::m::rest)=((if g then a1 else a2),rest2,[g,cf]++(add0++(add1++add2)))):=by
  show _=_;rw [HPE2,ho,←hcf];rfl
 have hor:=b8_or m a0;rw [hcf] at hor;rw [ho] at c1 e0 HPB;have CT:=HB0.out.takeC;unfold pv;rw [Hkn.out,ho];unfold b8 at CT;have hn2:n+2≤1000000:=by omega
 have c4:W.cell? ⟨pb,4,none⟩=some (.slice KA kn kc):=(HPB.out W Upd.refl).cell 4;clear hrt hp hs hw hb hn hwI hbk har hbn hk1 hbl hown HPE HPE2 hl2 hre hr0l hs0 hs1 hs2 ho hrl c4 hre1 hr1l hcf;go_enter Tryz.func180,Tryz.ntmps180;go_wp2_with fail
 refine CT.out.mono ?_;rintro e w1 ⟨rfl,hB1⟩;have CT2:=hB1.takeC;unfold b8 at CT2;clear CT hB1;go_wp2_with fail
 refine CT2.out.mono ?_;rintro e w2 ⟨rfl,hB2⟩;obtain ⟨IA,ic,OA,oc,d0,d1,d2,d3,f3,f2,_,_,_,_⟩:=hB2.cells;have HB2:=h_ hB2;have hO2:=hB2.rt.own;rw [Hn.out] at d3 hO2;clear hB2 CT2
 go_wp2_with (at_builtin;refine wpList_app rfl rfl T_u8s rfl (hO2.alloc _) rfl (Sl.new _ _ _) rfl (by simp [Value.oneCell']) (by simp only [maxLen];omega) (by omega) ?_)
 intro A3 c3 w3 ho3 hu3 hat3;have hx2:=HB2.out.rt.ne;have hp3:=HB2.out.push (z:=[g,false]) (m:=2) (Upd.refl.alloc _) (by rw [Hn.out];exact ho3) rfl hu3 (fun i q=>(hat3 i q).imp id (fun z=>by rw [z];simp))
 rw [Hn.out] at hp3;have g3:=u_ d3 ((Upd.refl (S:=Non)).alloc (.cells #[.int .u8 (bW g),.int .u8 0] 5)) (fun f=>f);have g3':=u_ g3 hu3 hx2
 have hfz:w3.frozen? ⟨x,3,none⟩=false:=by
  obtain ⟨_,_,_,_,h1,_⟩:=(HB2.out.non ((Upd.refl (S:=Non)).alloc (.cells #[.int .u8 (bW g),.int .u8 0] 5))).rt.blk;exact (h1.upd hu3 hx2).frozen 3
 obtain ⟨W3,HW3⟩:=nm (w3.setCell ⟨x,3,none⟩ (.slice A3 (n+2) c3));rw [HW3.out] at hp3;have y4:W3.cell? ⟨pb,4,none⟩=some (.slice KA kn kc):=(HPB.out W3 hp3.upd).cell 4;obtain ⟨eb,eo,KB,kd,rfl,m0,m1,m2,m3,m4,C1⟩:=HK0.out W3 A3 c3 hp3;simp only [Nat.zero_mul,Nat.add_zero] at m0 m1 m2 m3 m4;unfold b8 at C1;clear hp3 ho3 hu3 hat3 g3 hO2 hx2 d0 d1 d2 d3 f3 f2 HK0
 go_upto_region 29 with fail
 rw [HW3.out];clear g3' hfz;go_wp2_with fail
 refine C1.out.mono ?_;rintro e w4 ⟨A4,k4,rfl,hB4⟩;have y4:w4.cell? ⟨pb,4,none⟩=some (.slice (some ⟨eb,eo,none⟩) kn kc):=(HPB.out w4 hB4.upd).cell 4;obtain ⟨eb2,eo2,KB2,kd2,eK,m0,m1,m2,m3,m4,C2⟩:=HK1.out w4 A4 k4 hB4;injection eK with eK
 injection eK with eK1 eK2
 subst eK1 eK2;simp only [Nat.one_mul] at m0 m1 m2 m3 m4;unfold b8 at C2;clear hB4 C1 HK1;go_wp2_with fail
 refine C2.out.mono ?_;rintro e w5 ⟨A5,k5,rfl,hB5⟩;have y4:w5.cell? ⟨pb,4,none⟩=some (.slice (some ⟨eb,eo,none⟩) kn kc):=(HPB.out w5 hB5.upd).cell 4;obtain ⟨eb3,eo3,KB3,kd3,eK,m0,m1,m2,m3,m4,C3⟩:=HK2.out w5 A5 k5 hB5;injection eK with eK
 injection eK with eK1 eK2
 subst eK1 eK2;unfold b8 at C3;clear hB5 C2 HK2;go_wp2_with fail
 refine C3.out.mono ?_;rintro e w6 ⟨A6,k6,rfl,hB6⟩;rw [List.append_assoc ((now++[g,false])++add0),List.append_assoc (now++[g,false])] at hB6;obtain ⟨addx,hax⟩:∃z,add0++(add1++add2)=z:=⟨_,rfl⟩;rw [hax] at hB6 HRX;obtain ⟨nb,rfl⟩:=hB6.rt.own.some_ (by rw [List.length_append,List.length_append];simp;omega);obtain ⟨IA,ic,OA,oc,d0,d1,d2,d3,f3,f2,_,_,_,_⟩:=hB6.cells;obtain ⟨L,HL⟩:=nm ((now++[g,false])++addx).length;have hnL:n+1<L:=by rw [←HL.out,List.length_append,List.length_append,Hn.out];simp;omega
 obtain ⟨vc,hcn⟩:∃v,w6.cell? ⟨nb,n+1,none⟩=some v:=⟨_,hB6.rt.own.cell_ (i:=n+1) (by rw [b8s_len,HL.out];exact hnL)⟩;have hfn:=hB6.rt.own.frozen_ (n+1);rw [HL.out] at d3;have hst:=hB6.set (n+1) cf;rw [←Hn.out,set_mid2,Hn.out] at hst
 have HFIN:Hid (BitR w F x k ins now NA (bitP k (insF ins) p (g::m::rest)) (.returned (b8 (if g then a1 else a2))) (w6.setCell ⟨nb,n+1,none⟩ (b8 cf))):=by
  show BitR _ _ _ _ _ _ _ _ _ _;rw [HRX.out];exact BitR.back HUW.out (BS.done (r:=(_,rest2,[g,cf]++addx)) hst rfl rfl)
 unfold b8 at HFIN;have q4:(n:Int)+1<(L:Int):=by omega
 have q0':(0:Int)≤(n:Int)+1:=by omega
 clear hB6 hst C3 m0 m1 m2 m3 m4 d0 d1 d2 f3 f2 hax hnL y4;cases g
 all_goals
  go_wp2_with fail
  go_ret;exact HFIN.out
theorem rBit_c (k:Nat) (hk:k<64) (p:Pt):BitC 180 k p:=by
 induction p using Pt.ind with
 | h p ih =>
  by_cases hv:0<p.v
  ·exact rBit_var k p hv
  ·intro w F x ins old now NA nc KA kc hrt hp hs hw hb hn hil;have hso:=hs;rw [supF_op hv,Bool.and_eq_true] at hso
   have h:BitC 180 k p:=by
    rcases supO_ops hso.1 with e | e | e | e | e | e | e | e | e | e | e | e | e | e | e
    ·exact rBit_const k hk p hv e
    ·exact rBit_carry k p hv (by omega) ih
    ·exact rBit_carry k p hv (by omega) ih
    ·exact rBit_two k p hv (by omega) ih
    ·exact rBit_two k p hv (by omega) ih
    ·exact rBit_two k p hv (by omega) ih
    ·exact rBit_shift k p hv e ih
    ·exact rBit_cmp k hk p hv (by omega) ih
    ·exact rBit_cmp k hk p hv (by omega) ih
    ·exact rBit_cmp k hk p hv (by omega) ih
    ·exact rBit_cmp k hk p hv (by omega) ih
    ·exact rBit_cmp k hk p hv (by omega) ih
    ·exact rBit_carry k p hv (by omega) ih
    ·exact rBit_not k p hv e ih
    ·exact rBit_sel k p hv e ih
   exact h w F x ins old now NA nc KA kc hrt hp hs hw hb hn hil
theorem zip_succ {α β γ:Type} (f:α→β→γ):∀{l:List α} {m:List β} {j:Nat} (h1:j<l.length) (h2:j<m.length),List.zipWith f (l.take (j+1)) m=List.zipWith f (l.take j) m++[f l[j] m[j]]
 | a::l,b::m,0,_,_=>by simp
 | a::l,b::m,j+1,h1,h2=>by
  have:=zip_succ f (l:=l) (m:=m) (j:=j) (by simpa using h1) (by simpa using h2);simp only [List.take_succ_cons,List.zipWith_cons_cons,List.cons_append,List.getElem_cons_succ];rw [this]
theorem cf_le (k:Nat) (m a b:Bool):cfF 18 k m a b=ordB m a b (decide (k=63)):=by unfold cfF;rw [if_neg (by decide)];simp
theorem drop_cons {l:List Bool} {j:Nat} (h:j<l.length):l.drop j=l[j]::l.drop (j+1):=List.drop_eq_getElem_cons h
set_option maxRecDepth 100000 in
set_option maxHeartbeats 16000000 in
theorem rSuccessor_c (r:Rl) (a:RlA) (k:Nat) (hk:k<64) (ins old:List Bool) (hro:ROk r.vars.toNat r) (hv6:r.vars.toNat≤6) (hc6:r.conds.length≤6) (hst:stN r≤4000) (hil:ins.length=r.vars.toNat) (hol:old.length=stN r) {F:Nat→Prop} {w:World} {IA OA:Option Addr} {ic oc:Nat} (hkr:RlK w F r a) (hI:Sl w F IA (b8s ins)) (hO:Sl w F OA (b8s old)) (hic:ins.length≤ic) (hoc:old.length≤oc) :
  Calls Tryz.prog 130 #[rlv r a,.int .i64 k,.slice OA old.length oc,.slice IA ins.length ic] w fun e w'=>∃NA nc,e=.returned (.slice NA (stN r) nc)∧Own w' 5 1 NA (stN r) nc (b8s (succF k (insF ins) r old))∧(∀i,At NA i→w.heap.size≤i)∧Upd Non w w':=by
 obtain ⟨W,HW⟩:=nm (w.alloc (.cells (rlCells r a) 41));have hU:Upd Non w W:=by rw [←HW.out];exact Upd.refl.alloc _
 obtain ⟨rb,hrb⟩:∃b,w.heap.size=b:=⟨_,rfl⟩;have hb:Blk W rb 41 (rlCells r a):=by rw [←HW.out,←hrb];exact Blk.new _ _ _
 have hWs:W.heap.size=w.heap.size+1:=by rw [←HW.out];simp
 have e0:=HW.out;obtain ⟨x,hx⟩:∃b,rb+1=b:=⟨_,rfl⟩;obtain ⟨W2,HW2⟩:=nm (W.alloc (.cells #[.int .i64 (k:Int),.slice IA ins.length ic,.slice OA old.length oc,.slice none 0 0] 227));have hU2:Upd Non W W2:=by rw [←HW2.out];exact Upd.refl.alloc _
 have hbx:Blk W2 x 227 #[.int .i64 (k:Int),.slice IA ins.length ic,.slice OA old.length oc,.slice none 0 0]:=by rw [←HW2.out];exact Blk.new' (by omega)
 have hU02:=hU.then_non hU2;have hKr:=(hkr.mono (G:=fun i=>i<w.heap.size) (fun i hi _=>hi)).upd hU02 (fun _ _ _ f=>f);have hI2:=(hI.mono (G:=fun i=>i<w.heap.size) (fun i hi _=>hi)).upd hU02 (fun _ _ _ f=>f);have hO2:=(hO.mono (G:=fun i=>i<w.heap.size) (fun i hi _=>hi)).upd hU02 (fun _ _ _ f=>f);have hRT:RT W2 (fun i=>i<w.heap.size) x k ins old [] none 0:=⟨⟨IA,ic,OA,oc,hbx,hI2,hO2,hoc,hic⟩,Own.none_,fun i hi=>⟨Nat.lt_of_lt_of_le hi hU02.size,by omega,At.none_⟩⟩
 have HB0:=h_ hRT.bs;have HFAR:Hid (∀i,i<w.heap.size→i≠x∧¬At none i):=fun i hi=>⟨by omega,At.none_⟩
 have HKR:=h_ hKr;have hb2:=hb.upd hU2 (fun f=>f)
 have HRB:Hid (∀w',Upd (fun i=>i=x∨At none i) W2 w'→Blk w' rb 41 (rlCells r a)):=fun w' u=>hb2.upd u (fun q=>by
  rcases q with q | q
  ·omega
  ·exact At.none_ q)
 have HUW:=h_ hU02;have HXW:Hid (w.heap.size≤x):=by show _≤_;omega
 have hbl:bN r.l+bN r.r+r.conds.length+1=stN r:=rfl;have e2:=HW2.out;have C1:=h_ ((rBit_c k hk r.l W2 _ x ins old [] none 0 a.la a.lc HB0.out.rt HKR.out.l hro.hl.sup (by rw [hil];exact hro.hl.wf) (by omega) (by simp;omega) (by omega)).mono fun e w' hr=>HB0.out.bit hr)
 have hre:=bitP_rest (k:=k) (f:=insF ins) hro.hl.sup (old:=old) (by omega);have HSU:Hid (succF k (insF ins) r old=(bitP k (insF ins) r.l old).2.2++(bitP k (insF ins) r.r (bitP k (insF ins) r.l old).2.1).2.2++List.zipWith (cdBit k (insF ins)) r.conds (bitP k (insF ins) r.r (bitP k (insF ins) r.l old).2.1).2.1++[(bitP k (insF ins) r.r (bitP k (insF ins) r.l old).2.1).2.1.getD r.conds.length false || ((bitP k (insF ins) r.l old).1 ^^ (bitP k (insF ins) r.r (bitP k (insF ins) r.l old).2.1).1)]):=rfl
 obtain ⟨r0,Hr0⟩:=nm (bitP k (insF ins) r.l old);rw [Hr0.out] at C1 hre HSU;obtain ⟨a0,rest0,add0⟩:=r0;simp only [List.nil_append] at C1 hre HSU;have hr0l:rest0.length=stN r - bN r.l:=by rw [hre.1,List.length_drop,hol]
 have hre1:=bitP_rest (k:=k) (f:=insF ins) hro.hr.sup (old:=rest0) (by omega);obtain ⟨r1,Hr1⟩:=nm (bitP k (insF ins) r.r rest0);rw [Hr1.out] at hre1 HSU;have HK1:=h_ (fun (w1:World) (A1:Option Addr) (k1:Nat) (hB1:BS W2 none w1 (fun i=>i<w.heap.size) x k ins rest0 add0 A1 k1)=>(rBit_c k hk r.r w1 _ x ins rest0 add0 A1 k1 a.ra a.rc hB1.rt (hB1.pt HFAR.out HKR.out.r) hro.hr.sup (by rw [hil];exact hro.hr.wf) (by omega) (by omega) (by omega)).mono fun e w' hr=>hB1.bit hr)
 rw [Hr1.out] at HK1;obtain ⟨a1,rest1,add1⟩:=r1;simp only at HK1 hre1 HSU;have hr1l:rest1.length=r.conds.length+1:=by rw [hre1.1,List.length_drop,hr0l];omega
 obtain ⟨nc,Hnc⟩:=nm r.conds.length;obtain ⟨sn,Hsn⟩:=nm (stN r);obtain ⟨il,Hil⟩:=nm ins.length;rw [Hsn.out] at hol hst;rw [Hnc.out] at hr1l hc6 HSU;have HCD:=h_ hro.hc;have HIL:=h_ hil;have HIN:=h_ hI2;have HAL:Hid (add0.length+add1.length+nc+1=sn):=by show _=_;rw [hre.2,hre1.2,←Hnc.out,←Hsn.out];exact hbl
 have HR1:=h_ hr1l;unfold pv at C1;unfold rlv;rw [hol,Hsn.out,Hil.out];unfold rlCells at e0 ⊢;rw [Hil.out] at e2;have e2':=e2;rw [hol] at e2';obtain ⟨c0,c1,c2,c3,c4,c5,c6,c7,c8,c9,c10,c11,c12,c13⟩:=rl_cells (HRB.out W2 Upd.refl);have HOL:=h_ hol;have hWs2:W.heap.size=rb+1:=by omega
 clear hol hil hWs hkr hI hO hb hb2 hbx hRT hKr hI2 hO2 hU hU2 hU02 hbl hre hr0l hre1 hro e2 hr1l;go_enter Tryz.func130,Tryz.ntmps130;go_wp2_with fail
 refine C1.out.mono ?_;rintro e w1 ⟨A1,k1,rfl,hB1⟩;have C2:=h_ (HK1.out w1 A1 k1 hB1);unfold pv at C2;clear c0 c1 c2 c3 c4 c5 c6 c7 c8 c9 c10 c11 c12 c13 C1;obtain ⟨c0,c1,c2,c3,c4,c5,c6,c7,c8,c9,c10,c11,c12,c13⟩:=rl_cells (HRB.out w1 hB1.upd);clear hB1 HK1;go_wp2_with fail
 refine C2.out.mono ?_;rintro e w2 ⟨A2,k2,rfl,hB2⟩;have HB2:=h_ hB2;obtain ⟨CA,hCA⟩:∃z,a.ca=z:=⟨_,rfl⟩;have HCV:Hid (CondsV W2 (fun i=>i<w.heap.size) CA r.conds):=by rw [←hCA];exact HKR.out.c
 have HC11:Hid (∀w',Upd (fun i=>i=x∨At none i) W2 w'→w'.cell? ⟨rb,11,none⟩=some (.slice CA nc a.cc)):=fun w' u=>by
  obtain ⟨_,_,_,_,_,_,_,_,_,_,_,h,_,_⟩:=rl_cells (HRB.out w' u);rw [hCA,Hnc.out] at h;exact h
 have HFU:Hid (∀w',Upd (fun i=>i=x∨At none i) W2 w'→∀i,i<W2.heap.size→i<w.heap.size→¬(i=x∨At none i)):=fun w' _ i _ hi q=>by
  rcases q with q | q
  ·have:=HXW.out;omega
  ·exact At.none_ q
 clear c0 c1 c2 c3 c4 c5 c6 c7 c8 c9 c10 c11 c12 c13 C2 hB2 hCA;go_wp2_with fail
 go_loopg [12] nc (fun gg s12 wr=>∃(j:Nat) (A3:Option Addr) (k3:Nat),Hid (gg=nc - j)∧j≤nc∧s12=.int .i64 j∧Hid (BS W2 none wr (fun i=>i<w.heap.size) x k ins (rest1.drop j) ((add0++add1)++List.zipWith (cdBit k (insF ins)) (r.conds.take j) rest1) A3 k3))
 case atStart=>exact ⟨0,A2,k2,rfl,by omega,rfl,by rw [List.drop_zero,List.take_zero];show BS _ _ _ _ _ _ _ _ (_++[]) _ _;rw [List.append_nil];exact HB2.out⟩
 case round =>
  obtain ⟨j,A3,k3,Hgg,hj,rfl,HB3⟩:=hrel;have y11:=HC11.out wr HB3.out.upd;by_cases hlt:j<nc
  ·have hjl:j<r.conds.length:=by rw [Hnc.out];exact hlt
   have hjr:j<rest1.length:=by rw [HR1.out];omega
   obtain ⟨b,o,rfl,_,hbw,q0,q1,q2,q3⟩:=(HCV.out.upd HB3.out.upd (HFU.out wr HB3.out.upd)).at_ hjl;have hcd:=HCD.out _ (List.getElem_mem hjl);have hzs:=zip_succ (cdBit k (insF ins)) hjl hjr;generalize r.conds[j]=cd at *;obtain ⟨kind,a_,b_,n_⟩:=cd;simp only at q0 q1 q2 q3 hcd;obtain ⟨⟨hk1,hk4⟩,hni,ha1,ha2,hb12⟩:=hcd;obtain ⟨an,rfl⟩:∃an:Nat,a_=((an+1:Nat):Int):=⟨(a_ - 1).toNat,by omega⟩;have hanl:an<ins.length:=by rw [HIL.out];omega
   have hjn:(j:Int)<(nc:Int):=by omega
   have hj0:(0:Int)≤(j:Int):=by omega
   have hB3:=HB3.out;rw [drop_cons hjr] at hB3;obtain ⟨m,Hm⟩:=nm rest1[j];rw [Hm.out] at hB3 hzs;obtain ⟨cb,hcb⟩:∃z,wr.heap.size=z:=⟨_,rfl⟩;obtain ⟨AN,HAN⟩:=nm (((an+1:Nat):Int));rw [HAN.out] at q1;obtain ⟨W5,HW5⟩:=nm (wr.alloc (.cells #[.int .i64 kind,.int .i64 AN,.int .i64 b_,.int .i64 n_] 102));have u5:Upd Non wr W5:=by rw [←HW5.out];exact Upd.refl.alloc _
   have hcB:Blk W5 cb 102 #[.int .i64 kind,.int .i64 AN,.int .i64 b_,.int .i64 n_]:=by rw [←HW5.out,←hcb];exact Blk.new _ _ _
   have HB5:=h_ (hB3.non u5);have CT:=h_ (rTake_c HB5.out.rt);have e5:=HW5.out;have HCB:=h_ hcB;have HXC:Hid (x<cb):=by show x<cb;rw [←hcb];exact HB3.out.rt.lt
   have HZS:=h_ hzs;have HB12:=h_ hb12;clear hB3 u5 hcB hzs hb12 ha1 ha2 hjl;unfold b8 at CT;go_wp2_with fail
   refine CT.out.mono ?_;rintro e w6 ht;have hu6:=ht.2.2;obtain ⟨rfl,hB6⟩:=HB5.out.take ht;unfold b8;have hcb6:=HCB.out.upd hu6 (by have:=HXC.out;omega);have z0:=hcb6.cell 0;have z1:=hcb6.cell 1;have z2:=hcb6.cell 2;have z3:=hcb6.cell 3;obtain ⟨ib,io,rfl,_,_,hia⟩:=(HIN.out.upd hB6.upd (HFU.out w6 hB6.upd)).at_ (k:=an) (by rw [b8s_len];exact hanl)
   have hiv:(b8s ins)[an]'(by rw [b8s_len];exact hanl)=.int .u8 (bW (insF ins an)):=by
    have h1:(b8s ins)[an]'(by rw [b8s_len];exact hanl)=b8 (ins[an]'hanl):=by unfold b8s;rw [List.getElem_map]
    rw [h1];unfold insF;rw [getD_of hanl];rfl
   rw [hiv] at hia;obtain ⟨pv_,Hpv⟩:=nm (insF ins an);rw [Hpv.out] at hia
   have HBB:=h_ (fun (bn:Nat) (hbn:bn<ins.length)=>(show w6.cell? ⟨ib,io+bn,none⟩=some (.int .u8 (bW (insF ins bn))) by
    obtain ⟨ib2,io2,e,_,_,h⟩:=(HIN.out.upd hB6.upd (HFU.out w6 hB6.upd)).at_ (k:=bn) (by rw [b8s_len];exact hbn);injection e with e
    injection e with e1 e2
    subst e1 e2;rw [h];have h1:(b8s ins)[bn]'(by rw [b8s_len];exact hbn)=b8 (ins[bn]'hbn):=by unfold b8s;rw [List.getElem_map]
    rw [h1];unfold insF;rw [getD_of hbn]
    rfl))
   have HB6:=h_ hB6;have q4:wrap64 (AN - 1)=(an:Int):=by rw [←HAN.out,wrap64_of (by unfold I64;have:=HIL.out;omega)];omega
   have q5:(0:Int)≤(an:Int):=by omega
   have q6:(an:Int)<(il:Int):=by rw [←Hil.out];omega
   clear ht hu6 hcb6 CT hiv HIN hB6 e5;have h4:kind=1∨kind=2∨kind=3∨kind=4:=by omega
   have HTA:Hid ((((an+1:Nat):Int) - 1).toNat=an):=by show _=_;omega
   rcases h4 with h | h | h | h
   ·subst h;obtain ⟨mv,hmv⟩:∃b,(m || pv_)=b:=⟨_,rfl⟩;have hor:=b8_or m pv_;rw [hmv] at hor
    have HCDB:Hid (cdBit k (insF ins) ⟨1,((an+1:Nat):Int),b_,n_⟩ m=mv):=by
     show _=_;unfold cdBit;rw [if_pos rfl];show (m || insF ins ((((an+1:Nat):Int) - 1).toNat))=mv;rw [HTA.out,Hpv.out,hmv]
    clear hmv HBB;have HNX:Hid (((add0++add1)++List.zipWith (cdBit k (insF ins)) (r.conds.take j) rest1)++[mv]=(add0++add1)++List.zipWith (cdBit k (insF ins)) (r.conds.take (j+1)) rest1):=by show _=_;rw [HZS.out,HCDB.out,List.append_assoc]
    obtain ⟨I6,i6,O6,o6,d0,d1,d2,d3,f3,f2,_,_,_,_⟩:=HB6.out.cells;have hO6:=HB6.out.rt.own;have hnlb:((add0++add1)++List.zipWith (cdBit k (insF ins)) (r.conds.take j) rest1).length≤4000:=by rw [List.length_append,List.length_append,List.length_zipWith,List.length_take,HR1.out,Hnc.out];have:=HAL.out;omega
    obtain ⟨NW,HNW⟩:=nm ((add0++add1)++List.zipWith (cdBit k (insF ins)) (r.conds.take j) rest1);rw [HNW.out] at d3 hO6 hnlb HNX HB6;obtain ⟨nl,Hnl⟩:=nm NW.length;rw [Hnl.out] at d3 hO6 hnlb;clear d0 d1 d2 f2
    go_wp2_with (at_builtin;refine wpList_app rfl rfl T_u8s rfl (hO6.alloc _) rfl (Sl.new _ _ _) rfl (by simp [Value.oneCell']) (by simp only [maxLen];omega) (by omega) ?_)
    intro A7 c7 w7 ho7 hu7 hat7;have hx6:=HB6.out.rt.ne;have hp7:=HB6.out.push (z:=[mv]) (m:=1) (Upd.refl.alloc _) (by rw [Hnl.out];exact ho7) rfl hu7 (fun i q=>(hat7 i q).imp id (fun z=>by rw [z];simp));rw [Hnl.out,HNX.out] at hp7;have g3:=u_ d3 ((Upd.refl (S:=Non)).alloc (.cells #[.int .u8 (bW mv)] 5)) (fun f=>f);have g3':=u_ g3 hu7 hx6
    have hfz:w7.frozen? ⟨x,3,none⟩=false:=by
     obtain ⟨_,_,_,_,h1,_⟩:=(HB6.out.non ((Upd.refl (S:=Non)).alloc (.cells #[.int .u8 (bW mv)] 5))).rt.blk;exact (h1.upd hu7 hx6).frozen 3
    have HP7:=h_ hp7;clear hp7 ho7 hu7 hat7 g3 hO6 hx6 d3 f3;go_wp2_with fail
    go_roundg (nc - (j+1))
    case measure=>rw [Hgg.out];omega
    case rel=>exact ⟨j+1,A7,c7,rfl,by omega,by go_num,HP7.out⟩
   ·subst h;have CB:=h_ (fun w'=>rBitOf_c n_ k hk w');have CF:=h_ (fun w'=>rCompareFlag_c 18 (by omega) k m (bI n_ k) pv_ w');obtain ⟨mv,Hmv⟩:=nm (cfF 18 k m (bI n_ k) pv_);rw [Hmv.out] at CF
    have HCDB:Hid (cdBit k (insF ins) ⟨2,((an+1:Nat):Int),b_,n_⟩ m=mv):=by
     show ordB m (bI n_ k) (insF ins ((((an+1:Nat):Int) - 1).toNat)) (decide (k=63))=mv;rw [HTA.out,Hpv.out,←cf_le,Hmv.out]
    obtain ⟨bv,Hbv⟩:=nm (bI n_ k);rw [Hbv.out] at CB CF;unfold b8 at CB CF;clear HBB;go_wp2_with fail
    refine (CB.out _).mono ?_;rintro e w9 ⟨rfl,hw9⟩;subst hw9;go_wp2_with fail
    refine (CF.out _).mono ?_;rintro e w9 ⟨rfl,hw9⟩;subst hw9;have HNX:Hid (((add0++add1)++List.zipWith (cdBit k (insF ins)) (r.conds.take j) rest1)++[mv]=(add0++add1)++List.zipWith (cdBit k (insF ins)) (r.conds.take (j+1)) rest1):=by show _=_;rw [HZS.out,HCDB.out,List.append_assoc]
    obtain ⟨I6,i6,O6,o6,d0,d1,d2,d3,f3,f2,_,_,_,_⟩:=HB6.out.cells;have hO6:=HB6.out.rt.own;have hnlb:((add0++add1)++List.zipWith (cdBit k (insF ins)) (r.conds.take j) rest1).length≤4000:=by rw [List.length_append,List.length_append,List.length_zipWith,List.length_take,HR1.out,Hnc.out];have:=HAL.out;omega
    obtain ⟨NW,HNW⟩:=nm ((add0++add1)++List.zipWith (cdBit k (insF ins)) (r.conds.take j) rest1);rw [HNW.out] at d3 hO6 hnlb HNX HB6;obtain ⟨nl,Hnl⟩:=nm NW.length;rw [Hnl.out] at d3 hO6 hnlb;clear d0 d1 d2 f2
    go_wp2_with (at_builtin;refine wpList_app rfl rfl T_u8s rfl (hO6.alloc _) rfl (Sl.new _ _ _) rfl (by simp [Value.oneCell']) (by simp only [maxLen];omega) (by omega) ?_)
    intro A7 c7 w7 ho7 hu7 hat7;have hx6:=HB6.out.rt.ne;have hp7:=HB6.out.push (z:=[mv]) (m:=1) (Upd.refl.alloc _) (by rw [Hnl.out];exact ho7) rfl hu7 (fun i q=>(hat7 i q).imp id (fun z=>by rw [z];simp));rw [Hnl.out,HNX.out] at hp7;have g3:=u_ d3 ((Upd.refl (S:=Non)).alloc (.cells #[.int .u8 (bW mv)] 5)) (fun f=>f);have g3':=u_ g3 hu7 hx6
    have hfz:w7.frozen? ⟨x,3,none⟩=false:=by
     obtain ⟨_,_,_,_,h1,_⟩:=(HB6.out.non ((Upd.refl (S:=Non)).alloc (.cells #[.int .u8 (bW mv)] 5))).rt.blk;exact (h1.upd hu7 hx6).frozen 3
    have HP7:=h_ hp7;clear hp7 ho7 hu7 hat7 g3 hO6 hx6 d3 f3;go_wp2_with fail
    go_roundg (nc - (j+1))
    case measure=>rw [Hgg.out];omega
    case rel=>exact ⟨j+1,A7,c7,rfl,by omega,by go_num,HP7.out⟩
   ·subst h;have CB:=h_ (fun w'=>rBitOf_c n_ k hk w');have CF:=h_ (fun w'=>rCompareFlag_c 18 (by omega) k m pv_ (bI n_ k) w');obtain ⟨mv,Hmv⟩:=nm (cfF 18 k m pv_ (bI n_ k));rw [Hmv.out] at CF
    have HCDB:Hid (cdBit k (insF ins) ⟨3,((an+1:Nat):Int),b_,n_⟩ m=mv):=by
     show ordB m (insF ins ((((an+1:Nat):Int) - 1).toNat)) (bI n_ k) (decide (k=63))=mv;rw [HTA.out,Hpv.out,←cf_le,Hmv.out]
    obtain ⟨bv,Hbv⟩:=nm (bI n_ k);rw [Hbv.out] at CB CF;unfold b8 at CB CF;clear HBB;go_wp2_with fail
    refine (CB.out _).mono ?_;rintro e w9 ⟨rfl,hw9⟩;subst hw9;go_wp2_with fail
    refine (CF.out _).mono ?_;rintro e w9 ⟨rfl,hw9⟩;subst hw9;have HNX:Hid (((add0++add1)++List.zipWith (cdBit k (insF ins)) (r.conds.take j) rest1)++[mv]=(add0++add1)++List.zipWith (cdBit k (insF ins)) (r.conds.take (j+1)) rest1):=by show _=_;rw [HZS.out,HCDB.out,List.append_assoc]
    obtain ⟨I6,i6,O6,o6,d0,d1,d2,d3,f3,f2,_,_,_,_⟩:=HB6.out.cells;have hO6:=HB6.out.rt.own;have hnlb:((add0++add1)++List.zipWith (cdBit k (insF ins)) (r.conds.take j) rest1).length≤4000:=by rw [List.length_append,List.length_append,List.length_zipWith,List.length_take,HR1.out,Hnc.out];have:=HAL.out;omega
    obtain ⟨NW,HNW⟩:=nm ((add0++add1)++List.zipWith (cdBit k (insF ins)) (r.conds.take j) rest1);rw [HNW.out] at d3 hO6 hnlb HNX HB6;obtain ⟨nl,Hnl⟩:=nm NW.length;rw [Hnl.out] at d3 hO6 hnlb;clear d0 d1 d2 f2
    go_wp2_with (at_builtin;refine wpList_app rfl rfl T_u8s rfl (hO6.alloc _) rfl (Sl.new _ _ _) rfl (by simp [Value.oneCell']) (by simp only [maxLen];omega) (by omega) ?_)
    intro A7 c7 w7 ho7 hu7 hat7;have hx6:=HB6.out.rt.ne;have hp7:=HB6.out.push (z:=[mv]) (m:=1) (Upd.refl.alloc _) (by rw [Hnl.out];exact ho7) rfl hu7 (fun i q=>(hat7 i q).imp id (fun z=>by rw [z];simp));rw [Hnl.out,HNX.out] at hp7;have g3:=u_ d3 ((Upd.refl (S:=Non)).alloc (.cells #[.int .u8 (bW mv)] 5)) (fun f=>f);have g3':=u_ g3 hu7 hx6
    have hfz:w7.frozen? ⟨x,3,none⟩=false:=by
     obtain ⟨_,_,_,_,h1,_⟩:=(HB6.out.non ((Upd.refl (S:=Non)).alloc (.cells #[.int .u8 (bW mv)] 5))).rt.blk;exact (h1.upd hu7 hx6).frozen 3
    have HP7:=h_ hp7;clear hp7 ho7 hu7 hat7 g3 hO6 hx6 d3 f3;go_wp2_with fail
    go_roundg (nc - (j+1))
    case measure=>rw [Hgg.out];omega
    case rel=>exact ⟨j+1,A7,c7,rfl,by omega,by go_num,HP7.out⟩
   ·subst h;obtain ⟨hb1,hb2⟩:=HB12.out rfl;obtain ⟨bn,hbn⟩:∃bn:Nat,b_=((bn+1:Nat):Int):=⟨(b_ - 1).toNat,by omega⟩;have hbnl:bn<ins.length:=by rw [HIL.out];omega
    have hib:=HBB.out bn hbnl;obtain ⟨pw,Hpw⟩:=nm (insF ins bn);rw [Hpw.out] at hib;have r4:wrap64 (b_ - 1)=(bn:Int):=by rw [hbn,wrap64_of (by unfold I64;have:=HIL.out;omega)];omega
    have r5:(0:Int)≤(bn:Int):=by omega
    have r6:(bn:Int)<(il:Int):=by rw [←Hil.out];omega
    obtain ⟨xv,hxv⟩:∃b,(pv_ ^^ pw)=b:=⟨_,rfl⟩;have hxo:=b8_xor pv_ pw;rw [hxv] at hxo;obtain ⟨mv,hmv⟩:∃b,(m || xv)=b:=⟨_,rfl⟩;have hor:=b8_or m xv;rw [hmv] at hor
    have HCDB:Hid (cdBit k (insF ins) ⟨4,((an+1:Nat):Int),b_,n_⟩ m=mv):=by
     show _=_;rw [←hmv,←hxv,←Hpv.out,←Hpw.out,hbn];show (m || (insF ins ((((an+1:Nat):Int) - 1).toNat) ^^ insF ins ((((bn+1:Nat):Int) - 1).toNat)))=_;rw [HTA.out,show (((bn+1:Nat):Int) - 1).toNat=bn by omega]
    clear hmv hxv HBB hbn hb1 hb2 hbnl;have HNX:Hid (((add0++add1)++List.zipWith (cdBit k (insF ins)) (r.conds.take j) rest1)++[mv]=(add0++add1)++List.zipWith (cdBit k (insF ins)) (r.conds.take (j+1)) rest1):=by show _=_;rw [HZS.out,HCDB.out,List.append_assoc]
    obtain ⟨I6,i6,O6,o6,d0,d1,d2,d3,f3,f2,_,_,_,_⟩:=HB6.out.cells;have hO6:=HB6.out.rt.own;have hnlb:((add0++add1)++List.zipWith (cdBit k (insF ins)) (r.conds.take j) rest1).length≤4000:=by rw [List.length_append,List.length_append,List.length_zipWith,List.length_take,HR1.out,Hnc.out];have:=HAL.out;omega
    obtain ⟨NW,HNW⟩:=nm ((add0++add1)++List.zipWith (cdBit k (insF ins)) (r.conds.take j) rest1);rw [HNW.out] at d3 hO6 hnlb HNX HB6;obtain ⟨nl,Hnl⟩:=nm NW.length;rw [Hnl.out] at d3 hO6 hnlb;clear d0 d1 d2 f2
    go_wp2_with (at_builtin;refine wpList_app rfl rfl T_u8s rfl (hO6.alloc _) rfl (Sl.new _ _ _) rfl (by simp [Value.oneCell']) (by simp only [maxLen];omega) (by omega) ?_)
    intro A7 c7 w7 ho7 hu7 hat7;have hx6:=HB6.out.rt.ne;have hp7:=HB6.out.push (z:=[mv]) (m:=1) (Upd.refl.alloc _) (by rw [Hnl.out];exact ho7) rfl hu7 (fun i q=>(hat7 i q).imp id (fun z=>by rw [z];simp));rw [Hnl.out,HNX.out] at hp7;have g3:=u_ d3 ((Upd.refl (S:=Non)).alloc (.cells #[.int .u8 (bW mv)] 5)) (fun f=>f);have g3':=u_ g3 hu7 hx6
    have hfz:w7.frozen? ⟨x,3,none⟩=false:=by
     obtain ⟨_,_,_,_,h1,_⟩:=(HB6.out.non ((Upd.refl (S:=Non)).alloc (.cells #[.int .u8 (bW mv)] 5))).rt.blk;exact (h1.upd hu7 hx6).frozen 3
    have HP7:=h_ hp7;clear hp7 ho7 hu7 hat7 g3 hO6 hx6 d3 f3;go_wp2_with fail
    go_roundg (nc - (j+1))
    case measure=>rw [Hgg.out];omega
    case rel=>exact ⟨j+1,A7,c7,rfl,by omega,by go_num,HP7.out⟩
  ·obtain rfl:nc=j:=by omega
   have hjr:nc<rest1.length:=by rw [HR1.out];omega
   have hB3:=HB3.out;rw [drop_cons hjr,List.drop_eq_nil_of_le (by rw [HR1.out];exact Nat.le_refl _)] at hB3;obtain ⟨m,Hm⟩:=nm rest1[nc];rw [Hm.out] at hB3;have HB4:=h_ hB3;have CT:=h_ (rTake_c HB4.out.rt);have HFN:Hid (List.zipWith (cdBit k (insF ins)) (r.conds.take nc) rest1=List.zipWith (cdBit k (insF ins)) r.conds rest1):=by show _=_;rw [List.take_of_length_le (by rw [Hnc.out];exact Nat.le_refl _)]
   obtain ⟨I6,i6,O6,o6,d0,d1,d2,d3,f3,f2,_,_,_,_⟩:=HB4.out.cells;have hnlb:((add0++add1)++List.zipWith (cdBit k (insF ins)) (r.conds.take nc) rest1).length=add0.length+add1.length+nc:=by rw [List.length_append,List.length_append,List.length_zipWith,List.length_take,HR1.out,Hnc.out];omega
   have HMG:Hid (rest1.getD nc false=m):=by show _=_;rw [getD_of hjr];exact Hm.out
   obtain ⟨NW,HNW⟩:=nm ((add0++add1)++List.zipWith (cdBit k (insF ins)) (r.conds.take nc) rest1);rw [HNW.out] at d3 hnlb HB4 CT;have hal:=HAL.out;have HNL:Hid (NW.length+1=sn):=by show _=_;omega
   have hnl2:NW.length≤4000:=by omega
   obtain ⟨nl,Hnl⟩:=nm NW.length;rw [Hnl.out] at d3 HNL hnl2;obtain ⟨xv,hxv⟩:∃b,(a0 ^^ a1)=b:=⟨_,rfl⟩;have hxo:=b8_xor a0 a1;rw [hxv] at hxo;obtain ⟨mv,hmv⟩:∃b,(m || xv)=b:=⟨_,rfl⟩;have hor:=b8_or m xv;rw [hmv] at hor
   have HRES:Hid (b8s NW++[.int .u8 (bW mv)]=b8s (succF k (insF ins) r old)):=by
    show _=_;rw [HSU.out,←HFN.out,HNW.out,HMG.out,hxv,hmv];unfold b8s;rw [List.map_append];rfl
   clear hnlb hal hB3 hxv hmv d0 d1 d2 f3 f2;unfold b8;have HBD:=h_ (HB4.out.non (Upd.refl (S:=Non) (w:=wr)).drew);have CT2:=h_ (rTake_c HBD.out.rt);unfold b8 at CT2;obtain ⟨W6,HW6⟩:=nm wr.drew;rw [HW6.out] at HBD CT2;have d3':=u_ (S:=Non) d3 (by rw [←HW6.out];exact Upd.refl.drew) (w':=W6) (fun f=>f);clear CT d3;go_wp2_with fail
   refine wp_region_held_drew (S:=fun w'=>w'.cell? ⟨x,3,none⟩=some (.slice A3 nl k3)) (by kernel_rfl) (by rw [HW6.out];exact d3') (fun hHeld=>?_);rw [HW6.out] at hHeld ⊢;refine wpT 0 ?_;(try simp only [y_,z_]);refine wpT 1 ?_;(try simp only [y_,z_]);refine wpT 2 ?_;(try simp only [y_,z_]);refine wpT 3 ?_;(try simp only [y_,z_]);refine wpT 4 ?_;(try simp only [y_,z_]);refine wpT 6 ?_;(try simp only [y_,z_]);refine wpT 7 ?_;(try simp only [y_,z_]);refine wpT 8 ?_;(try simp only [y_,z_]);refine aR_ (rs:=[5]) (by kernel_rfl) (by simp) ?_;refine aC_ rfl (fun K hK=>?_) aN_;go_simp;refine CT2.out.mono ?_;rintro e w7 ht;obtain ⟨rfl,hB7⟩:=HBD.out.take ht;obtain ⟨I7,i7,O7,o7,_,_,_,d7,_,_,_,_,_,_⟩:=hB7.cells;rw [Hnl.out] at d7;have HB7:=h_ hB7;have hO7:=hB7.rt.own;rw [Hnl.out] at hO7;unfold b8;clear ht hB7;go_wp2_with fail
   refine hK.out _ _ ?_ (fun hHeld=>?_)
   ·exact d7
   clear hK K;(try simp only [y_,z_]);refine wpT 9 ?_;(try simp only [y_,z_]);refine aR_ (rs:=[10]) (by kernel_rfl) (by simp) ?_;refine aC_ rfl (fun K hK=>?_) aN_;go_simp;obtain ⟨W8,HW8⟩:=nm (w7.alloc (.cells #[.int .u8 (bW mv)] 5));have u8:Upd Non w7 W8:=by rw [←HW8.out];exact Upd.refl.alloc _
   have d8:=u_ (S:=Non) d7 u8 (fun f=>f);have hO8:=hO7.upd u8 (fun _ _ f=>f);have hS8:Sl W8 (fun _=>True) (some ⟨w7.heap.size,0,none⟩) [.int .u8 (bW mv)]:=by rw [←HW8.out];exact (Sl.new w7 5 _).mono (fun _ _ _=>trivial)
   rw [HW8.out];refine hK.out _ _ ?_ (fun hHeld=>?_)
   ·exact d8
   clear hK K;(try simp only [y_,z_]);refine aR_ (rs:=[11]) (by kernel_rfl) (by simp) ?_;refine aC_ rfl (fun K hK=>?_) aN_;refine step_app rfl rfl T_u8s rfl hO8 rfl hS8 rfl (by simp [Value.oneCell']) (by simp only [maxLen];omega) (by omega) ?_;intro A9 c9 w9 ho9 hu9 hat9;have hx8:¬At A3 x:=HB7.out.rt.ne;have d9:=u_ d8 hu9 hx8;refine hK.out _ _ ?_ (fun hHeld=>?_)
   ·exact d9
   clear hK K;(try simp only [y_,z_])
   have HFI:Hid (∃NA nc,Value.slice A9 (nl+1) c9=.slice NA sn nc∧Own w9 5 1 NA sn nc (b8s (succF k (insF ins) r old))∧(∀i,At NA i→w.heap.size≤i)∧Upd Non w w9):=by
    refine ⟨A9,c9,by rw [HNL.out],?_,fun i q=>?_,?_⟩
    ·rw [←HNL.out,←HRES.out];exact ho9
    ·have hs:=u8.size;have hw:=HB7.out.upd.size;have hw2:=HUW.out.size;rcases hat9 i q with q | q
     ·rcases HB7.out.at_ i q with q | q
      ·exact (At.none_ q).elim
      ·omega
     ·omega
    ·have hu7:Upd Non w w7:=HUW.out.trans HB7.out.upd (fun i hi q=>by
      rcases q with q | q
      ·have:=HXW.out;omega
      ·exact At.none_ q)
     exact (hu7.then_non u8).trans hu9 (fun i hi q=>by
      have hw2:=HUW.out.size;rcases HB7.out.at_ i q with q | q
      ·exact At.none_ q
      ·omega)
   clear ho9 hu9 hat9 hx8 d8 hO8 hS8 u8 d7 hO7 HB7;refine wpT 12 ?_;(try simp only [y_,z_]);refine aD_ (by kernel_rfl) ?_ _;clear hHeld d9;go_wp2_with fail
   go_ret;obtain ⟨NA9,n9,e9,h9⟩:=HFI.out;exact ⟨NA9,n9,congrArg Ending.returned e9,h9⟩
theorem gRL_app (l m:List Pt):∀b,gRL (l++m) b=((gRL l b).1&&(gRL m (gRL l b).2).1,(gRL m (gRL l b).2).2):=by
 induction l with
 | nil=>intro b;simp [gRL]
 | cons x l ih=>intro b;rw [List.cons_append,gRL,gRL,ih,Bool.and_assoc]
theorem gRL_one (q:Pt) (b:List Bool):gRL [q] b=gRP q b:=by simp [gRL]
theorem gRL_rest (l:List Pt):∀b,(gRL l b).2=b.drop (bL l):=by
 induction l with
 | nil=>intro b;simp [gRL,bL]
 | cons x l ih=>intro b;rw [gRL,ih,gRP_rest,List.drop_drop];rfl
theorem selK_gR {p:Pt} (hw:WfP 64 p) (hv:¬0<p.v) (hs:supO p.op p.kids=true) (b:List Bool):gRL (selK p.op p.kids p.kids.length) b=gRL p.kids b:=by
 have hw':=(WfP.iff 64 p).1 hw;unfold selK;by_cases h12:p.op=12
 ·have h2:p.kids.length=2:=by rw [hw'.2.2.1 (by omega),h12];rfl
  obtain ⟨k0,k1,ek⟩:∃k0 k1,p.kids=[k0,k1]:=by
   match p.kids,h2 with
   | [x,y],_=>exact ⟨x,y,rfl⟩
  have ho:k1.op=1:=by
   have:=hs;unfold supO at this;have:=of_decide_eq_true this;rw [h12,ek] at this;simp [kid] at this;omega
  have w1:=(WfP.iff 64 k1).1 (hw'.2.2.2 k1 (by rw [ek];simp))
  have hz1:∀b,gRP k1 b=(true,b):=fun b=>by
   rw [gRP_iff];by_cases hv1:0<k1.v
   ·rw [if_pos hv1]
   ·have hk0:k1.kids=[]:=List.length_eq_zero_iff.1 (by rw [w1.2.2.1 (by omega),ho];rfl);rw [if_neg hv1,hk0,ho];rfl
  rw [if_pos h12,ek];simp [gRL,hz1]
 ·rw [if_neg h12,List.take_length]
def GrP (w:World) (F:Nat→Prop) (b:List Bool) (n:Nat) (ok:Bool) (e:Ending) (w':World):Prop :=
 ∃(BA':Option Addr) (bc':Nat),e=.returned (.tuple #[.slice BA' (b.length - n) bc',.bool ok])∧Sl w' F BA' (b8s (b.drop n))∧b.length - n≤bc'∧Upd Non w w'
set_option maxRecDepth 100000 in
set_option maxHeartbeats 16000000 in
theorem rGuess_c (p:Pt):∀(w:World) (F:Nat→Prop) (KA:Option Addr) (kc:Nat) (BA:Option Addr) (bc:Nat) (b:List Bool),PtK w F p KA kc→supF p=true→WfP 64 p→Sl w F BA (b8s b)→b.length≤bc→bN p≤b.length→b.length≤100000 →
  Calls Tryz.prog 129 #[pv p KA kc,.slice BA b.length bc] w fun e w'=>GrP w F b (bN p) (gRP p b).1 e w':=by
 induction p using Pt.ind with
 | h p ih =>
  intro w F KA kc BA bc b hp hs hw hB hbc hbn hbl;obtain ⟨W,HW⟩:=nm (w.alloc (.cells #[.int .i64 p.v,.int .i64 p.op,.int .i64 p.imm,.int .i64 p.iv,.slice KA p.kids.length kc] 38));have hU:Upd Non w W:=by rw [←HW.out];exact Upd.refl.alloc _
  obtain ⟨pb,hpb⟩:∃z,w.heap.size=z:=⟨_,rfl⟩;have hb:Blk W pb 38 #[.int .i64 p.v,.int .i64 p.op,.int .i64 p.imm,.int .i64 p.iv,.slice KA p.kids.length kc]:=by rw [←HW.out,←hpb];exact Blk.new _ _ _
  have e0:=HW.out;have HPW:=h_ (PtK.upd hU (fun _ _ _ f=>f) p KA kc hp);have HBW:=h_ (hB.upd hU (fun _ _ _ f=>f));have HUW:=h_ hU;have HI:=h_ ih;have HWF:=h_ ((WfP.iff 64 p).1 hw);have HB:=h_ hb;have c0:W.cell? ⟨pb,0,none⟩=some (.int .i64 p.v):=hb.cell 0;have c1:W.cell? ⟨pb,1,none⟩=some (.int .i64 p.op):=hb.cell 1;obtain ⟨bl,Hbl⟩:=nm b.length;rw [Hbl.out] at hbc hbn hbl ⊢;have HBC:Hid (bl≤bc):=hbc;have HBN:=h_ hbn;unfold pv;by_cases hv:0<p.v
  ·have HP:Hid (GrP w F b (bN p) (gRP p b).1 (.returned (.tuple #[.slice BA bl bc,.bool true])) W):=by
    have h0:bN p=0:=by rw [bN_iff,if_pos hv]
    have h1:(gRP p b).1=true:=by rw [gRP_iff,if_pos hv]
    rw [h0,h1];exact ⟨BA,bc,by rw [Hbl.out,Nat.sub_zero],HBW.out,by rw [Hbl.out,Nat.sub_zero];exact HBC.out,HUW.out⟩
   have tv:decide (p.v > 0)=true:=dT_ hv;clear hp hs hw hB hU hb hbc hbn hv ih;go_enter Tryz.func129,Tryz.ntmps129;go_wp2_with fail
   refine bodyPost_ret (results_tmp2 rfl _ _ _) rfl ?_;exact HP.out
  ·have tv:decide (p.v > 0)=false:=dF_ (by omega);have hs1:supO p.op p.kids=true:=by rw [supF_op hv,Bool.and_eq_true] at hs;exact hs.1
   by_cases h1:p.op=1
   ·have hk0:p.kids=[]:=List.length_eq_zero_iff.1 (by rw [HWF.out.2.2.1 (by have:=HWF.out.1;omega),h1];rfl)
    have HP:Hid (GrP w F b (bN p) (gRP p b).1 (.returned (.tuple #[.slice BA bl bc,.bool true])) W):=by
     have h0:bN p=0:=by rw [bN_iff,if_neg hv,h1,hk0];rfl
     have h2:(gRP p b).1=true:=by rw [gRP_iff,if_neg hv,h1,hk0];rfl
     rw [h0,h2];exact ⟨BA,bc,by rw [Hbl.out,Nat.sub_zero],HBW.out,by rw [Hbl.out,Nat.sub_zero];exact HBC.out,HUW.out⟩
    rw [h1] at c1 e0;rw [h1];clear hp hs hw hB hU hb hbc hbn hv ih hs1 h1 hk0;go_enter Tryz.func129,Tryz.ntmps129;go_wp2_with fail
    refine bodyPost_ret (results_tmp2 rfl _ _ _) rfl ?_;exact HP.out
   ·have t1:(p.op==1)=false:=by simpa using h1
    have hops:=supO_ops hs1;have HSF:=h_ hs;have HW1:=h_ hw;have HV:Hid (¬0<p.v):=hv;have HSEL:=h_ (selK_gR hw hv hs1);obtain ⟨own,Hown⟩:=nm (ownN p.op p.kids);have HBNE:Hid (bN p=own+bL p.kids):=by show _=_;rw [bN_iff,if_neg hv,Hown.out]
    have hob:own≤bl:=by have:=HBNE.out;omega
    obtain ⟨g0,Hg0⟩:=nm (gOk p.op (b.take own));have HGR:Hid ((gRP p b).1=(g0&&(gRL p.kids (b.drop own)).1)):=by show _=_;rw [gRP_iff,if_neg hv,Hown.out,Hg0.out]
    obtain ⟨op,Hop⟩:=nm p.op;rw [Hop.out] at c1 e0 t1 hops Hown Hg0 hs1;rw [Hop.out];clear hp hs hw hB hU hb hv ih h1;go_enter Tryz.func129,Tryz.ntmps129
    go_upto_block 0 with fail
    go_cut [1,6] (fun s1 s6 wx=>∃(BA1:Option Addr) (bc1:Nat),s1=.slice BA1 (bl - own) bc1∧s6=.bool g0∧Hid (Sl wx F BA1 (b8s (b.drop own)))∧bl - own≤bc1∧Hid (Upd Non W wx))
    case first =>
     have hB1:=HBW.out;have HCUT:Hid (∀m,Sl W F (if bc=m then BA else BA.map (·.add m)) (b8s (b.drop m))):=fun m=>by rw [←b8s_drop];exact hB1.cut m bc (by rw [b8s_len,Hbl.out];exact HBC.out)
     rcases hops with e | e | e | e | e | e | e | e | e | e | e | e | e | e | e
     ·subst e;simp at t1
     ·subst e;obtain rfl:own=1:=by rw [←Hown.out];rfl
      have hg:g0=true:=by rw [←Hg0.out];rfl
      subst hg;have hb1:(1:Int)≤(bl:Int):=by omega
      have hb2:(1:Int)≤(bc:Int):=by omega
      have hb3:(bl:Int)≤(bc:Int):=by omega
      have HC1:=h_ (HCUT.out 1);by_cases hbc1:bc=1
      ·have HC2:=HC1.out;rw [if_pos hbc1] at HC2;have HC3:=h_ HC2;have hbl1:bl=1:=by omega
       subst hbc1 hbl1;clear HC2 HC1 HCUT;go_wp2_with fail
       go_meet
       case rel=>exact ⟨BA,0,rfl,rfl,HC3.out,by omega,Upd.refl⟩
      ·have HC2:=HC1.out;rw [if_neg hbc1] at HC2;have HC3:=h_ HC2;clear HC2 HC1 HCUT;go_wp2_with fail
       go_meet
       case rel=>exact ⟨_,bc - 1,rfl,rfl,HC3.out,by omega,Upd.refl⟩
     ·subst e;obtain rfl:own=1:=by rw [←Hown.out];rfl
      have hg:g0=true:=by rw [←Hg0.out];rfl
      subst hg;have hb1:(1:Int)≤(bl:Int):=by omega
      have hb2:(1:Int)≤(bc:Int):=by omega
      have hb3:(bl:Int)≤(bc:Int):=by omega
      have HC1:=h_ (HCUT.out 1);by_cases hbc1:bc=1
      ·have HC2:=HC1.out;rw [if_pos hbc1] at HC2;have HC3:=h_ HC2;have hbl1:bl=1:=by omega
       subst hbc1 hbl1;clear HC2 HC1 HCUT;go_wp2_with fail
       go_meet
       case rel=>exact ⟨BA,0,rfl,rfl,HC3.out,by omega,Upd.refl⟩
      ·have HC2:=HC1.out;rw [if_neg hbc1] at HC2;have HC3:=h_ HC2;clear HC2 HC1 HCUT;go_wp2_with fail
       go_meet
       case rel=>exact ⟨_,bc - 1,rfl,rfl,HC3.out,by omega,Upd.refl⟩
     ·subst e;obtain rfl:own=0:=by rw [←Hown.out];rfl
      have hg:g0=true:=by rw [←Hg0.out];rfl
      subst hg;go_wp2_with fail
      go_meet
      case rel=>exact ⟨BA,bc,by rw [Nat.sub_zero],rfl,HBW.out,by have:=HBC.out;omega,Upd.refl⟩
     ·subst e;obtain rfl:own=0:=by rw [←Hown.out];rfl
      have hg:g0=true:=by rw [←Hg0.out];rfl
      subst hg;go_wp2_with fail
      go_meet
      case rel=>exact ⟨BA,bc,by rw [Nat.sub_zero],rfl,HBW.out,by have:=HBC.out;omega,Upd.refl⟩
     ·subst e;obtain rfl:own=0:=by rw [←Hown.out];rfl
      have hg:g0=true:=by rw [←Hg0.out];rfl
      subst hg;go_wp2_with fail
      go_meet
      case rel=>exact ⟨BA,bc,by rw [Nat.sub_zero],rfl,HBW.out,by have:=HBC.out;omega,Upd.refl⟩
     ·subst e;have h2:p.kids.length=2:=by rw [HWF.out.2.2.1 (by have:=HWF.out.1;have:=HV.out;omega),Hop.out];rfl
      obtain ⟨k0,k1,ek⟩:∃k0 k1,p.kids=[k0,k1]:=by
       match p.kids,h2 with
       | [x,y],_=>exact ⟨x,y,rfl⟩
      have hk1n:1<p.kids.length:=by omega
      have hk1:(1:Int)<(p.kids.length:Int):=by omega
      obtain ⟨kb,ko,KB,kd,eK,_,_,m2,_,_,_⟩:=kid_at HPW.out (i:=1) (q:=k1) hk1n (by simp [ek]);have ha:=and63 k1.imm;have how:(k1.imm % 64).toNat=own:=by rw [←Hown.out,ek];rfl
      rw [how] at ha;have hg:g0=true:=by rw [←Hg0.out];rfl
      subst hg eK;have c4:W.cell? ⟨pb,4,none⟩=some (.slice (some ⟨kb,ko,none⟩) p.kids.length kc):=HB.out.cell 4;have hb1:(own:Int)≤(bl:Int):=by omega
      have hb2:(own:Int)≤(bc:Int):=by omega
      have hb3:(bl:Int)≤(bc:Int):=by omega
      have hb0:(0:Int)≤(own:Int):=by omega
      have HC1:=h_ (HCUT.out own);clear how h2 ek hB1 Hg0 Hown;by_cases hbc1:bc=own
      ·have HC2:=HC1.out;rw [if_pos hbc1] at HC2;have HC3:=h_ HC2;have hbl1:bl=own:=by omega
       subst hbc1 hbl1;clear HC2 HC1 HCUT;go_wp2_with fail
       go_meet
       case rel=>exact ⟨BA,0,by rw [Nat.sub_self],rfl,HC3.out,by omega,Upd.refl⟩
      ·have HC2:=HC1.out;rw [if_neg hbc1] at HC2;have HC3:=h_ HC2;clear HC2 HC1 HCUT;go_wp2_with fail
       go_meet
       case rel=>exact ⟨_,bc - own,rfl,rfl,HC3.out,by omega,Upd.refl⟩
     ·subst e;obtain rfl:own=2:=by rw [←Hown.out];rfl
      obtain ⟨x0,x1,rest,hbe⟩:∃x0 x1 rest,b=x0::x1::rest:=by
       match b,Hbl.out,hob with
       | [],e,h=>rw [←e,List.length_nil] at h;omega
       | [a],e,h=>rw [←e,List.length_singleton] at h;omega
       | x0::x1::r,_,_=>exact ⟨x0,x1,r,rfl⟩
      rw [hbe] at Hg0 hB1;have hb1:(2:Int)≤(bl:Int):=by omega
      have hb2:(2:Int)≤(bc:Int):=by omega
      have hb3:(bl:Int)≤(bc:Int):=by omega
      have hb4:(0:Int)<(bl:Int):=by omega
      have hb5:(1:Int)<(bl:Int):=by omega
      have hb4n:0<bl:=by omega
      have hb5n:1<bl:=by omega
      have HC1:=h_ (HCUT.out 2);obtain ⟨ob,oo,rfl,_,_,y0⟩:=hB1.at_ (k:=0) (by simp [b8s]);obtain ⟨ob2,oo2,eB,_,_,y1⟩:=hB1.at_ (k:=1) (by simp [b8s]);injection eB with eB
      injection eB with eB1 eB2
      subst eB1 eB2;have y0:W.cell? ⟨ob,oo,none⟩=some (.int .u8 (bW x0)):=y0;have y1:W.cell? ⟨ob,oo+1,none⟩=some (.int .u8 (bW x1)):=y1;have hg:=Hg0.out.symm;have hx:(x0=false∧x1=false)∨(x0=false∧x1=true)∨(x0=true∧x1=false)∨(x0=true∧x1=true):=by cases x0 <;> cases x1 <;> simp
      clear hB1 Hg0 hbe;rcases hx with ⟨rfl,rfl⟩ | ⟨rfl,rfl⟩ | ⟨rfl,rfl⟩ | ⟨rfl,rfl⟩
      all_goals
       obtain rfl:=hg
       go_upto_region 19 with fail
       refine wp_region_held_drew (S:=fun w'=>w'.cell? ⟨ob,oo,none⟩=some (.int .u8 (bW _))∧w'.cell? ⟨ob,oo+1,none⟩=some (.int .u8 (bW _))) (by kernel_rfl) ⟨y0,y1⟩ (fun hHeld=>?_)
       refine wpT 0 ?_;(try simp only [y_,z_]);refine wpT 1 ?_;(try simp only [y_,z_]);refine wpT 2 ?_;(try simp only [y_,z_]);refine wpT 3 ?_;(try simp only [y_,z_]);refine wpT 4 ?_;(try simp only [y_,z_]);refine wpT 5 ?_;(try simp only [y_,z_]);refine wpT 6 ?_;(try simp only [y_,z_]);refine wpT 7 ?_;(try simp only [y_,z_]);refine aD_ (by kernel_rfl) ?_ _;clear hHeld;by_cases hbc1:bc=2
       ·have HC2:=HC1.out;rw [if_pos hbc1] at HC2;have HC3:=h_ HC2;have hbl1:bl=2:=by omega
        subst hbc1 hbl1;clear HC2 HC1 HCUT;go_wp2_with fail
        go_meet
        case rel=>exact ⟨_,0,rfl,rfl,HC3.out.upd (Upd.refl (S:=Non)).drew (fun _ _ _ f=>f),by omega,Upd.refl.drew⟩
       ·have HC2:=HC1.out;rw [if_neg hbc1] at HC2;have HC3:=h_ HC2;clear HC2 HC1 HCUT;go_wp2_with fail
        go_meet
        case rel=>exact ⟨_,bc - 2,rfl,rfl,HC3.out.upd (Upd.refl (S:=Non)).drew (fun _ _ _ f=>f),by omega,Upd.refl.drew⟩
     ·subst e;obtain rfl:own=2:=by rw [←Hown.out];rfl
      obtain ⟨x0,x1,rest,hbe⟩:∃x0 x1 rest,b=x0::x1::rest:=by
       match b,Hbl.out,hob with
       | [],e,h=>rw [←e,List.length_nil] at h;omega
       | [a],e,h=>rw [←e,List.length_singleton] at h;omega
       | x0::x1::r,_,_=>exact ⟨x0,x1,r,rfl⟩
      rw [hbe] at Hg0 hB1;have hb1:(2:Int)≤(bl:Int):=by omega
      have hb2:(2:Int)≤(bc:Int):=by omega
      have hb3:(bl:Int)≤(bc:Int):=by omega
      have hb4:(0:Int)<(bl:Int):=by omega
      have hb5:(1:Int)<(bl:Int):=by omega
      have hb4n:0<bl:=by omega
      have hb5n:1<bl:=by omega
      have HC1:=h_ (HCUT.out 2);obtain ⟨ob,oo,rfl,_,_,y0⟩:=hB1.at_ (k:=0) (by simp [b8s]);obtain ⟨ob2,oo2,eB,_,_,y1⟩:=hB1.at_ (k:=1) (by simp [b8s]);injection eB with eB
      injection eB with eB1 eB2
      subst eB1 eB2;have y0:W.cell? ⟨ob,oo,none⟩=some (.int .u8 (bW x0)):=y0;have y1:W.cell? ⟨ob,oo+1,none⟩=some (.int .u8 (bW x1)):=y1;have hg:=Hg0.out.symm;have hx:(x0=false∧x1=false)∨(x0=false∧x1=true)∨(x0=true∧x1=false)∨(x0=true∧x1=true):=by cases x0 <;> cases x1 <;> simp
      clear hB1 Hg0 hbe;rcases hx with ⟨rfl,rfl⟩ | ⟨rfl,rfl⟩ | ⟨rfl,rfl⟩ | ⟨rfl,rfl⟩
      all_goals
       obtain rfl:=hg
       go_upto_region 12 with fail
       refine wp_region_held_drew (S:=fun w'=>w'.cell? ⟨ob,oo,none⟩=some (.int .u8 (bW _))∧w'.cell? ⟨ob,oo+1,none⟩=some (.int .u8 (bW _))) (by kernel_rfl) ⟨y0,y1⟩ (fun hHeld=>?_)
       refine wpT 0 ?_;(try simp only [y_,z_]);refine wpT 1 ?_;(try simp only [y_,z_]);refine wpT 2 ?_;(try simp only [y_,z_]);refine wpT 3 ?_;(try simp only [y_,z_]);refine wpT 4 ?_;(try simp only [y_,z_]);refine wpT 5 ?_;(try simp only [y_,z_]);refine wpT 6 ?_;(try simp only [y_,z_]);refine wpT 7 ?_;(try simp only [y_,z_]);refine aD_ (by kernel_rfl) ?_ _;clear hHeld;by_cases hbc1:bc=2
       ·have HC2:=HC1.out;rw [if_pos hbc1] at HC2;have HC3:=h_ HC2;have hbl1:bl=2:=by omega
        subst hbc1 hbl1;clear HC2 HC1 HCUT;go_wp2_with fail
        go_meet
        case rel=>exact ⟨_,0,rfl,rfl,HC3.out.upd (Upd.refl (S:=Non)).drew (fun _ _ _ f=>f),by omega,Upd.refl.drew⟩
       ·have HC2:=HC1.out;rw [if_neg hbc1] at HC2;have HC3:=h_ HC2;clear HC2 HC1 HCUT;go_wp2_with fail
        go_meet
        case rel=>exact ⟨_,bc - 2,rfl,rfl,HC3.out.upd (Upd.refl (S:=Non)).drew (fun _ _ _ f=>f),by omega,Upd.refl.drew⟩
     ·subst e;obtain rfl:own=2:=by rw [←Hown.out];rfl
      obtain ⟨x0,x1,rest,hbe⟩:∃x0 x1 rest,b=x0::x1::rest:=by
       match b,Hbl.out,hob with
       | [],e,h=>rw [←e,List.length_nil] at h;omega
       | [a],e,h=>rw [←e,List.length_singleton] at h;omega
       | x0::x1::r,_,_=>exact ⟨x0,x1,r,rfl⟩
      rw [hbe] at Hg0 hB1;have hb1:(2:Int)≤(bl:Int):=by omega
      have hb2:(2:Int)≤(bc:Int):=by omega
      have hb3:(bl:Int)≤(bc:Int):=by omega
      have hb4:(0:Int)<(bl:Int):=by omega
      have hb5:(1:Int)<(bl:Int):=by omega
      have hb4n:0<bl:=by omega
      have hb5n:1<bl:=by omega
      have HC1:=h_ (HCUT.out 2);obtain ⟨ob,oo,rfl,_,_,y0⟩:=hB1.at_ (k:=0) (by simp [b8s]);obtain ⟨ob2,oo2,eB,_,_,y1⟩:=hB1.at_ (k:=1) (by simp [b8s]);injection eB with eB
      injection eB with eB1 eB2
      subst eB1 eB2;have y0:W.cell? ⟨ob,oo,none⟩=some (.int .u8 (bW x0)):=y0;have y1:W.cell? ⟨ob,oo+1,none⟩=some (.int .u8 (bW x1)):=y1;have hg:=Hg0.out.symm;have hx:(x0=false∧x1=false)∨(x0=false∧x1=true)∨(x0=true∧x1=false)∨(x0=true∧x1=true):=by cases x0 <;> cases x1 <;> simp
      clear hB1 Hg0 hbe;rcases hx with ⟨rfl,rfl⟩ | ⟨rfl,rfl⟩ | ⟨rfl,rfl⟩ | ⟨rfl,rfl⟩
      all_goals
       obtain rfl:=hg
       go_upto_region 19 with fail
       refine wp_region_held_drew (S:=fun w'=>w'.cell? ⟨ob,oo,none⟩=some (.int .u8 (bW _))∧w'.cell? ⟨ob,oo+1,none⟩=some (.int .u8 (bW _))) (by kernel_rfl) ⟨y0,y1⟩ (fun hHeld=>?_)
       refine wpT 0 ?_;(try simp only [y_,z_]);refine wpT 1 ?_;(try simp only [y_,z_]);refine wpT 2 ?_;(try simp only [y_,z_]);refine wpT 3 ?_;(try simp only [y_,z_]);refine wpT 4 ?_;(try simp only [y_,z_]);refine wpT 5 ?_;(try simp only [y_,z_]);refine wpT 6 ?_;(try simp only [y_,z_]);refine wpT 7 ?_;(try simp only [y_,z_]);refine aD_ (by kernel_rfl) ?_ _;clear hHeld;by_cases hbc1:bc=2
       ·have HC2:=HC1.out;rw [if_pos hbc1] at HC2;have HC3:=h_ HC2;have hbl1:bl=2:=by omega
        subst hbc1 hbl1;clear HC2 HC1 HCUT;go_wp2_with fail
        go_meet
        case rel=>exact ⟨_,0,rfl,rfl,HC3.out.upd (Upd.refl (S:=Non)).drew (fun _ _ _ f=>f),by omega,Upd.refl.drew⟩
       ·have HC2:=HC1.out;rw [if_neg hbc1] at HC2;have HC3:=h_ HC2;clear HC2 HC1 HCUT;go_wp2_with fail
        go_meet
        case rel=>exact ⟨_,bc - 2,rfl,rfl,HC3.out.upd (Upd.refl (S:=Non)).drew (fun _ _ _ f=>f),by omega,Upd.refl.drew⟩
     ·subst e;obtain rfl:own=2:=by rw [←Hown.out];rfl
      obtain ⟨x0,x1,rest,hbe⟩:∃x0 x1 rest,b=x0::x1::rest:=by
       match b,Hbl.out,hob with
       | [],e,h=>rw [←e,List.length_nil] at h;omega
       | [a],e,h=>rw [←e,List.length_singleton] at h;omega
       | x0::x1::r,_,_=>exact ⟨x0,x1,r,rfl⟩
      rw [hbe] at Hg0 hB1;have hb1:(2:Int)≤(bl:Int):=by omega
      have hb2:(2:Int)≤(bc:Int):=by omega
      have hb3:(bl:Int)≤(bc:Int):=by omega
      have hb4:(0:Int)<(bl:Int):=by omega
      have hb5:(1:Int)<(bl:Int):=by omega
      have hb4n:0<bl:=by omega
      have hb5n:1<bl:=by omega
      have HC1:=h_ (HCUT.out 2);obtain ⟨ob,oo,rfl,_,_,y0⟩:=hB1.at_ (k:=0) (by simp [b8s]);obtain ⟨ob2,oo2,eB,_,_,y1⟩:=hB1.at_ (k:=1) (by simp [b8s]);injection eB with eB
      injection eB with eB1 eB2
      subst eB1 eB2;have y0:W.cell? ⟨ob,oo,none⟩=some (.int .u8 (bW x0)):=y0;have y1:W.cell? ⟨ob,oo+1,none⟩=some (.int .u8 (bW x1)):=y1;have hg:=Hg0.out.symm;have hx:(x0=false∧x1=false)∨(x0=false∧x1=true)∨(x0=true∧x1=false)∨(x0=true∧x1=true):=by cases x0 <;> cases x1 <;> simp
      clear hB1 Hg0 hbe;rcases hx with ⟨rfl,rfl⟩ | ⟨rfl,rfl⟩ | ⟨rfl,rfl⟩ | ⟨rfl,rfl⟩
      all_goals
       obtain rfl:=hg
       go_upto_region 19 with fail
       refine wp_region_held_drew (S:=fun w'=>w'.cell? ⟨ob,oo,none⟩=some (.int .u8 (bW _))∧w'.cell? ⟨ob,oo+1,none⟩=some (.int .u8 (bW _))) (by kernel_rfl) ⟨y0,y1⟩ (fun hHeld=>?_)
       refine wpT 0 ?_;(try simp only [y_,z_]);refine wpT 1 ?_;(try simp only [y_,z_]);refine wpT 2 ?_;(try simp only [y_,z_]);refine wpT 3 ?_;(try simp only [y_,z_]);refine wpT 4 ?_;(try simp only [y_,z_]);refine wpT 5 ?_;(try simp only [y_,z_]);refine wpT 6 ?_;(try simp only [y_,z_]);refine wpT 7 ?_;(try simp only [y_,z_]);refine aD_ (by kernel_rfl) ?_ _;clear hHeld;by_cases hbc1:bc=2
       ·have HC2:=HC1.out;rw [if_pos hbc1] at HC2;have HC3:=h_ HC2;have hbl1:bl=2:=by omega
        subst hbc1 hbl1;clear HC2 HC1 HCUT;go_wp2_with fail
        go_meet
        case rel=>exact ⟨_,0,rfl,rfl,HC3.out.upd (Upd.refl (S:=Non)).drew (fun _ _ _ f=>f),by omega,Upd.refl.drew⟩
       ·have HC2:=HC1.out;rw [if_neg hbc1] at HC2;have HC3:=h_ HC2;clear HC2 HC1 HCUT;go_wp2_with fail
        go_meet
        case rel=>exact ⟨_,bc - 2,rfl,rfl,HC3.out.upd (Upd.refl (S:=Non)).drew (fun _ _ _ f=>f),by omega,Upd.refl.drew⟩
     ·subst e;obtain rfl:own=2:=by rw [←Hown.out];rfl
      obtain ⟨x0,x1,rest,hbe⟩:∃x0 x1 rest,b=x0::x1::rest:=by
       match b,Hbl.out,hob with
       | [],e,h=>rw [←e,List.length_nil] at h;omega
       | [a],e,h=>rw [←e,List.length_singleton] at h;omega
       | x0::x1::r,_,_=>exact ⟨x0,x1,r,rfl⟩
      rw [hbe] at Hg0 hB1;have hb1:(2:Int)≤(bl:Int):=by omega
      have hb2:(2:Int)≤(bc:Int):=by omega
      have hb3:(bl:Int)≤(bc:Int):=by omega
      have hb4:(0:Int)<(bl:Int):=by omega
      have hb5:(1:Int)<(bl:Int):=by omega
      have hb4n:0<bl:=by omega
      have hb5n:1<bl:=by omega
      have HC1:=h_ (HCUT.out 2);obtain ⟨ob,oo,rfl,_,_,y0⟩:=hB1.at_ (k:=0) (by simp [b8s]);obtain ⟨ob2,oo2,eB,_,_,y1⟩:=hB1.at_ (k:=1) (by simp [b8s]);injection eB with eB
      injection eB with eB1 eB2
      subst eB1 eB2;have y0:W.cell? ⟨ob,oo,none⟩=some (.int .u8 (bW x0)):=y0;have y1:W.cell? ⟨ob,oo+1,none⟩=some (.int .u8 (bW x1)):=y1;have hg:=Hg0.out.symm;have hx:(x0=false∧x1=false)∨(x0=false∧x1=true)∨(x0=true∧x1=false)∨(x0=true∧x1=true):=by cases x0 <;> cases x1 <;> simp
      clear hB1 Hg0 hbe;rcases hx with ⟨rfl,rfl⟩ | ⟨rfl,rfl⟩ | ⟨rfl,rfl⟩ | ⟨rfl,rfl⟩
      all_goals
       obtain rfl:=hg
       go_upto_region 19 with fail
       refine wp_region_held_drew (S:=fun w'=>w'.cell? ⟨ob,oo,none⟩=some (.int .u8 (bW _))∧w'.cell? ⟨ob,oo+1,none⟩=some (.int .u8 (bW _))) (by kernel_rfl) ⟨y0,y1⟩ (fun hHeld=>?_)
       refine wpT 0 ?_;(try simp only [y_,z_]);refine wpT 1 ?_;(try simp only [y_,z_]);refine wpT 2 ?_;(try simp only [y_,z_]);refine wpT 3 ?_;(try simp only [y_,z_]);refine wpT 4 ?_;(try simp only [y_,z_]);refine wpT 5 ?_;(try simp only [y_,z_]);refine wpT 6 ?_;(try simp only [y_,z_]);refine wpT 7 ?_;(try simp only [y_,z_]);refine aD_ (by kernel_rfl) ?_ _;clear hHeld;by_cases hbc1:bc=2
       ·have HC2:=HC1.out;rw [if_pos hbc1] at HC2;have HC3:=h_ HC2;have hbl1:bl=2:=by omega
        subst hbc1 hbl1;clear HC2 HC1 HCUT;go_wp2_with fail
        go_meet
        case rel=>exact ⟨_,0,rfl,rfl,HC3.out.upd (Upd.refl (S:=Non)).drew (fun _ _ _ f=>f),by omega,Upd.refl.drew⟩
       ·have HC2:=HC1.out;rw [if_neg hbc1] at HC2;have HC3:=h_ HC2;clear HC2 HC1 HCUT;go_wp2_with fail
        go_meet
        case rel=>exact ⟨_,bc - 2,rfl,rfl,HC3.out.upd (Upd.refl (S:=Non)).drew (fun _ _ _ f=>f),by omega,Upd.refl.drew⟩
     ·subst e;obtain rfl:own=1:=by rw [←Hown.out];rfl
      have hg:g0=true:=by rw [←Hg0.out];rfl
      subst hg;have hb1:(1:Int)≤(bl:Int):=by omega
      have hb2:(1:Int)≤(bc:Int):=by omega
      have hb3:(bl:Int)≤(bc:Int):=by omega
      have HC1:=h_ (HCUT.out 1);by_cases hbc1:bc=1
      ·have HC2:=HC1.out;rw [if_pos hbc1] at HC2;have HC3:=h_ HC2;have hbl1:bl=1:=by omega
       subst hbc1 hbl1;clear HC2 HC1 HCUT;go_wp2_with fail
       go_meet
       case rel=>exact ⟨BA,0,rfl,rfl,HC3.out,by omega,Upd.refl⟩
      ·have HC2:=HC1.out;rw [if_neg hbc1] at HC2;have HC3:=h_ HC2;clear HC2 HC1 HCUT;go_wp2_with fail
       go_meet
       case rel=>exact ⟨_,bc - 1,rfl,rfl,HC3.out,by omega,Upd.refl⟩
     ·subst e;obtain rfl:own=0:=by rw [←Hown.out];rfl
      have hg:g0=true:=by rw [←Hg0.out];rfl
      subst hg;go_wp2_with fail
      go_meet
      case rel=>exact ⟨BA,bc,by rw [Nat.sub_zero],rfl,HBW.out,by have:=HBC.out;omega,Upd.refl⟩
     ·subst e;obtain rfl:own=2:=by rw [←Hown.out];rfl
      obtain ⟨x0,x1,rest,hbe⟩:∃x0 x1 rest,b=x0::x1::rest:=by
       match b,Hbl.out,hob with
       | [],e,h=>rw [←e,List.length_nil] at h;omega
       | [a],e,h=>rw [←e,List.length_singleton] at h;omega
       | x0::x1::r,_,_=>exact ⟨x0,x1,r,rfl⟩
      rw [hbe] at Hg0 hB1;have hb1:(2:Int)≤(bl:Int):=by omega
      have hb2:(2:Int)≤(bc:Int):=by omega
      have hb3:(bl:Int)≤(bc:Int):=by omega
      have hb4:(0:Int)<(bl:Int):=by omega
      have hb5:(1:Int)<(bl:Int):=by omega
      have hb4n:0<bl:=by omega
      have hb5n:1<bl:=by omega
      have HC1:=h_ (HCUT.out 2);obtain ⟨ob,oo,rfl,_,_,y0⟩:=hB1.at_ (k:=0) (by simp [b8s]);obtain ⟨ob2,oo2,eB,_,_,y1⟩:=hB1.at_ (k:=1) (by simp [b8s]);injection eB with eB
      injection eB with eB1 eB2
      subst eB1 eB2;have y0:W.cell? ⟨ob,oo,none⟩=some (.int .u8 (bW x0)):=y0;have y1:W.cell? ⟨ob,oo+1,none⟩=some (.int .u8 (bW x1)):=y1;have hg:=Hg0.out.symm;have hx:(x0=false∧x1=false)∨(x0=false∧x1=true)∨(x0=true∧x1=false)∨(x0=true∧x1=true):=by cases x0 <;> cases x1 <;> simp
      clear hB1 Hg0 hbe;rcases hx with ⟨rfl,rfl⟩ | ⟨rfl,rfl⟩ | ⟨rfl,rfl⟩ | ⟨rfl,rfl⟩
      all_goals
       obtain rfl:=hg
       go_upto_region 19 with fail
       refine wp_region_held_drew (S:=fun w'=>w'.cell? ⟨ob,oo,none⟩=some (.int .u8 (bW _))∧w'.cell? ⟨ob,oo+1,none⟩=some (.int .u8 (bW _))) (by kernel_rfl) ⟨y0,y1⟩ (fun hHeld=>?_)
       refine wpT 0 ?_;(try simp only [y_,z_]);refine wpT 1 ?_;(try simp only [y_,z_]);refine wpT 2 ?_;(try simp only [y_,z_]);refine wpT 3 ?_;(try simp only [y_,z_]);refine wpT 4 ?_;(try simp only [y_,z_]);refine wpT 5 ?_;(try simp only [y_,z_]);refine wpT 6 ?_;(try simp only [y_,z_]);refine wpT 7 ?_;(try simp only [y_,z_]);refine aD_ (by kernel_rfl) ?_ _;clear hHeld;by_cases hbc1:bc=2
       ·have HC2:=HC1.out;rw [if_pos hbc1] at HC2;have HC3:=h_ HC2;have hbl1:bl=2:=by omega
        subst hbc1 hbl1;clear HC2 HC1 HCUT;go_wp2_with fail
        go_meet
        case rel=>exact ⟨_,0,rfl,rfl,HC3.out.upd (Upd.refl (S:=Non)).drew (fun _ _ _ f=>f),by omega,Upd.refl.drew⟩
       ·have HC2:=HC1.out;rw [if_neg hbc1] at HC2;have HC3:=h_ HC2;clear HC2 HC1 HCUT;go_wp2_with fail
        go_meet
        case rel=>exact ⟨_,bc - 2,rfl,rfl,HC3.out.upd (Upd.refl (S:=Non)).drew (fun _ _ _ f=>f),by omega,Upd.refl.drew⟩
    case rest =>
     obtain ⟨w1,rfl⟩:∃w1:World,w1=wc:=⟨_,rfl⟩;obtain ⟨BA1,bc1,rfl,rfl,HS1,hbc1,HU1⟩:=hcut;obtain ⟨k,Hk⟩:=nm p.kids.length
     have hk3:k≤3:=by
      rw [←Hk.out,HWF.out.2.2.1 (by have:=HWF.out.1;have:=HV.out;omega),Hop.out];rcases hops with e | e | e | e | e | e | e | e | e | e | e | e | e | e | e <;> rw [e] <;> decide
     have HBC1:Hid (bl - own≤bc1):=hbc1;clear c0 c1 t1 tv hbc1 hops;go_wp2_with fail
     go_loopg [1,6,7] k (fun gg s1 s6 s7 wr=>∃(j:Nat) (BA2:Option Addr) (bc2 n2:Nat) (ok2:Bool),Hid (gg=k - j)∧j≤k∧s1=.slice BA2 n2 bc2∧s6=.bool ok2∧s7=.int .i64 j∧Hid (n2=bl - (own+bL (selK op p.kids j)))∧n2≤bl∧Hid (ok2=(g0&&(gRL (selK op p.kids j) (b.drop own)).1))∧Hid (Sl wr F BA2 (b8s (b.drop (own+bL (selK op p.kids j)))))∧n2≤bc2∧Hid (Upd Non W wr))
     case atStart=>exact ⟨0,BA1,bc1,bl - own,g0,rfl,by omega,rfl,rfl,rfl,by show _=_;simp [selK,bL],by omega,by show _=_;simp [selK,gRL],by show Sl _ _ _ _;have:=HS1.out;simpa [selK,bL] using this,HBC1.out,HU1.out⟩
     case round =>
      obtain ⟨j,BA2,bc2,n2,ok2,Hgg,hj,rfl,rfl,rfl,HN2,hn2,HOK,HSB,hbc2,HUr⟩:=hrel;have hbr:=HB.out.upd HUr.out (fun f=>f);have y1:wr.cell? ⟨pb,1,none⟩=some (.int .i64 op):=by rw [←Hop.out];exact hbr.cell 1
      have y4:wr.cell? ⟨pb,4,none⟩=some (.slice KA k kc):=by rw [←Hk.out];exact hbr.cell 4
      clear hbr;by_cases hlt:j<k
      ·have hjk:j<p.kids.length:=by rw [Hk.out];exact hlt
       have hjk2:(j:Int)<(k:Int):=by omega
       by_cases hsk:op=12∧j≠0
       ·obtain ⟨rfl,hj0⟩:=hsk;have tj:((j:Int)==0)=false:=by simp;omega
        have HSS:=h_ (selK_skip (kids:=p.kids) (op:=12) rfl hj0);clear hj0;go_wp2_with fail
        go_roundg (k - (j+1))
        case measure=>rw [Hgg.out];omega
        case rel=>exact ⟨j+1,BA2,bc2,n2,ok2,rfl,by omega,rfl,rfl,by go_num,by show _=_;rw [HSS.out];exact HN2.out,hn2,by show _=_;rw [HSS.out];exact HOK.out,by show Sl _ _ _ _;rw [HSS.out];exact HSB.out,hbc2,HUr.out⟩
       ·have hsk2:op≠12∨j=0:=by
         by_cases q:op=12
         ·exact .inr (by by_cases q2:j=0;exact q2;exact absurd ⟨q,q2⟩ hsk)
         ·exact .inl q
        have HSS:=h_ (selK_succ hjk hsk2);obtain ⟨kb,ko,KB,kd,eK,m0,m1,m2,m3,m4,hq⟩:=kid_at (PtK.upd HUr.out (fun _ _ _ f=>f) _ _ _ HPW.out) hjk rfl;have hmem:=List.getElem_mem hjk;have hbls:bL (selK op p.kids (j+1))≤bL p.kids:=by unfold selK;split <;> exact bL_take_le _ _
        rw [HSS.out,bL_app] at hbls;have hblq:bL [p.kids[j]]=bN p.kids[j]:=by simp [bL]
        rw [hblq] at hbls;have hbne:=HBNE.out;have hbnn:=HBN.out;have hn2e:=HN2.out;have hdl:(b.drop (own+bL (selK op p.kids j))).length=n2:=by rw [List.length_drop,Hbl.out,hn2e]
        have hv':¬0<p.v:=by have:=HV.out;omega
        have hsq:supF p.kids[j]=true:=by
         have:=HSF.out;rw [supF_op hv',Bool.and_eq_true] at this;exact List.all_eq_true.1 this.2 _ hmem
        have C1:=h_ (HI.out _ hmem wr F KB kd BA2 bc2 (b.drop (own+bL (selK op p.kids j))) hq hsq (HWF.out.2.2.2 _ hmem) HSB.out (by rw [hdl];exact hbc2) (by rw [hdl];omega) (by rw [hdl];omega))
        rw [hdl] at C1;have hgre:(gRL (selK op p.kids j) (b.drop own)).2=b.drop (own+bL (selK op p.kids j)):=by rw [gRL_rest,List.drop_drop]
        have HOK2:Hid ((ok2&&(gRP p.kids[j] (b.drop (own+bL (selK op p.kids j)))).1)=(g0&&(gRL (selK op p.kids (j+1)) (b.drop own)).1)):=by
         show _=_;rw [HSS.out,gRL_app,hgre,gRL_one,HOK.out,Bool.and_assoc]
        have HB2:Hid (bL (selK op p.kids (j+1))=bL (selK op p.kids j)+bN p.kids[j]):=by show _=_;rw [HSS.out,bL_app,hblq]
        have HDL:=h_ hdl;obtain ⟨q,Hq⟩:=nm p.kids[j];rw [Hq.out] at C1 HOK2 HB2 m0 m1 m2 m3 m4 hbls;obtain ⟨gq,Hgq⟩:=nm (gRP q (b.drop (own+bL (selK op p.kids j)))).1;rw [Hgq.out] at C1 HOK2;have hj0:(0:Int)≤(j:Int):=by omega
        subst eK;unfold pv at C1;clear hq hmem hblq hsq hdl hgre hsk hbne hbnn hn2e hbls;by_cases h12:op=12
        ·have hj00:j=0:=by rcases hsk2 with q | q;exact absurd h12 q;exact q
         have tj:((j:Int)==0)=true:=by rw [hj00];rfl
         have t12:(op==12)=true:=by rw [h12];rfl
         have t12':(op != 12)=false:=by rw [h12];rfl
         clear hj00 hsk2 h12;go_wp2_with fail
         refine C1.out.mono ?_;rintro e w4 hR;obtain ⟨BA4,bc4,rfl,hs4,hc4,u4⟩:=hR;rw [HDL.out] at hc4 ⊢;rw [List.drop_drop] at hs4;have HS4:Hid (Sl w4 F BA4 (b8s (b.drop (own+bL (selK op p.kids (j+1)))))):=by show Sl _ _ _ _;rw [HB2.out,←Nat.add_assoc];exact hs4
         have HU4:=h_ (HUr.out.then_non u4);have HN4:Hid (n2 - bN q=bl - (own+bL (selK op p.kids (j+1)))):=by show _=_;rw [HB2.out,HN2.out];omega
         obtain ⟨n4,Hn4⟩:=nm (n2 - bN q);rw [Hn4.out] at hc4 HN4 ⊢;have hn4:n4≤bl:=by rw [←Hn4.out];omega
         obtain ⟨okn,hokn⟩:∃z,(ok2&&gq)=z:=⟨_,rfl⟩;rw [hokn] at HOK2;have HOKN:=h_ hokn;clear hs4 u4 C1 hokn;cases ok2 <;> cases gq
         all_goals
          obtain rfl:=HOKN.out;go_wp2_with fail
          go_roundg (k - (j+1))
          case measure=>rw [Hgg.out];omega
          case rel=>exact ⟨j+1,BA4,bc4,n4,_,rfl,by omega,rfl,rfl,by go_num,HN4.out,hn4,HOK2.out,HS4.out,hc4,HU4.out⟩
        ·have t12:(op==12)=false:=beq_eq_false_iff_ne.2 h12;have t12':(op != 12)=true:=by simp;omega
         clear hsk2;go_wp2_with fail
         refine C1.out.mono ?_;rintro e w4 hR;obtain ⟨BA4,bc4,rfl,hs4,hc4,u4⟩:=hR;rw [HDL.out] at hc4 ⊢;rw [List.drop_drop] at hs4;have HS4:Hid (Sl w4 F BA4 (b8s (b.drop (own+bL (selK op p.kids (j+1)))))):=by show Sl _ _ _ _;rw [HB2.out,←Nat.add_assoc];exact hs4
         have HU4:=h_ (HUr.out.then_non u4);have HN4:Hid (n2 - bN q=bl - (own+bL (selK op p.kids (j+1)))):=by show _=_;rw [HB2.out,HN2.out];omega
         obtain ⟨n4,Hn4⟩:=nm (n2 - bN q);rw [Hn4.out] at hc4 HN4 ⊢;have hn4:n4≤bl:=by rw [←Hn4.out];omega
         obtain ⟨okn,hokn⟩:∃z,(ok2&&gq)=z:=⟨_,rfl⟩;rw [hokn] at HOK2;have HOKN:=h_ hokn;clear hs4 u4 C1 hokn;cases ok2 <;> cases gq
         all_goals
          obtain rfl:=HOKN.out;go_wp2_with fail
          go_roundg (k - (j+1))
          case measure=>rw [Hgg.out];omega
          case rel=>exact ⟨j+1,BA4,bc4,n4,_,rfl,by omega,rfl,rfl,by go_num,HN4.out,hn4,HOK2.out,HS4.out,hc4,HU4.out⟩
      ·obtain rfl:k=j:=by omega
       have hsl:=HSEL.out (b.drop own);rw [Hop.out,Hk.out] at hsl
       have hbs:bL (selK op p.kids k)=bL p.kids:=by
        have hv':¬0<p.v:=by have:=HV.out;omega
        have h:=(selK_all HW1.out hv' (by have:=HSF.out;rw [supF_op hv',Bool.and_eq_true] at this;exact this.1)).1;rw [Hop.out,Hk.out] at h;rw [←iL_len,h,iL_len]
       have HFIN:Hid (GrP w F b (bN p) (gRP p b).1 (.returned (.tuple #[.slice BA2 n2 bc2,.bool ok2])) wr):=by
        have h1:=HSB.out;have h2:=HN2.out;rw [hbs] at h1 h2;refine ⟨BA2,bc2,?_,?_,?_,HUW.out.then_non HUr.out⟩
        ·rw [HBNE.out,Hbl.out,←h2,HGR.out,←hsl,←HOK.out]
        ·rw [HBNE.out];exact h1
        ·rw [HBNE.out,Hbl.out,←h2];exact hbc2
       clear hsl hbs;go_wp2_with fail
       refine bodyPost_ret (results_tmp2 rfl _ _ _) rfl ?_;exact HFIN.out
theorem safe_bits {r:Rl} {b:List Bool}:safeF r b=!((gRP r.l b).1&&(gRP r.r (b.drop (bN r.l))).1&&((b.drop (bN r.l+bN r.r)).take r.conds.length).all id&&(b.drop (bN r.l+bN r.r)).getD r.conds.length false):=by
 unfold safeF;rw [gRP_rest,gRP_rest,List.drop_drop]
set_option maxRecDepth 100000 in
set_option maxHeartbeats 16000000 in
theorem rSafe_c (r:Rl) (a:RlA) (hl:supF r.l=true) (hr:supF r.r=true) (wl:WfP 64 r.l) (wr_:WfP 64 r.r) (hc6:r.conds.length≤6) (hst:stN r≤4000) {F:Nat→Prop} {w:World} {BA:Option Addr} {bc:Nat} {b:List Bool} (hb:b.length=stN r) (hkr:RlK w F r a) (hB:Sl w F BA (b8s b)) (hbc:b.length≤bc) :
  Calls Tryz.prog 68 #[rlv r a,.slice BA b.length bc] w fun e w'=>e=.returned (.bool (safeF r b))∧Upd Non w w':=by
 obtain ⟨W,HW⟩:=nm (w.alloc (.cells (rlCells r a) 41));have hU:Upd Non w W:=by rw [←HW.out];exact Upd.refl.alloc _
 obtain ⟨rb,hrb⟩:∃z,w.heap.size=z:=⟨_,rfl⟩;have hbk:Blk W rb 41 (rlCells r a):=by rw [←HW.out,←hrb];exact Blk.new _ _ _
 have e0:=HW.out;have HKR:=h_ (hkr.upd hU (fun _ _ _ f=>f));have HRB:=h_ (fun (w':World) (u:Upd Non W w')=>rl_cells (hbk.upd u (fun f=>f)));have HU:=h_ hU;have hst2:bN r.l+bN r.r+r.conds.length+1=stN r:=rfl;have C1:=h_ (rGuess_c r.l W _ a.la a.lc BA bc b HKR.out.l hl wl (hB.upd hU (fun _ _ _ f=>f)) hbc (by omega) (by omega));have HSB:=h_ (safe_bits (r:=r) (b:=b));obtain ⟨ok1,Hok1⟩:=nm (gRP r.l b).1;rw [Hok1.out] at C1 HSB;have HK2:=h_ (fun (w1:World) (u:Upd Non W w1) (BA1:Option Addr) (bc1:Nat) (hs:Sl w1 F BA1 (b8s (b.drop (bN r.l)))) (hle:b.length - bN r.l≤bc1)=>rGuess_c r.r w1 _ a.ra a.rc BA1 bc1 (b.drop (bN r.l)) (HKR.out.upd u (fun _ _ _ f=>f)).r hr wr_ hs (by rw [List.length_drop];exact hle) (by rw [List.length_drop];omega) (by rw [List.length_drop];omega))
 obtain ⟨ok2,Hok2⟩:=nm (gRP r.r (b.drop (bN r.l))).1;rw [Hok2.out] at HK2 HSB;obtain ⟨bl,Hbl⟩:=nm b.length;obtain ⟨n1,Hn1⟩:=nm (bN r.l);obtain ⟨n2,Hn2⟩:=nm (bN r.r);obtain ⟨nc,Hnc⟩:=nm r.conds.length;have HBE:Hid (n1+n2+nc+1=bl):=by show _=_;rw [←Hbl.out,hb,←hst2,Hn1.out,Hn2.out,Hnc.out]
 obtain ⟨D,HD⟩:=nm (b.drop (n1+n2));have HDL:Hid (D.length=nc+1):=by show _=_;rw [←HD.out,List.length_drop,Hbl.out];have:=HBE.out;omega
 rw [Hn1.out,Hn2.out,HD.out] at HSB;obtain ⟨c0,c1,c2,c3,c4,c5,c6,c7,c8,c9,c10,c11,c12,c13⟩:=HRB.out W Upd.refl;rw [Hbl.out] at hbc ⊢;unfold pv at C1 HK2;rw [Hbl.out,Hn1.out] at HK2;unfold GrP at C1 HK2;rw [Hbl.out,Hn1.out] at C1;simp only [List.length_drop,Hbl.out,Hn2.out] at HK2;have hst4:bl≤4000:=by rw [←Hbl.out,hb];exact hst
 have HNC:Hid (nc≤6):=by show nc≤6;rw [←Hnc.out];exact hc6
 clear hkr hU hbk hB hst hst2 hb hc6 hl hr wl wr_;unfold rlv;unfold rlCells at e0 ⊢;go_enter Tryz.func68,Tryz.ntmps68;go_wp2_with fail
 refine C1.out.mono ?_;rintro e w2 hR;obtain ⟨BA2,bc2,rfl,hs2,hc2,u2⟩:=hR;have C2:=h_ (HK2.out w2 u2 BA2 bc2 hs2 hc2);have HU2:=h_ u2;obtain ⟨d0,d1,d2,d3,d4,d5,d6,d7,d8,d9,d10,d11,d12,d13⟩:=HRB.out w2 u2;clear c0 c1 c2 c3 c4 c5 c6 c7 c8 c9 c10 c11 c12 c13 hs2 hc2 u2 e0 C1;obtain ⟨m1,Hm1⟩:=nm (bl - n1);rw [Hm1.out] at C2 ⊢;go_wp2_with fail
 refine C2.out.mono ?_;rintro e w3 hR;obtain ⟨BA3,bc3,rfl,hs3,hc3,u3⟩:=hR;rw [List.drop_drop,HD.out] at hs3;have HS3:=h_ hs3;have HU3:=h_ (HU2.out.then_non u3);have HM3:Hid (m1 - n2=nc+1):=by show _=_;rw [←Hm1.out];have:=HBE.out;omega
 rw [HM3.out] at hc3 ⊢;clear d0 d1 d2 d3 d4 d5 d6 d7 d8 d9 d10 d11 d12 d13 hs3 u3 C2;have hnc6:=HNC.out;go_wp2_with fail
 go_loopg [8] nc (fun gg s8 wr=>∃i:Nat,Hid (gg=nc - i)∧i≤nc∧s8=.int .i64 i∧Hid ((D.take i).all id=true)∧Hid (Upd Non w3 wr))
 case atStart=>exact ⟨0,rfl,by omega,rfl,by show _=_;simp,Upd.refl⟩
 case round =>
  obtain ⟨i,Hg,hi,rfl,HAl,HUr⟩:=hrel;obtain ⟨wr,rfl⟩:∃z:World,z=wr:=⟨_,rfl⟩;have HU4:=h_ (HU3.out.then_non HUr.out);obtain ⟨_,_,_,_,_,_,_,_,_,_,_,y11,_,_⟩:=HRB.out wr HU4.out;rw [Hnc.out] at y11;have hsr:=HS3.out.upd HUr.out (fun _ _ _ f=>f);have hil:i<D.length:=by have:=HDL.out;omega
  obtain ⟨ob,oo,rfl,_,_,h0⟩:=hsr.at_ (k:=i) (by rw [b8s_len];exact hil);have y0:wr.cell? ⟨ob,oo+i,none⟩=some (.int .u8 (bW D[i])):=by rw [h0];simp [b8s,b8]
  clear h0;have HTK:Hid ((D.take (i+1)).all id=D[i]):=by show _=_;rw [List.take_succ_eq_append_getElem hil,List.all_append,HAl.out];simp
  have HDI:Hid (D.getD i false=D[i]):=by show _=_;exact getD_of hil
  obtain ⟨di,Hdi⟩:=nm D[i];rw [Hdi.out] at y0 HTK HDI;clear hsr;by_cases hlt:i<nc
  ·have t1:(i:Int)<(nc:Int):=by omega
   have t2:(i:Int)<(nc:Int)+1:=by omega
   have t3:(0:Int)≤(i:Int):=by omega
   cases di with
   | false =>
    have HFIN:Hid (safeF r b=true):=by
     show _=_
     have : (D.take nc).all id=false:=by
      rw [Bool.eq_false_iff];intro h;have h2:=List.all_eq_true.1 h D[i] (List.mem_take_iff_getElem.2 ⟨i,by omega,rfl⟩);rw [Hdi.out] at h2;cases h2
     rw [HSB.out,Hnc.out,this];simp
    go_wp2_with fail
    go_ret;exact ⟨by rw [HFIN.out];rfl,HU.out.then_non HU4.out⟩
   | true =>
    go_wp2_with fail
    go_roundg (nc - (i+1))
    case measure=>rw [Hg.out];omega
    case rel=>exact ⟨i+1,rfl,by omega,by go_num,HTK.out,HUr.out⟩
  ·obtain rfl:nc=i:=by omega
   have HFIN:Hid (safeF r b=(!ok1 || !ok2 || !di)):=by
    show _=_;rw [HSB.out,Hnc.out,HAl.out,HDI.out];cases ok1 <;> cases ok2 <;> cases di <;> rfl
   obtain ⟨sf,Hsf⟩:=nm (safeF r b);rw [Hsf.out] at HFIN;have t2:(nc:Int)<(nc:Int)+1:=by omega
   have t3:(0:Int)≤(nc:Int):=by omega
   cases ok1 <;> cases ok2 <;> cases di
   all_goals
    obtain rfl:=HFIN.out;go_wp2_with fail
    go_ret;exact ⟨by rw [Hsf.out];rfl,HU.out.then_non HU4.out⟩
theorem bI_nat {h j:Nat} (hh:h<18446744073709551616):bI (h:Int) j=h.testBit j:=by
 have : uW (h:Int)=h:=by have:=uW_eq (h:Int);omega
 rw [bI_eq,this]
def bitsN (h n:Nat):List Bool:=(List.range n).map h.testBit
theorem bitsN_len (h n:Nat):(bitsN h n).length=n:=by simp [bitsN]
theorem bitsN_succ (h n:Nat):bitsN h (n+1)=bitsN h n++[h.testBit n]:=by simp [bitsN,List.range_succ]
theorem insF_bits {h n i:Nat} (hi:i<n):insF (bitsN h n) i=h.testBit i:=by
 unfold insF;rw [getD_of (by rw [bitsN_len];exact hi)];simp [bitsN]
theorem succs_take (r:Rl) (k:Nat) (b:List Bool) {h:Nat} (hh:h<2 ^ r.vars.toNat) (hr:ROk r.vars.toNat r):(succsF r k b).take (h+1)=(succsF r k b).take h++[succF k (insF (bitsN h r.vars.toNat)) r b]:=by
 have hl:h<(succsF r k b).length:=by unfold succsF;rw [List.length_map,List.length_range];exact hh
 rw [List.take_succ_eq_append_getElem hl]
 congr 2
 simp only [succsF,List.getElem_map,List.getElem_range];exact succF_congr hr (fun i hi=>(insF_bits hi).symm) b
set_option maxRecDepth 100000 in
set_option maxHeartbeats 16000000 in
theorem rSuccessors_c (r:Rl) (a:RlA) (k:Nat) (hk:k<64) (old:List Bool) (hro:ROk r.vars.toNat r) (hv0:0≤r.vars) (hv6:r.vars.toNat≤6) (hc6:r.conds.length≤6) (hst:stN r≤4000) (hol:old.length=stN r) {F:Nat→Prop} {w:World} {OA:Option Addr} {oc:Nat} (hkr:RlK w F r a) (hO:Sl w F OA (b8s old)) (hoc:old.length≤oc) :
  Calls Tryz.prog 69 #[rlv r a,.int .i64 k,.slice OA old.length oc] w fun e w'=>∃NA n nc,e=.returned (.slice NA n nc)∧ElO ElRow 1 84 w' (U8B w') NA n nc ((succsF r k old).map bbs)∧(∀i,At NA i→w.heap.size≤i)∧Upd Non w w':=by
 obtain ⟨W,HW⟩:=nm (w.alloc (.cells (rlCells r a) 41));have hU:Upd Non w W:=by rw [←HW.out];exact Upd.refl.alloc _
 obtain ⟨rb,hrb⟩:∃b,w.heap.size=b:=⟨_,rfl⟩;have hb:Blk W rb 41 (rlCells r a):=by rw [←HW.out,←hrb];exact Blk.new _ _ _
 have e0:=HW.out;have hKr:=(hkr.mono (G:=fun i=>i<w.heap.size) (fun i hi _=>hi)).upd hU (fun _ _ _ f=>f);have hO2:=(hO.mono (G:=fun i=>i<w.heap.size) (fun i hi _=>hi)).upd hU (fun _ _ _ f=>f);have HRB:=h_ (fun (w':World) (u:Upd Non W w')=>rl_cells (hb.upd u (fun f=>f)));have HU:=h_ hU;obtain ⟨vn,hvn⟩:∃n:Nat,r.vars=(n:Int):=⟨r.vars.toNat,by omega⟩;have HVN:Hid (r.vars.toNat=vn):=by show _=_;omega
 obtain ⟨H,HH⟩:=nm (2 ^ vn);have hv6':vn≤6:=by rw [←HVN.out];exact hv6
 have hH:H≤64:=by rw [←HH.out];exact Nat.le_trans (Nat.pow_le_pow_right (by decide) hv6') (by decide)
 have hsh:wrap64 ((2:Int) ^ vn)=(H:Int):=by
  have e:((2:Int) ^ vn)=((2 ^ vn:Nat):Int):=by push_cast;rfl
  rw [e,HH.out];exact wrap64_of (by unfold I64;omega)
 have HC12:Hid (∀w',Upd Non W w'→w'.cell? ⟨rb,12,none⟩=some (.int .i64 (vn:Int))):=fun w' u=>by
  obtain ⟨_,_,_,_,_,_,_,_,_,_,_,_,h,_⟩:=HRB.out w' u;rw [hvn] at h;exact h
 have CS:=h_ (fun (w':World) (u:Upd Non W w') (ins:List Bool) (hil:ins.length=vn) (IA:Option Addr) (ic:Nat) (hI:Sl w' (fun _=>True) IA (b8s ins)) (hic:ins.length≤ic)=>rSuccessor_c r a k hk ins old hro hv6 hc6 hst (by rw [hil,HVN.out]) hol (F:=fun _=>True) (w:=w') (IA:=IA) (OA:=OA) (ic:=ic) (oc:=oc) ((hKr.upd u (fun _ _ _ f=>f)).mono (fun _ _ _=>trivial)) hI ((hO2.upd u (fun _ _ _ f=>f)).mono (fun _ _ _=>trivial)) hic hoc)
 have HST:=h_ (fun (h:Nat) (hh:h<2 ^ r.vars.toNat)=>succs_take r k old hh hro);have HSL:=h_ (succsF_len r k old);obtain ⟨sn,Hsn⟩:=nm (stN r);obtain ⟨ol,Hol⟩:=nm old.length;rw [Hol.out] at CS;rw [Hsn.out] at CS hst;unfold rlv at CS ⊢;unfold rlCells at e0 CS ⊢;rw [hvn] at e0 CS ⊢;rw [Hol.out];have HW0:Hid (w.heap.size≤W.heap.size):=hU.size;clear hkr hO hU hb hKr hO2 hro hvn hol hoc hv6 hv0;go_enter Tryz.func69,Tryz.ntmps69;go_wp2_with fail
 go_loopg [7,8] H (fun gg s7 s8 wr=>∃(h:Nat) (NA:Option Addr) (n nc:Nat),Hid (gg=H - h)∧h≤H∧s7=.slice NA n nc∧s8=.int .i64 h∧n≤h∧Hid (ElO ElRow 1 84 wr (U8B wr) NA n nc (((succsF r k old).take h).map bbs))∧Hid (∀i,At NA i→W.heap.size≤i)∧Hid (Upd Non W wr))
 case atStart=>exact ⟨0,none,0,0,rfl,by omega,rfl,rfl,Nat.le_refl _,by rw [List.take_zero];exact ElO.none_,fun i q=>(At.none_ q).elim,Upd.refl⟩
 case round =>
  obtain ⟨h,NA,n,nc,Hg,hh,rfl,rfl,hnh,HN,HA,HUr⟩:=hrel;obtain ⟨wh,rfl⟩:∃z:World,z=wr:=⟨_,rfl⟩;have y12:=HC12.out wh HUr.out;by_cases hlt:h<H
  ·have th:(h:Int)<(H:Int):=by omega
   go_wp2_with fail
   rw [hsh]
   go_loopg [9,10] vn (fun gg s9 s10 wr=>∃(j:Nat) (IA:Option Addr) (ic:Nat),Hid (gg=vn - j)∧j≤vn∧s9=.slice IA j ic∧s10=.int .i64 j∧Hid (Own wr 5 1 IA j ic (b8s (bitsN h j)))∧Hid (∀i,At IA i→wh.heap.size≤i)∧Hid (Upd Non wh wr))
   case atStart=>exact ⟨0,none,0,rfl,by omega,rfl,rfl,Own.none_,fun i q=>(At.none_ q).elim,Upd.refl⟩
   case round =>
    obtain ⟨j,IA,ic,Hg2,hj,rfl,rfl,HI,HAI,HUj⟩:=hrel;obtain ⟨wj,rfl⟩:∃z:World,z=wr:=⟨_,rfl⟩;have z12:=HC12.out wj (HUr.out.then_non HUj.out);by_cases hjv:j<vn
    ·have tj:(j:Int)<(vn:Int):=by omega
     have hbit:=bit_u8 (h:Int) j (by omega);rw [bI_nat (by omega)] at hbit;have HBS:Hid (b8s (bitsN h j)++[.int .u8 (bW (h.testBit j))]=b8s (bitsN h (j+1))):=by show _=_;rw [bitsN_succ];unfold b8s;rw [List.map_append];rfl
     have hOj:=HI.out;obtain ⟨tb,Htb⟩:=nm (h.testBit j);rw [Htb.out] at hbit HBS
     go_wp2_with (at_builtin;refine wpList_app rfl rfl T_u8s rfl (hOj.alloc _) rfl (Sl.new _ _ _) rfl (by simp [Value.oneCell']) (by simp only [maxLen];omega) (by omega) ?_)
     intro A5 c5 w5 ho5 hu5 hat5;have HO5:Hid (Own w5 5 1 A5 (j+1) c5 (b8s (bitsN h (j+1)))):=by rw [←HBS.out];exact ho5
     have HA5:Hid (∀i,At A5 i→wh.heap.size≤i):=fun i q=>by
      have:=HUj.out.size;rcases hat5 i q with q | q
      ·exact HAI.out i q
      ·omega
     have HU5:Hid (Upd Non wh w5):=(HUj.out.alloc _).trans hu5 (fun i hi q=>by have:=HAI.out i q;omega);clear ho5 hu5 hat5 hOj;go_wp2_with fail
     go_roundg (vn - (j+1))
     case measure=>rw [Hg2.out];omega
     case rel=>exact ⟨j+1,A5,c5,rfl,by omega,rfl,by go_num,HO5.out,HA5.out,HU5.out⟩
    ·obtain rfl:vn=j:=by omega
     have C1:=h_ (CS.out wj (HUr.out.then_non HUj.out) (bitsN h vn) (bitsN_len h vn) IA ic (HI.out.sl.mono (fun _ _ _=>trivial)) (by rw [bitsN_len];exact HI.out.le))
     rw [bitsN_len] at C1;have HTK:=h_ (HST.out h (by rw [HVN.out,HH.out];exact hlt));rw [HVN.out] at HTK;obtain ⟨sv,Hsv⟩:=nm (succF k (insF (bitsN h vn)) r old);rw [Hsv.out] at C1 HTK;obtain ⟨c0,c1,c2,c3,c4,c5,c6,c7,c8,c9,c10,c11,c12,c13⟩:=HRB.out wj (HUr.out.then_non HUj.out);clear c12;go_wp2_with fail
     refine C1.out.mono ?_;rintro e w5 ⟨A5,c5',rfl,ho5,ha5,u5⟩;have HU5:=h_ (HUj.out.then_non u5);obtain ⟨hn,cs,hoN,hCN⟩:=HN.out;have HHN:=h_ (And.intro hn hCN);have hoN5:=hoN.upd HU5.out (fun _ _ f=>f);have HN5:=h_ hoN;have HO5:=h_ ho5;have HA5:=h_ ha5;clear hn hCN hoN ho5 ha5 u5 C1 c0 c1 c2 c3 c4 c5 c6 c7 c8 c9 c10 c11 c13
     go_wp2_with (at_builtin;refine wpList_app rfl rfl T_rows rfl (hoN5.alloc _) rfl (Sl.new _ _ _) rfl (by simp [Value.oneCell']) (by simp only [maxLen];omega) (by omega) ?_)
     intro A8 c8 w8 ho8 hu8 hat8
     have HN8:Hid (ElO ElRow 1 84 w8 (U8B w8) A8 (n+1) c8 (((succsF r k old).take (h+1)).map bbs)):=by
      obtain ⟨hn,hCN⟩:=HHN.out;have hal:Upd Non wh (w5.alloc (.cells #[.slice A5 sn c5'] 84)):=HU5.out.alloc _;have ho5a:=HO5.out.alloc (.cells #[.slice A5 sn c5'] 84);obtain ⟨qb,rfl⟩:=HO5.out.some_ (by rw [←Hsn.out];unfold stN;omega);rw [HTK.out,List.map_append];exact ElO.snoc8 elRow (by decide) hn hCN hal (HN5.out.upd hal (fun _ _ f=>f)) (elRow_of ho5a (by have:=HO5.out.len;rw [b8s_len,Nat.mul_one] at this;exact this) ⟨own_u8 ho5a,fun q=>by have h1:=HN5.out.lt q;have h2:=HA5.out qb (At.some_.2 rfl);have h3:=HUj.out.size;omega⟩) ho8 hu8 (fun i q=>(hat8 i q).imp id (fun z=>by rw [z];simp))
     have HA8:Hid (∀i,At A8 i→W.heap.size≤i):=fun i q=>by
      have h1:=HU5.out.size;have h2:=HUr.out.size;rcases hat8 i q with q | q
      ·exact HA.out i q
      ·omega
     have HU8:Hid (Upd Non W w8):=(HUr.out.then_non (HU5.out.alloc _)).trans hu8 (fun i hi q=>by have:=HA.out i q;omega);clear ho8 hu8 hat8 hoN5;go_wp2_with fail
     go_roundg (H - (h+1))
     case measure=>rw [Hg.out];omega
     case rel=>exact ⟨h+1,A8,n+1,c8,rfl,by omega,rfl,by go_num,by omega,HN8.out,HA8.out,HU8.out⟩
  ·obtain rfl:H=h:=by omega
   have HFIN:Hid (ElO ElRow 1 84 wh (U8B wh) NA n nc ((succsF r k old).map bbs)):=by
    have:=HN.out
    rwa [List.take_of_length_le (by rw [HSL.out,HVN.out,HH.out];exact Nat.le_refl _)] at this
   go_wp2_with fail
   go_ret;exact ⟨NA,n,nc,rfl,HFIN.out,fun i q=>Nat.le_trans HW0.out (HA.out i q),HU.out.then_non HUr.out⟩
def VoP (p:Pt):Prop:=∀q∈nodes p,0<q.v→q.op=0
theorem VoP.kid {p k:Pt} (h:VoP p) (hk:k∈p.kids):VoP k:=fun q hq=>h q (by
 cases p
 simp only [nodes,List.mem_cons]
 exact .inr (nodesL_mem hk hq))
theorem vo_of_vPt (p:Pt):∀(s m:Int) (vs:List Int),(vPt p s m vs).1=true→VoP p:=by
 induction p using Pt.ind with
 | h p ih =>
  intro s m vs h q hq hv;by_cases hp:p.v=0
  ·rw [vPt_op hp] at h
   split at h
   ·have hl:∀(ks:List Pt) (ss:List Int) (us:List Int),us.length=vs.length→(∀k∈ks,k∈p.kids)→(vKids ks ss m us).1=true→∀k∈ks,VoP k:=by
     intro ks
     induction ks with
     | nil=>intro ss us _ _ _ k hk;simp at hk
     | cons k ks ihk =>
      intro ss us hu hm hk;simp only [vKids] at hk
      split at hk
      ·rename_i hk1;intro k' hk';rcases List.mem_cons.1 hk' with rfl | hk'
       ·exact ih _ (hm _ (by simp)) _ _ _ hk1
       ·exact ihk _ _ (by rw [vPt_len];exact hu) (fun x hx=>hm x (by simp [hx])) hk k' hk'
      ·exact absurd hk (by simp)
    have hk:=hl _ _ _ rfl (fun k hk=>hk) h
    have hn:q=p∨q∈nodesL p.kids:=by
     obtain ⟨v,op,imm,iv,kids⟩:=p;rw [nodes,List.mem_cons] at hq;exact hq
    rcases hn with rfl | hn
    ·omega
    ·have : ∀l:List Pt,(∀k∈l,k∈p.kids)→q∈nodesL l→q.op=0:=by
      intro l
      induction l with
      | nil=>intro _ hq;simp [nodesL] at hq
      | cons k ks ihl =>
       intro hk2 hq;rw [nodesL,List.mem_append] at hq;rcases hq with hq | hq
       ·exact hk k (hk2 k (by simp)) q hq hv
       ·exact ihl (fun x hx=>hk2 x (by simp [hx])) hq
     exact this _ (fun _ h=>h) hn
   ·simp at h
  ·rw [vPt_var hp] at h
   split at h
   ·simp at h
   ·rename_i hc;have h0:p.kids=[]:=List.length_eq_zero_iff.1 (by omega)
    have hn:q=p∨q∈nodesL p.kids:=by
     obtain ⟨v,op,imm,iv,kids⟩:=p;rw [nodes,List.mem_cons] at hq;exact hq
    rw [h0] at hn;rcases hn with rfl | hn
    ·omega
    ·simp [nodesL] at hn
theorem applF_vo {r:Rl} (h:implF r=true):VoP r.l∧VoP r.r:=by
 unfold implF at h;simp only [Bool.and_eq_true,decide_eq_true_eq] at h;obtain ⟨⟨⟨⟨⟨_,hl⟩,hr⟩,_⟩,_⟩,_⟩:=h;unfold validF at hl hr;rw [Bool.and_eq_true] at hl hr;exact ⟨vo_of_vPt _ _ _ _ hl.2,vo_of_vPt _ _ _ _ hr.2⟩
theorem gL_snoc (q:Pt):∀l:List Pt,gL (l++[q])=gL l+gN q
 | []=>by simp [gL]
 | x::l=>by rw [List.cons_append,gL,gL,gL_snoc q l];omega
def spR (p:Pt):Ending:=.returned (.tuple #[.int .i64 (if supF p=true then (gN p:Int) else 0),.bool (supF p)])
theorem spR_no {p:Pt} (h:supF p=false):spR p=.returned (.tuple #[.int .i64 0,.bool false]):=by unfold spR;rw [h];rfl
theorem spR_yes {p:Pt} {n:Nat} (h:supF p=true) (hn:n=gN p):spR p=.returned (.tuple #[.int .i64 (n:Int),.bool true]):=by unfold spR;rw [h,hn];rfl
theorem rGuesses_c (op:Int) (w:World):Calls Tryz.prog 123 #[.int .i64 op] w fun e w'=>e=.returned (.int .i64 ((isG op).toNat:Int))∧w=w':=by
 by_cases h:15≤op∧op≤19∨op=22
 ·have hg:isG op=true:=dT_ h;rw [hg];rcases (show op=15∨op=16∨op=17∨op=18∨op=19∨op=22 by omega) with rfl | rfl | rfl | rfl | rfl | rfl <;>
  ·go_enter Tryz.func123,Tryz.ntmps123;go_wp2_with fail
   go_ret;exact ⟨rfl,rfl⟩
 ·have hg:isG op=false:=dF_ h;rw [hg];have h22:(op==22)=false:=beq_eq_false_iff_ne.2 (by omega);by_cases h15:15≤op
  ·have t1:decide (op ≥ 15)=true:=dT_ h15;have t2:decide (op≤19)=false:=dF_ (by omega);clear h h15;go_enter Tryz.func123,Tryz.ntmps123;go_wp2_with fail
   go_ret;exact ⟨rfl,rfl⟩
  ·have t1:decide (op ≥ 15)=false:=dF_ h15;clear h h15;go_enter Tryz.func123,Tryz.ntmps123;go_wp2_with fail
   go_ret;exact ⟨rfl,rfl⟩
set_option maxRecDepth 100000 in
set_option maxHeartbeats 16000000 in
theorem rSupported_c (m:Nat) (p:Pt):∀(w:World) (F:Nat→Prop) (KA:Option Addr) (kc:Nat),PtK w F p KA kc→WfP m p→VoP p→p.size≤1000000000000 →
  Calls Tryz.prog 61 #[pv p KA kc] w fun e w'=>e=spR p∧Upd Non w w':=by
 induction p using Pt.ind with
 | h p ih =>
  intro w F KA kc hp hw hvo hs;rw [WfP.iff] at hw;have hle:=Pt.len_le p.kids;have hse:=Pt.size_eq p;have hn12:p.kids.length≤1000000000000:=by omega
  have HI:=h_ ih;obtain ⟨W,HW⟩:=nm (w.alloc (.cells #[.int .i64 p.v,.int .i64 p.op,.int .i64 p.imm,.int .i64 p.iv,.slice KA p.kids.length kc] 38));have hU:Upd Non w W:=by rw [←HW.out];exact Upd.refl.alloc _
  have hb:Blk W w.heap.size 38 #[.int .i64 p.v,.int .i64 p.op,.int .i64 p.imm,.int .i64 p.iv,.slice KA p.kids.length kc]:=by rw [←HW.out];exact Blk.new _ _ _
  have e0:=HW.out;have c0:=hb.cell 0;have c1:=hb.cell 1;have c4:=hb.cell 4;have hpW:=PtK.upd hU (fun _ _ _ f=>f) p KA kc hp;have HS:=h_ hse;have HWF:=h_ hw.2.2.2;have HAR:=h_ hw.2.2.1;have HVO:=h_ hvo;have hv0:=hw.1;have hgl:gL p.kids≤1000000000000:=by have:=gL_le p.kids (fun k _=>gN_le k);omega
  have HGL:=h_ hgl;unfold pv;clear ih hse hp hw hle hvo hgl;by_cases hv:0<p.v
  ·have t0:decide (p.v > 0)=true:=dT_ hv;have HR:Hid (supF p=true):=supF_var hv;have HG:Hid (0=gN p):=by show _=_;rw [gN_iff,if_pos hv]
   go_enter Tryz.func61,Tryz.ntmps61;go_wp2_with fail
   go_ret2;exact ⟨(spR_yes HR.out HG.out).symm,hU⟩
  ·have t0:decide (p.v > 0)=false:=dF_ hv;have HR:Hid (supF p=(supO p.op p.kids&&p.kids.all supF)):=supF_op hv;have HGN:Hid (gN p=(isG p.op).toNat+gL p.kids):=by show _=_;rw [gN_iff,if_neg hv]
   have har:Hid (p.kids.length=(oSortsF p.op).1.length):=HAR.out (by omega);clear HAR hv;by_cases h1:p.op=1
   ·have hk0:p.kids=[]:=List.length_eq_zero_iff.1 (by rw [har.out,h1];rfl);have HR:Hid (supF p=true):=by show _=_;rw [HR.out,hk0,h1];rfl
    have HG:Hid (0=gN p):=by show _=_;rw [HGN.out,hk0,h1];rfl
    rw [h1] at c1 e0;rw [h1];clear hk0 har h1;go_enter Tryz.func61,Tryz.ntmps61;go_wp2_with fail
    go_ret2;exact ⟨(spR_yes HR.out HG.out).symm,hU⟩
   ·by_cases hop:p.op=4∨p.op=5∨p.op=9∨p.op=10∨p.op=11∨p.op=20∨p.op=21∨p.op=15∨p.op=16∨p.op=17∨p.op=18∨p.op=19∨p.op=22
    ·have HR:Hid (supF p=p.kids.all supF):=by
      show _=_;rw [HR.out,show supO p.op p.kids=true by unfold supO;exact dT_ (by omega)];rfl
     obtain ⟨n,Hn⟩:=nm p.kids.length;rw [Hn.out] at c4 e0 hn12;obtain ⟨op,Hop⟩:=nm p.op;rw [Hop.out] at c1 e0 hop HGN;rw [Hn.out,Hop.out];have CG:=h_ (rGuesses_c op);obtain ⟨gi,Hgi⟩:=nm (isG op).toNat;rw [Hgi.out] at HGN CG;have hgi:gi≤1:=by rw [←Hgi.out];cases isG op <;> simp
     clear har Hop h1 Hgi;go_enter Tryz.func61,Tryz.ntmps61
     go_upto_block 0 with fail
     go_cut [] (fun wx=>wx=W)
     case first =>
      rcases hop with h | h | h | h | h | h | h | h | h | h | h | h | h
      all_goals
       subst h;go_wp2_with fail
       go_meet
       case rel=>rfl
     case rest =>
      rw [hcut];clear hcut;go_wp2_with fail
      refine (CG.out _).mono ?_;rintro e wz ⟨rfl,hwz⟩;subst hwz;go_wp2_with fail
      go_loopg [4,5] n (fun g s4 i wr=>∃k s:Nat,Hid (g=n - k)∧k≤n∧s4=.int .i64 (s:Int)∧i=.int .i64 k∧Hid ((p.kids.take k).all supF=true)∧Hid (s=gi+gL (p.kids.take k))∧Upd Non W wr)
      case atStart=>exact ⟨0,gi,rfl,by omega,rfl,rfl,rfl,by rw [List.take_zero];rfl,Upd.refl⟩
      case round =>
       obtain ⟨k,s,Hg,hk,rfl,rfl,HT,HSum,hu⟩:=hrel
       have hsb:s≤1000000000001:=by
        have h1:=HSum.out
        have h2:gL (p.kids.take k)≤gL p.kids:=by
         conv=>rhs;rw [←List.take_append_drop k p.kids]
         generalize p.kids.take k=l1;generalize p.kids.drop k=l2
         induction l1 with
         | nil=>exact Nat.zero_le _
         | cons x l ih=>rw [List.cons_append,gL,gL];omega
        have h3:=HGL.out;omega
       have c4r:=u_ c4 hu (fun f=>f);by_cases hlt:k<n
       ·have hkl:k<p.kids.length:=by rw [Hn.out];exact hlt
        obtain ⟨b,o,eKA,hF,hbw,KB,kd,h0,h1,h2,h3,h4,h5⟩:=(PtK.upd hu (fun _ _ _ f=>f) p _ kc hpW).at_ hkl
        first | subst eKA | (injection eKA with eKA;injection eKA with eK1 eK2;subst eK1 eK2)
        have hks:p.kids[k].size≤1000000000000:=by have:=Pt.kids_lt (List.getElem_mem hkl);omega
        have hmem:=List.getElem_mem hkl;have hgq:=gN_le p.kids[k];have HT2:Hid (supF p.kids[k]=true→(p.kids.take (k+1)).all supF=true):=fun e=>by rw [List.take_succ_eq_append_getElem hkl,List.all_append,HT.out];simp [e]
        have HF2:Hid (supF p.kids[k]=false→p.kids.all supF=false):=fun e=>by
         rw [Bool.eq_false_iff];intro q;rw [List.all_eq_true] at q;rw [q _ hmem] at e;cases e
        have HS2:Hid (s+gN p.kids[k]=gi+gL (p.kids.take (k+1))):=by show _=_;rw [List.take_succ_eq_append_getElem hkl,gL_snoc,HSum.out];omega
        have hk0:(0:Int)≤(k:Int):=by omega
        have hkn:(k:Int)<(n:Int):=by omega
        generalize p.kids[k]=q at *;have C1:=h_ (HI.out q hmem wr F KB kd h5 (HWF.out q hmem) (HVO.out.kid hmem) hks);obtain ⟨gq,Hgq⟩:=nm (gN q);rw [Hgq.out] at HS2 hgq;have hgqb:gq≤1000000000000:=by omega
        unfold pv at C1;clear h5 hmem hgq hks
        cases hsq:supF q with
        | false =>
         rw [spR_no hsq] at C1;have HF3:=h_ (HF2.out hsq);clear hsq HT2 HF2;go_wp2_with fail
         refine C1.out.mono ?_;rintro e w4 ⟨rfl,hu4⟩;go_wp2_with fail
         go_ret2;exact ⟨(spR_no (by rw [HR.out,HF3.out])).symm,hU.then_non (hu.then_non hu4)⟩
        | true =>
         rw [spR_yes hsq Hgq.out.symm] at C1;have HT3:=h_ (HT2.out hsq);clear hsq HT2 HF2;go_wp2_with fail
         refine C1.out.mono ?_;rintro e w4 ⟨rfl,hu4⟩;go_wp2_with fail
         go_roundg (n - (k+1))
         case measure=>rw [Hg.out];omega
         case rel=>exact ⟨k+1,s+gq,rfl,by omega,by go_num,by go_num,HT3.out,HS2.out,hu.then_non hu4⟩
       ·obtain rfl:n=k:=by omega
        have HA:Hid (p.kids.all supF=true):=by have:=HT.out;rw [List.take_of_length_le (by rw [Hn.out];omega)] at this;exact this
        have HSE:Hid (s=gN p):=by show _=_;rw [HSum.out,List.take_of_length_le (by rw [Hn.out];omega),HGN.out]
        go_wp2_with fail
        go_ret2;exact ⟨(spR_yes (by rw [HR.out,HA.out]) HSE.out).symm,hU.then_non hu⟩
    ·by_cases h12:p.op=12
     ·have hlen:Hid (p.kids.length=2):=by have:=har.out;rw [h12] at this;exact this
      obtain ⟨k0,k1,ek⟩:∃k0 k1,p.kids=[k0,k1]:=by
       match p.kids,hlen.out with
       | [x,y],_=>exact ⟨x,y,rfl⟩
      have e1:supO 12 [k0,k1]=(decide (k1.op=1)&&decide ((k1.imm % 64).toNat≤8)):=by
       unfold supO;rw [Bool.eq_iff_iff];simp [kid]
      have HSO:Hid (supO p.op p.kids=(decide (k1.op=1)&&decide ((k1.imm % 64).toNat≤8))):=by show _=_;rw [h12,ek,e1]
      have hA:=hpW.at_ (i:=1) (by rw [hlen.out];decide);obtain ⟨b',o',eb,_,_,KB',kd',g0,g1,g2,g3,g4,g5⟩:=hA;have q1:p.kids[1]'(by rw [hlen.out];decide)=k1:=by simp [ek]
      rw [q1] at g0 g1 g2 g3 g4 g5
      have hv1:k1.op=1→¬0<k1.v:=fun e q=>by
       have:=HVO.out k1 (by
        obtain ⟨v,op,imm,iv,kids⟩:=p;rw [nodes,List.mem_cons]
        exact .inr (nodesL_mem (show k1∈kids by rw [show kids=[k0,k1] from ek];simp) (nodes_self k1))) q
       omega
      have ha:=and63 k1.imm;obtain ⟨mm,Hm⟩:=nm (k1.imm % 64).toNat;rw [Hm.out] at ha HSO;rw [h12] at c1 e0 HGN HR HSO;obtain ⟨n,Hn⟩:=nm p.kids.length;have hn2:=hlen.out;rw [Hn.out] at c4 e0 hn12 hn2;rw [Hn.out,h12];have hn2':(1:Int)<(n:Int):=by omega
      clear g5 har q1 hop g3 g4 h12 h1 Hm hn2 e1;by_cases h1:k1.op=1
      ·have hz1:k1.v=0:=by
        have h2:=hv1 h1;have h3:=((WfP.iff m k1).1 (HWF.out k1 (by rw [ek];simp))).1;omega
       rw [hz1] at g0;rw [h1] at g1;by_cases h8:mm≤8
       ·have t8:decide ((mm:Int) > 8)=false:=dF_ (by omega);have HR:Hid (supF p=p.kids.all supF):=by show _=_;rw [HR.out,HSO.out,dT_ h1,dT_ h8];rfl
        have CG:=h_ (rGuesses_c 12);obtain ⟨gi,Hgi⟩:=nm (isG 12).toNat;rw [Hgi.out] at HGN CG;have hgi:gi≤1:=by rw [←Hgi.out];decide
        clear h1 hv1 h8 hz1 ek;subst eb;go_enter Tryz.func61,Tryz.ntmps61;go_wp2_with fail
        refine (CG.out _).mono ?_;rintro e wz ⟨rfl,hwz⟩;subst hwz;clear g0 g1 g2;go_wp2_with fail
        go_loopg [4,5] n (fun g s4 i wr=>∃k s:Nat,Hid (g=n - k)∧k≤n∧s4=.int .i64 (s:Int)∧i=.int .i64 k∧Hid ((p.kids.take k).all supF=true)∧Hid (s=gi+gL (p.kids.take k))∧Upd Non W wr)
        case atStart=>exact ⟨0,gi,rfl,by omega,rfl,rfl,rfl,by rw [List.take_zero];rfl,Upd.refl⟩
        case round =>
         obtain ⟨k,s,Hg,hk,rfl,rfl,HT,HSum,hu⟩:=hrel
         have hsb:s≤1000000000001:=by
          have h1:=HSum.out
          have h2:gL (p.kids.take k)≤gL p.kids:=by
           conv=>rhs;rw [←List.take_append_drop k p.kids]
           generalize p.kids.take k=l1;generalize p.kids.drop k=l2
           induction l1 with
           | nil=>exact Nat.zero_le _
           | cons x l ih=>rw [List.cons_append,gL,gL];omega
          have h3:=HGL.out;omega
         have c4r:=u_ c4 hu (fun f=>f);by_cases hlt:k<n
         ·have hkl:k<p.kids.length:=by rw [Hn.out];exact hlt
          obtain ⟨b,o,eKA,hF,hbw,KB,kd,h0,h1,h2,h3,h4,h5⟩:=(PtK.upd hu (fun _ _ _ f=>f) p _ kc hpW).at_ hkl
          first | subst eKA | (injection eKA with eKA;injection eKA with eK1 eK2;subst eK1 eK2)
          have hks:p.kids[k].size≤1000000000000:=by have:=Pt.kids_lt (List.getElem_mem hkl);omega
          have hmem:=List.getElem_mem hkl;have hgq:=gN_le p.kids[k];have HT2:Hid (supF p.kids[k]=true→(p.kids.take (k+1)).all supF=true):=fun e=>by rw [List.take_succ_eq_append_getElem hkl,List.all_append,HT.out];simp [e]
          have HF2:Hid (supF p.kids[k]=false→p.kids.all supF=false):=fun e=>by
           rw [Bool.eq_false_iff];intro q;rw [List.all_eq_true] at q;rw [q _ hmem] at e;cases e
          have HS2:Hid (s+gN p.kids[k]=gi+gL (p.kids.take (k+1))):=by show _=_;rw [List.take_succ_eq_append_getElem hkl,gL_snoc,HSum.out];omega
          have hk0:(0:Int)≤(k:Int):=by omega
          have hkn:(k:Int)<(n:Int):=by omega
          generalize p.kids[k]=q at *;have C1:=h_ (HI.out q hmem wr F KB kd h5 (HWF.out q hmem) (HVO.out.kid hmem) hks);obtain ⟨gq,Hgq⟩:=nm (gN q);rw [Hgq.out] at HS2 hgq;have hgqb:gq≤1000000000000:=by omega
          unfold pv at C1;clear h5 hmem hgq hks
          cases hsq:supF q with
          | false =>
           rw [spR_no hsq] at C1;have HF3:=h_ (HF2.out hsq);clear hsq HT2 HF2;go_wp2_with fail
           refine C1.out.mono ?_;rintro e w4 ⟨rfl,hu4⟩;go_wp2_with fail
           go_ret2;exact ⟨(spR_no (by rw [HR.out,HF3.out])).symm,hU.then_non (hu.then_non hu4)⟩
          | true =>
           rw [spR_yes hsq Hgq.out.symm] at C1;have HT3:=h_ (HT2.out hsq);clear hsq HT2 HF2;go_wp2_with fail
           refine C1.out.mono ?_;rintro e w4 ⟨rfl,hu4⟩;go_wp2_with fail
           go_roundg (n - (k+1))
           case measure=>rw [Hg.out];omega
           case rel=>exact ⟨k+1,s+gq,rfl,by omega,by go_num,by go_num,HT3.out,HS2.out,hu.then_non hu4⟩
         ·obtain rfl:n=k:=by omega
          have HA:Hid (p.kids.all supF=true):=by have:=HT.out;rw [List.take_of_length_le (by rw [Hn.out];omega)] at this;exact this
          have HSE:Hid (s=gN p):=by show _=_;rw [HSum.out,List.take_of_length_le (by rw [Hn.out];omega),HGN.out]
          go_wp2_with fail
          go_ret2;exact ⟨(spR_yes (by rw [HR.out,HA.out]) HSE.out).symm,hU.then_non hu⟩
       ·have t8:decide ((mm:Int) > 8)=true:=dT_ (by omega);have HSO2:Hid (supO 12 p.kids=false):=by show _=_;rw [HSO.out,dT_ h1,dF_ h8];rfl
        clear h1 hv1 h8 hz1 ek;subst eb;have HF:Hid (supF p=false):=by show _=_;rw [HR.out,HSO2.out];rfl
        go_enter Tryz.func61,Tryz.ntmps61;go_wp2_with fail
        go_ret2;exact ⟨(spR_no HF.out).symm,hU⟩
      ·have t1:(k1.op==1)=false:=by simpa using h1
       obtain ⟨o1,Ho1⟩:=nm k1.op;have HSO2:Hid (supO 12 p.kids=false):=by show _=_;rw [HSO.out,dF_ h1];rfl
       rw [Ho1.out] at g1 t1 h1;clear hv1 ek;subst eb;have HF:Hid (supF p=false):=by show _=_;rw [HR.out,HSO2.out];rfl
       go_enter Tryz.func61,Tryz.ntmps61;go_wp2_with fail
       go_ret2;exact ⟨(spR_no HF.out).symm,hU⟩
     ·have HR:Hid (supF p=false):=by
       show _=_;rw [HR.out,show supO p.op p.kids=false by unfold supO;exact dF_ (by omega)];rfl
      clear har hn12;obtain ⟨op,Hop⟩:=nm p.op;rw [Hop.out] at c1 e0 hop h12 h1;rw [Hop.out];clear Hop;obtain ⟨a2,a3,a4,a5,a6,a7,a8,a9,a10,a11,a12,a13,a14⟩:(op==4)=false∧(op==5)=false∧(op==9)=false∧(op==10)=false∧(op==11)=false∧(op==20)=false∧(op==21)=false∧(op==15)=false∧(op==16)=false∧(op==17)=false∧(op==18)=false∧(op==19)=false∧(op==22)=false:=by simp;omega
      have a1:(op==1)=false:=by simpa using h1
      have a15:(op==12)=false:=by simpa using h12
      clear hop h12 h1;go_enter Tryz.func61,Tryz.ntmps61;go_wp2_with fail
      go_ret2;exact ⟨(spR_no HR.out).symm,hU⟩
def BBlk (w:World) (g:Nat) (bs:List Bool):Prop:=Blk w g 4 (bs.map Value.bool).toArray
theorem BBlk.cell {w:World} {g:Nat} {bs:List Bool} (h:BBlk w g bs) {i:Nat} (hi:i<bs.length):w.cell? ⟨g,i,none⟩=some (.bool (bs.getD i false)):=by
 rw [Blk.cell h];simp [List.getD,hi]
theorem BBlk.set_ {w:World} {g:Nat} {bs:List Bool} (h:BBlk w g bs) (i:Nat) (x:Bool):BBlk (w.setCell ⟨g,i,none⟩ (.bool x)) g (bs.set i x):=by
 have:=Blk.set_ h i (.bool x);unfold BBlk;rw [show ((bs.set i x).map Value.bool).toArray=(bs.map Value.bool).toArray.setIfInBounds i (.bool x) by simp [List.map_set]];exact this
theorem BBlk.new (w:World) (n:Nat):BBlk (w.alloc (.cells (Array.replicate n (.bool false)) 4)) w.heap.size (List.replicate n false):=by
 unfold BBlk;rw [show ((List.replicate n false).map Value.bool).toArray=Array.replicate n (.bool false) by simp];exact Blk.new _ _ _
def mk1 (x:Int) (bs:List Bool):List Bool:=if 0<x∧x<(bs.length:Int) then bs.set x.toNat true else bs
theorem mk1_len (x:Int) (bs:List Bool):(mk1 x bs).length=bs.length:=by
 unfold mk1;split <;> simp
theorem markV_node (p:Pt) (bs:List Bool):markV (nodes p) bs=markV (nodesL p.kids) (mk1 p.v bs):=by rw [nodes_eq];rfl
theorem markI_node (p:Pt) (bs:List Bool):markI (nodes p) bs=markI (nodesL p.kids) (mk1 p.iv bs):=by rw [nodes_eq];rfl
theorem markV_len (l:List Pt):∀bs:List Bool,(markV l bs).length=bs.length:=by
 induction l with
 | nil=>intro bs;rfl
 | cons p l ih=>intro bs;show (markV l (mk1 p.v bs)).length=_;rw [ih,mk1_len]
theorem markI_len (l:List Pt):∀bs:List Bool,(markI l bs).length=bs.length:=by
 induction l with
 | nil=>intro bs;rfl
 | cons p l ih=>intro bs;show (markI l (mk1 p.iv bs)).length=_;rw [ih,mk1_len]
theorem markV_app (a b:List Pt) (bs:List Bool):markV (a++b) bs=markV b (markV a bs):=by unfold markV;rw [List.foldl_append]
theorem markI_app (a b:List Pt) (bs:List Bool):markI (a++b) bs=markI b (markI a bs):=by unfold markI;rw [List.foldl_append]
set_option maxRecDepth 100000 in
set_option maxHeartbeats 4000000 in
theorem r15occurring_c (p:Pt):∀(w:World) (F:Nat→Prop) (KA:Option Addr) (kc gv c gi d:Nat) (bs cs:List Bool),PtK w F p KA kc→¬F gv→¬F gi→gv≠gi→BBlk w gv bs→BBlk w gi cs→p.size≤1000000000000 →
  Calls Tryz.prog 89 #[pv p KA kc,.slice (some ⟨gv,0,none⟩) bs.length c,.slice (some ⟨gi,0,none⟩) cs.length d] w fun e w'=>e=.returned (.tuple #[])∧BBlk w' gv (markV (nodes p) bs)∧BBlk w' gi (markI (nodes p) cs)∧Upd (fun k=>k=gv∨k=gi) w w':=by
 induction p using Pt.ind with
 | h p ih =>
  intro w F KA kc gv c gi d bs cs hp hFv hFi hne hgv hgi hs;have HI:=h_ ih;obtain ⟨W,HW⟩:=nm (w.alloc (.cells #[.int .i64 p.v,.int .i64 p.op,.int .i64 p.imm,.int .i64 p.iv,.slice KA p.kids.length kc] 38));have hU:Upd Non w W:=by rw [←HW.out];exact Upd.refl.alloc _
  have hb:Blk W w.heap.size 38 #[.int .i64 p.v,.int .i64 p.op,.int .i64 p.imm,.int .i64 p.iv,.slice KA p.kids.length kc]:=by rw [←HW.out];exact Blk.new _ _ _
  have e0:=HW.out;have hvlt:gv<w.heap.size:=Blk.lt hgv;have hilt:gi<w.heap.size:=Blk.lt hgi;have hgv:BBlk W gv bs:=Blk.upd hgv hU (fun f=>f);have hgi:BBlk W gi cs:=Blk.upd hgi hU (fun f=>f);have hp:=PtK.upd hU (fun _ _ _ f=>f) p KA kc hp;have HZ:=h_ (fun (k:Pt) (h:k∈p.kids)=>Nat.le_trans (Nat.le_of_lt (Pt.kids_lt h)) hs);have hkl:p.kids.length≤1000000000000:=by have h1:=Pt.len_le p.kids;have h2:=Pt.size_eq p;omega
  rw [markV_node,markI_node];have c0:=hb.cell 0;have h2U:Upd (fun k=>k=gv∨k=gi) w W:=hU.mono (fun _ _ f=>f.elim);unfold pv;obtain ⟨v,Hv⟩:=nm p.v;obtain ⟨op,Hop⟩:=nm p.op;obtain ⟨imm,Him⟩:=nm p.imm;obtain ⟨iv,Hiv⟩:=nm p.iv;obtain ⟨k,Hk⟩:=nm p.kids.length;rw [Hv.out] at c0 e0 hb;rw [Hop.out] at e0 hb;rw [Him.out] at e0 hb;rw [Hiv.out] at e0 hb;rw [Hk.out] at e0 hb hkl;rw [Hv.out,Hop.out,Him.out,Hiv.out,Hk.out];obtain ⟨vn,Hvn⟩:=nm bs.length;obtain ⟨mn,Hmn⟩:=nm cs.length;rw [Hvn.out,Hmn.out];have hLV:=mk1_len v bs;have hLI:=mk1_len iv cs;obtain ⟨bs1,Hbs1⟩:=nm (mk1 v bs);obtain ⟨cs1,Hcs1⟩:=nm (mk1 iv cs);rw [Hvn.out,Hbs1.out] at hLV;rw [Hmn.out,Hcs1.out] at hLI;have HLV:=h_ hLV;have HLI:=h_ hLI;rw [Hbs1.out,Hcs1.out];clear ih hs hLV hLI;go_enter Tryz.func89,Tryz.ntmps89;obtain ⟨b1,f1⟩:∃b,decide (0<v)=b:=⟨_,rfl⟩;obtain ⟨b2,f2⟩:∃b,decide (v<(vn:Int))=b:=⟨_,rfl⟩;have F1:=h_ f1;have F2:=h_ f2
  go_upto_region 1 with fail
  go_cut [16] (fun t wx=>t=.bool (b1&&b2)∧wx=W)
  case first =>
   cases b1 with
   | false=>go_wp2_with fail;go_meet;exact ⟨rfl,rfl⟩
   | true=>cases b2 <;> (go_wp2_with fail;go_meet;exact ⟨rfl,rfl⟩)
  case rest =>
   obtain ⟨rfl,ew⟩:=hcut;obtain rfl:W=_:=ew.symm;clear f1 f2
   go_upto_if 16 with fail
   go_cut [] (fun wx=>BBlk wx gv bs1∧Upd (·=gv) W wx)
   case first =>
    cases hT:(b1&&b2) with
    | true =>
     have hb1:b1=true:=by revert hT;cases b1 <;> simp
     have hb2:b2=true:=by revert hT;cases b2 <;> simp
     have h1:0<v:=of_decide_eq_true (by rw [F1.out,hb1]);have h2:v<(vn:Int):=of_decide_eq_true (by rw [F2.out,hb2]);obtain ⟨j,rfl⟩:∃j:Nat,v=(j:Int):=Int.eq_ofNat_of_zero_le (by omega);have hj:j<bs.length:=by rw [Hvn.out];omega
     have hz:=BBlk.cell hgv hj;have hfr:=Blk.frozen hgv;have hE:bs.set j true=bs1:=by rw [←Hbs1.out];unfold mk1;rw [if_pos ⟨h1,by rw [Hvn.out];exact h2⟩];rfl
     obtain ⟨W2,HW2⟩:=nm (W.setCell ⟨gv,j,none⟩ (.bool true));have hgv2:BBlk W2 gv bs1:=by rw [←HW2.out,←hE];exact BBlk.set_ hgv j true
     have u2:Upd (·=gv) W W2:=by rw [←HW2.out];exact updCell _ _ _ _
     have e2:=HW2.out;have HE:=h_ hgv2;have hj2:j<vn:=by omega
     have hT2:=h_ hT;clear hE hgv2 hgv hb1 hb2 hT h1 h2;go_wp2_with fail
     go_meet
     case rel=>exact ⟨HE.out,u2⟩
    | false =>
     have hE:bs=bs1:=by
      rw [←Hbs1.out];unfold mk1;rw [if_neg];rw [Hvn.out];rintro ⟨h1,h2⟩;have a1:=F1.out;have a2:=F2.out;rw [dT_ h1] at a1;rw [dT_ h2] at a2;rw [←a1,←a2] at hT;cases hT
     have HE:=h_ hE;clear hE;go_wp2_with fail
     go_meet
     case rel=>exact ⟨by rw [←HE.out];exact hgv,Upd.refl⟩
   case rest =>
    obtain ⟨hgv1,u1⟩:=hcut;have hbc:=hb.upd u1 (by omega);have hgi1:BBlk wc gi cs:=Blk.upd hgi u1 (fun e=>hne e.symm);have hp1:=PtK.upd u1 (fun q _ hq e=>hFv (by rw [←e];exact hq)) p KA kc hp;have HU1:=h2U.trans u1 (fun q _ h=>.inl h);have hsc:=u1.size;have c0:=hbc.cell 0;have c3:=hbc.cell 3;have c4:=hbc.cell 4;obtain ⟨b3,f3⟩:∃b,decide (0<iv)=b:=⟨_,rfl⟩;obtain ⟨b4,f4⟩:∃b,decide (iv<(mn:Int))=b:=⟨_,rfl⟩;have F3:=h_ f3;have F4:=h_ f4;clear hb;obtain ⟨wd,rfl⟩:∃wd:World,wd=wc:=⟨_,rfl⟩
    go_upto_region 3 with fail
    go_cut [30] (fun t wx=>t=.bool (b3&&b4)∧wx=wd)
    case first =>
     cases b3 with
     | false=>go_wp2_with fail;go_meet;exact ⟨rfl,rfl⟩
     | true=>cases b4 <;> (go_wp2_with fail;go_meet;exact ⟨rfl,rfl⟩)
    case rest =>
     obtain ⟨rfl,ew⟩:=hcut;obtain rfl:wd=_:=ew.symm;clear f3 f4
     go_upto_if 30 with fail
     go_cut [] (fun wx=>BBlk wx gi cs1∧Upd (·=gi) wd wx)
     case first =>
      cases hT:(b3&&b4) with
      | true =>
       have hb1:b3=true:=by revert hT;cases b3 <;> simp
       have hb2:b4=true:=by revert hT;cases b4 <;> simp
       have h1:0<iv:=of_decide_eq_true (by rw [F3.out,hb1]);have h2:iv<(mn:Int):=of_decide_eq_true (by rw [F4.out,hb2]);obtain ⟨j,rfl⟩:∃j:Nat,iv=(j:Int):=Int.eq_ofNat_of_zero_le (by omega);have hj:j<cs.length:=by rw [Hmn.out];omega
       have hz:=BBlk.cell hgi1 hj;have hfr:=Blk.frozen hgi1;have hE:cs.set j true=cs1:=by rw [←Hcs1.out];unfold mk1;rw [if_pos ⟨h1,by rw [Hmn.out];exact h2⟩];rfl
       obtain ⟨W2,HW2⟩:=nm (wd.setCell ⟨gi,j,none⟩ (.bool true));have hgi2:BBlk W2 gi cs1:=by rw [←HW2.out,←hE];exact BBlk.set_ hgi1 j true
       have u2:Upd (·=gi) wd W2:=by rw [←HW2.out];exact updCell _ _ _ _
       have e2:=HW2.out;have HE:=h_ hgi2;have hj2:j<mn:=by omega
       have hT2:=h_ hT;clear hE hgi2 hb1 hb2 hT h1 h2;go_wp2_with fail
       go_meet
       case rel=>exact ⟨HE.out,u2⟩
      | false =>
       have hE:cs=cs1:=by
        rw [←Hcs1.out];unfold mk1;rw [if_neg];rw [Hmn.out];rintro ⟨h1,h2⟩;have a1:=F3.out;have a2:=F4.out;rw [dT_ h1] at a1;rw [dT_ h2] at a2;rw [←a1,←a2] at hT;cases hT
       have HE:=h_ hE;clear hE;go_wp2_with fail
       go_meet
       case rel=>exact ⟨by rw [←HE.out];exact hgi1,Upd.refl⟩
     case rest =>
      obtain ⟨W4,rfl⟩:∃W4:World,W4=wc:=⟨_,rfl⟩;obtain ⟨hgi2,u2⟩:=hcut;have hbc2:=hbc.upd u2 (by omega);have hgv2:BBlk W4 gv bs1:=Blk.upd hgv1 u2 hne;have hp4:=PtK.upd u2 (fun q _ hq e=>hFi (by rw [←e];exact hq)) p KA kc hp1;have HU4:=HU1.trans u2 (fun q _ h=>.inr h);have hs4:=u2.size;have c4:=hbc2.cell 4;have hgi2:=h_ hgi2;have hgv2:=h_ hgv2;clear hgv1 hgi1 hp1 c0 c3 hbc u1 hgv hgi;go_wp2_with fail
      go_loopg [6] k (fun g i wr=>∃q:Nat,Hid (g=k - q)∧q≤k∧i=.int .i64 q∧Hid (BBlk wr gv (markV (nodesL (p.kids.take q)) bs1))∧Hid (BBlk wr gi (markI (nodesL (p.kids.take q)) cs1))∧Upd (fun q=>q=gv∨q=gi) W4 wr)
      case atStart=>exact ⟨0,rfl,by omega,rfl,hgv2.out,hgi2.out,Upd.refl⟩
      case round =>
       obtain ⟨q,Hg,hq,rfl,HV,HM,hu⟩:=hrel;have d4:=(hbc2.upd hu (by omega)).cell 4;by_cases hlt:q<k
       ·have hql:q<p.kids.length:=by rw [Hk.out];exact hlt
        have hpr:=PtK.upd hu (fun q _ hq e=>by rcases e with rfl | rfl;exact hFv hq;exact hFi hq) p KA kc hp4;obtain ⟨b,o,rfl,hF,hbw,KB,kd,h0,h1,h2,h3,h4,h5⟩:=hpr.at_ hql;have HTK:Hid (p.kids.take (q+1)=p.kids.take q++[p.kids[q]]):=take_snoc' hql;have hmem:=List.getElem_mem hql;generalize p.kids[q]=t at *;have hts:=HZ.out t hmem;have C1:=h_ (HI.out t hmem wr F KB kd gv c gi d (markV (nodesL (p.kids.take q)) bs1) (markI (nodesL (p.kids.take q)) cs1) h5 hFv hFi hne HV.out HM.out hts)
        rw [markV_len,markI_len,HLV.out,HLI.out] at C1;unfold pv at C1;have HV2:Hid (markV (nodes t) (markV (nodesL (p.kids.take q)) bs1)=markV (nodesL (p.kids.take (q+1))) bs1):=by show _=_;rw [HTK.out,nodesL_snoc,markV_app]
        have HM2:Hid (markI (nodes t) (markI (nodesL (p.kids.take q)) cs1)=markI (nodesL (p.kids.take (q+1))) cs1):=by show _=_;rw [HTK.out,nodesL_snoc,markI_app]
        rw [HV2.out,HM2.out] at C1;clear h5 HV HM HTK hmem;go_wp2_with fail
        refine C1.out.mono ?_;rintro e w7 ⟨rfl,hv7,hm7,hu7⟩;have HV7:=h_ hv7;have HM7:=h_ hm7;have HU7:Upd (fun q=>q=gv∨q=gi) W4 w7:=hu.trans hu7 (fun _ _ h=>h);clear hv7 hm7 C1;go_wp2_with fail
        go_roundg (k - (q+1))
        case measure=>rw [Hg.out];omega
        case rel=>exact ⟨q+1,rfl,by omega,by go_num,HV7.out,HM7.out,HU7⟩
       ·obtain rfl:k=q:=by omega
        have HT:Hid (p.kids.take k=p.kids):=List.take_of_length_le (by rw [Hk.out];exact Nat.le_refl _);rw [HT.out] at HV HM;have HU:=HU4.trans hu (fun _ _ h=>h);go_wp2_with fail
        go_end0
        exact ⟨rfl,HV.out,HM.out,HU⟩
end Go.Proofs.YtifhejahbbnkiaaGreat
