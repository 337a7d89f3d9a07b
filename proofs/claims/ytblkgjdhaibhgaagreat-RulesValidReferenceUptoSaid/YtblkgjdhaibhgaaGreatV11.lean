/-
  Lemmas and walks that the claim rests on, part 11 (packed by a program).
-/
import Derived.Test.YtblkgjdhaibhgaaGreatV8
import Derived.Test.YtblkgjdhaibhgaaGreatV3
import Derived.Test.YtblkgjdhaibhgaaGreatV6
import Derived.Test.YtblkgjdhaibhgaaGreatV10
namespace Go.Proofs.YtblkgjdhaibhgaaGreat
open Go.RowKit
set_option maxRecDepth 100000 in
set_option maxHeartbeats 2000000 in
theorem rEqualPats_c (p:Pt):∀(q:Pt) (w:World) (F G:Nat→Prop) (KA KC:Option Addr) (kc kd:Nat),PtK w F p KA kc→PtK w G q KC kd→p.size≤1000000000000 →
  Calls Tryz.prog 57 #[pv p KA kc,pv q KC kd] w fun e w'=>e=.returned (.bool (ptE p q))∧Upd Non w w':=by
 induction p using Pt.ind with
 | h p ih =>
  intro q w F G KA KC kc kd hp hq hs;have hse:=Pt.size_eq p;have hle:=Pt.len_le p.kids;have HI:=h_ ih;have HE:=h_ (ptE_eq p q);obtain ⟨res,Hres⟩:=nm (ptE p q);rw [Hres.out] at HE ⊢;obtain ⟨W1,HW1⟩:=nm (w.alloc (.cells #[.int .i64 p.v,.int .i64 p.op,.int .i64 p.imm,.int .i64 p.iv,.slice KA p.kids.length kc] 40));have u1:Upd Non w W1:=by rw [←HW1.out];exact Upd.refl.alloc _
  have b1:Blk W1 w.heap.size 40 #[.int .i64 p.v,.int .i64 p.op,.int .i64 p.imm,.int .i64 p.iv,.slice KA p.kids.length kc]:=by rw [←HW1.out];exact Blk.new _ _ _
  have s1:W1.heap.size=w.heap.size+1:=by rw [←HW1.out];simp
  obtain ⟨W2,HW2⟩:=nm (W1.alloc (.cells #[.int .i64 q.v,.int .i64 q.op,.int .i64 q.imm,.int .i64 q.iv,.slice KC q.kids.length kd] 40));have u2:Upd Non W1 W2:=by rw [←HW2.out];exact Upd.refl.alloc _
  have b2:Blk W2 (w.heap.size+1) 40 #[.int .i64 q.v,.int .i64 q.op,.int .i64 q.imm,.int .i64 q.iv,.slice KC q.kids.length kd]:=by rw [←HW2.out,←s1];exact Blk.new _ _ _
  have b1:=b1.upd u2 (fun f=>f);have U2:=u1.then_non u2;have e1:=HW1.out;have e2:=HW2.out;have HB1:=h_ b1;have HB2:=h_ b2;have HU:=h_ U2;have HP:=h_ (PtK.upd U2 (fun _ _ _ f=>f) p KA kc hp);have HQ:=h_ (PtK.upd U2 (fun _ _ _ f=>f) q KC kd hq);have c0:=b1.cell 0;have c1:=b1.cell 1;have c2:=b1.cell 2;have c3:=b1.cell 3;have c4:=b1.cell 4;have d0:=b2.cell 0;have d1:=b2.cell 1;have d2:=b2.cell 2;have d3:=b2.cell 3;have d4:=b2.cell 4;unfold pv;clear ih hp hq u1 u2 b1 b2 U2 HW1 HW2;have HV:Hid ((p.v != q.v)=!decide (p.v=q.v)):=by show _=_;by_cases h:p.v=q.v <;> simp [h]
  obtain ⟨pn,Hpn⟩:=nm p.kids.length;obtain ⟨qn,Hqn⟩:=nm q.kids.length;rw [Hpn.out] at c4 e1 hle HE;rw [Hqn.out] at d4 e2 HE;rw [Hpn.out,Hqn.out];by_cases h1:p.v=q.v
  ·by_cases h2:p.op=q.op
   ·by_cases h3:p.imm=q.imm
    ·by_cases h4:p.iv=q.iv
     ·by_cases h5:pn=qn
      ·have t1:(p.v != q.v)=false:=by simpa using h1
       have t2:(p.op != q.op)=false:=by simpa using h2
       have t3:(p.imm != q.imm)=false:=by simpa using h3
       have t4:(p.iv != q.iv)=false:=by simpa using h4
       have t5:((pn:Int) != (qn:Int))=false:=by simp [h5]
       have HR:Hid (res=ptEL p.kids q.kids):=by show _=_;rw [HE.out,dT_ ⟨h1,h2,h3,h4,h5⟩,Bool.true_and]
       clear h1 h2 h3 h4;subst h5;obtain ⟨n,rfl⟩:∃m,m=pn:=⟨_,rfl⟩;have hn12:n≤1000000000000:=by omega
       go_enter Tryz.func57,Tryz.ntmps57;go_wp2_with fail
       clear e1 e2 c0 c1 c2 c3 d0 d1 d2 d3 t1 t2 t3 t4 t5
       go_loopg [5,44] n (fun g _ iv wr=>∃k:Nat,Hid (g=n - k)∧k≤n∧iv=.int .i64 k∧Hid (∀i (h:i<p.kids.length) (h2:i<q.kids.length),i<k→ptE p.kids[i] q.kids[i]=true)∧Hid (Upd Non W2 wr))
       case atStart=>exact ⟨0,rfl,Nat.zero_le _,rfl,fun i _ _ h=>by omega,Upd.refl⟩
       case round =>
        obtain ⟨k,Hg,hk,rfl,HA,Hu⟩:=hrel;have c4:=u_ c4 Hu.out (fun f=>f);have d4:=u_ d4 Hu.out (fun f=>f);by_cases hlt:k<n
        ·have hkl:k<p.kids.length:=by rw [Hpn.out];exact hlt
         have hkq:k<q.kids.length:=by rw [Hqn.out];exact hlt
         obtain ⟨b,o,rfl,hF,hbw,KB,c1_,g0,g1,g2,g3,g4,g5⟩:=(PtK.upd Hu.out (fun _ _ _ f=>f) p KA kc HP.out).at_ hkl;obtain ⟨b2,o2,rfl,hG,hbw2,KZ,c2_,k0,k1,k2,k3,k4,k5⟩:=(PtK.upd Hu.out (fun _ _ _ f=>f) q KC kd HQ.out).at_ hkq;have hks:p.kids[k].size≤1000000000000:=by have:=Pt.kids_lt (List.getElem_mem hkl);omega
         have HNX:Hid (ptE p.kids[k] q.kids[k]=false→res=false):=fun h=>by rw [HR.out];exact ptEL_no hkl hkq h
         have HNY:Hid (ptE p.kids[k] q.kids[k]=true→∀i (h:i<p.kids.length) (h2:i<q.kids.length),i<k+1→ptE p.kids[i] q.kids[i]=true):=fun h i h1 h2 h3=>by
          by_cases e:i=k
          ·subst e;exact h
          ·exact HA.out i h1 h2 (by omega)
         have CR:=h_ (fun W (u:Upd Non wr W)=>HI.out _ (List.getElem_mem hkl) q.kids[k] W F G KB KZ c1_ c2_ (PtK.upd u (fun _ _ _ f=>f) _ _ _ g5) (PtK.upd u (fun _ _ _ f=>f) _ _ _ k5) hks)
         generalize p.kids[k]=x at *;generalize q.kids[k]=z at *;unfold pv at CR;obtain ⟨B,HB⟩:=nm (ptE x z);rw [HB.out] at CR;clear g5 k5 hks
         go_upto_region 6 with fail
         go_cut [58] (fun s wx=>s=.bool (!B)∧Upd Non wr wx)
         case first =>
          obtain ⟨wD,HwD⟩:=nm wr.drew;have uD:Upd Non wr wD:=by rw [←HwD.out];exact Upd.refl.drew
          refine wp_region_held_drew (S:=fun w'=>w'.cell? ⟨w.heap.size,4,none⟩=some (.slice (some ⟨b,o,none⟩) n kc)∧w'.cell? ⟨w.heap.size+1,4,none⟩=some (.slice (some ⟨b2,o2,none⟩) n kd)∧w'.cell? ⟨b,o+k * 5,none⟩=some (.int .i64 x.v)∧w'.cell? ⟨b,o+k * 5+1,none⟩=some (.int .i64 x.op)∧w'.cell? ⟨b,o+k * 5+2,none⟩=some (.int .i64 x.imm)∧w'.cell? ⟨b,o+k * 5+3,none⟩=some (.int .i64 x.iv)∧w'.cell? ⟨b,o+k * 5+4,none⟩=some (.slice KB x.kids.length c1_)∧w'.cell? ⟨b2,o2+k * 5,none⟩=some (.int .i64 z.v)∧w'.cell? ⟨b2,o2+k * 5+1,none⟩=some (.int .i64 z.op)∧w'.cell? ⟨b2,o2+k * 5+2,none⟩=some (.int .i64 z.imm)∧w'.cell? ⟨b2,o2+k * 5+3,none⟩=some (.int .i64 z.iv)∧w'.cell? ⟨b2,o2+k * 5+4,none⟩=some (.slice KZ z.kids.length c2_)) (by kernel_rfl) (by rw [HwD.out];exact ⟨u_ c4 uD (fun f=>f),u_ d4 uD (fun f=>f),u_ g0 uD (fun f=>f),u_ g1 uD (fun f=>f),u_ g2 uD (fun f=>f),u_ g3 uD (fun f=>f),u_ g4 uD (fun f=>f),u_ k0 uD (fun f=>f),u_ k1 uD (fun f=>f),u_ k2 uD (fun f=>f),u_ k3 uD (fun f=>f),u_ k4 uD (fun f=>f)⟩) (fun hHeld=>?_)
          rw [HwD.out] at hHeld ⊢;refine wpT 0 ?_;(try simp only [y_,z_]);refine wpT 1 ?_;(try simp only [y_,z_]);refine wpT 2 ?_;(try simp only [y_,z_]);refine wpT 3 ?_;(try simp only [y_,z_]);refine wpT 4 ?_;(try simp only [y_,z_]);refine wpT 5 ?_;(try simp only [y_,z_]);refine wpT 6 ?_;(try simp only [y_,z_]);refine wpT 7 ?_;(try simp only [y_,z_]);refine wpT 8 ?_;(try simp only [y_,z_]);refine wpT 9 ?_;(try simp only [y_,z_]);refine aR_ (rs:=[10]) (by kernel_rfl) (by simp) ?_;refine aC_ rfl (fun K hK=>?_) aN_;go_simp;refine (CR.out _ uD).mono ?_;rintro e w5 ⟨rfl,u5⟩;have h5:Upd Non wr w5:=uD.then_non u5;go_wp2_with fail
          refine hK.out _ _ ?_ (fun hHeld=>?_)
          ·exact ⟨u_ c4 h5 (fun f=>f),u_ d4 h5 (fun f=>f),u_ g0 h5 (fun f=>f),u_ g1 h5 (fun f=>f),u_ g2 h5 (fun f=>f),u_ g3 h5 (fun f=>f),u_ g4 h5 (fun f=>f),u_ k0 h5 (fun f=>f),u_ k1 h5 (fun f=>f),u_ k2 h5 (fun f=>f),u_ k3 h5 (fun f=>f),u_ k4 h5 (fun f=>f)⟩
          clear hK K;(try simp only [y_,z_]);refine wpT 11 ?_;(try simp only [y_,z_]);refine aD_ (by kernel_rfl) ?_ _;go_wp2_with fail
          go_meet
          case rel=>exact ⟨rfl,h5⟩
         case rest =>
          obtain ⟨rfl,hwc⟩:=hcut;have HUC:=h_ (Hu.out.then_non hwc);have c4:=u_ c4 hwc (fun f=>f);clear CR g0 g1 g2 g3 g4 k0 k1 k2 k3 k4 hwc
          cases B with
          | false =>
           have HF:Hid (res=false):=HNX.out HB.out;go_wp2_with fail
           go_ret;exact ⟨by rw [HF.out];rfl,HU.out.then_non HUC.out⟩
          | true =>
           have HA2:=h_ (HNY.out HB.out);go_wp2_with fail
           go_roundg (n - (k+1))
           case measure=>rw [Hg.out];omega
           case rel=>exact ⟨k+1,rfl,by omega,by go_num,HA2,HUC⟩
        ·obtain rfl:n=k:=by omega
         have HT:Hid (res=true):=by
          show _=_;rw [HR.out];exact ptEL_of fun i h1 h2=>HA.out i h1 h2 (by rw [←Hpn.out];exact h1)
         go_wp2_with fail
         go_ret;exact ⟨by rw [HT.out];rfl,HU.out.then_non Hu.out⟩
      ·have t1:(p.v != q.v)=false:=by simpa using h1
       have t2:(p.op != q.op)=false:=by simpa using h2
       have t3:(p.imm != q.imm)=false:=by simpa using h3
       have t4:(p.iv != q.iv)=false:=by simpa using h4
       have t5:((pn:Int) != (qn:Int))=true:=by simpa using fun e=>h5 (by omega)
       have HR:Hid (res=false):=by show _=_;rw [HE.out,dF_ (fun h=>h5 h.2.2.2.2),Bool.false_and]
       clear h1 h2 h3 h4 h5;go_enter Tryz.func57,Tryz.ntmps57;go_wp2_with fail
       go_ret;exact ⟨by rw [HR.out];rfl,HU.out⟩
     ·have t1:(p.v != q.v)=false:=by simpa using h1
      have t2:(p.op != q.op)=false:=by simpa using h2
      have t3:(p.imm != q.imm)=false:=by simpa using h3
      have t4:(p.iv != q.iv)=true:=by simpa using h4
      have HR:Hid (res=false):=by show _=_;rw [HE.out,dF_ (fun h=>h4 h.2.2.2.1),Bool.false_and]
      clear h1 h2 h3 h4;go_enter Tryz.func57,Tryz.ntmps57;go_wp2_with fail
      go_ret;exact ⟨by rw [HR.out];rfl,HU.out⟩
    ·have t1:(p.v != q.v)=false:=by simpa using h1
     have t2:(p.op != q.op)=false:=by simpa using h2
     have t3:(p.imm != q.imm)=true:=by simpa using h3
     have HR:Hid (res=false):=by show _=_;rw [HE.out,dF_ (fun h=>h3 h.2.2.1),Bool.false_and]
     clear h1 h2 h3;go_enter Tryz.func57,Tryz.ntmps57;go_wp2_with fail
     go_ret;exact ⟨by rw [HR.out];rfl,HU.out⟩
   ·have t1:(p.v != q.v)=false:=by simpa using h1
    have t2:(p.op != q.op)=true:=by simpa using h2
    have HR:Hid (res=false):=by show _=_;rw [HE.out,dF_ (fun h=>h2 h.2.1),Bool.false_and]
    clear h1 h2;go_enter Tryz.func57,Tryz.ntmps57;go_wp2_with fail
    go_ret;exact ⟨by rw [HR.out];rfl,HU.out⟩
  ·have t1:(p.v != q.v)=true:=by simpa using h1
   have HR:Hid (res=false):=by show _=_;rw [HE.out,dF_ (fun h=>h1 h.1),Bool.false_and]
   clear h1;go_enter Tryz.func57,Tryz.ntmps57;go_wp2_with fail
   go_ret;exact ⟨by rw [HR.out];rfl,HU.out⟩
set_option maxRecDepth 100000 in
set_option maxHeartbeats 2000000 in
theorem samePattern_c (p:Pt):∀(q:Pt) (w:World) (F G:Nat→Prop) (KA KC:Option Addr) (kc kd:Nat),PtK w F p KA kc→PtK w G q KC kd→p.size≤1000000000000 →
  Calls Tryz.prog 43 #[pv p KA kc,pv q KC kd] w fun e w'=>e=.returned (.bool (ptE p q))∧Upd Non w w':=by
 induction p using Pt.ind with
 | h p ih =>
  intro q w F G KA KC kc kd hp hq hs;have hse:=Pt.size_eq p;have hle:=Pt.len_le p.kids;have HI:=h_ ih;have HE:=h_ (ptE_eq p q);obtain ⟨res,Hres⟩:=nm (ptE p q);rw [Hres.out] at HE ⊢;obtain ⟨W1,HW1⟩:=nm (w.alloc (.cells #[.int .i64 p.v,.int .i64 p.op,.int .i64 p.imm,.int .i64 p.iv,.slice KA p.kids.length kc] 40));have u1:Upd Non w W1:=by rw [←HW1.out];exact Upd.refl.alloc _
  have b1:Blk W1 w.heap.size 40 #[.int .i64 p.v,.int .i64 p.op,.int .i64 p.imm,.int .i64 p.iv,.slice KA p.kids.length kc]:=by rw [←HW1.out];exact Blk.new _ _ _
  have s1:W1.heap.size=w.heap.size+1:=by rw [←HW1.out];simp
  obtain ⟨W2,HW2⟩:=nm (W1.alloc (.cells #[.int .i64 q.v,.int .i64 q.op,.int .i64 q.imm,.int .i64 q.iv,.slice KC q.kids.length kd] 40));have u2:Upd Non W1 W2:=by rw [←HW2.out];exact Upd.refl.alloc _
  have b2:Blk W2 (w.heap.size+1) 40 #[.int .i64 q.v,.int .i64 q.op,.int .i64 q.imm,.int .i64 q.iv,.slice KC q.kids.length kd]:=by rw [←HW2.out,←s1];exact Blk.new _ _ _
  have b1:=b1.upd u2 (fun f=>f);have U2:=u1.then_non u2;have e1:=HW1.out;have e2:=HW2.out;have HB1:=h_ b1;have HB2:=h_ b2;have HU:=h_ U2;have HP:=h_ (PtK.upd U2 (fun _ _ _ f=>f) p KA kc hp);have HQ:=h_ (PtK.upd U2 (fun _ _ _ f=>f) q KC kd hq);have c0:=b1.cell 0;have c1:=b1.cell 1;have c2:=b1.cell 2;have c3:=b1.cell 3;have c4:=b1.cell 4;have d0:=b2.cell 0;have d1:=b2.cell 1;have d2:=b2.cell 2;have d3:=b2.cell 3;have d4:=b2.cell 4;unfold pv;clear ih hp hq u1 u2 b1 b2 U2 HW1 HW2;have HV:Hid ((p.v != q.v)=!decide (p.v=q.v)):=by show _=_;by_cases h:p.v=q.v <;> simp [h]
  obtain ⟨pn,Hpn⟩:=nm p.kids.length;obtain ⟨qn,Hqn⟩:=nm q.kids.length;rw [Hpn.out] at c4 e1 hle HE;rw [Hqn.out] at d4 e2 HE;rw [Hpn.out,Hqn.out];by_cases h1:p.v=q.v
  ·by_cases h2:p.op=q.op
   ·by_cases h3:p.imm=q.imm
    ·by_cases h4:p.iv=q.iv
     ·by_cases h5:pn=qn
      ·have t1:(p.v != q.v)=false:=by simpa using h1
       have t2:(p.op != q.op)=false:=by simpa using h2
       have t3:(p.imm != q.imm)=false:=by simpa using h3
       have t4:(p.iv != q.iv)=false:=by simpa using h4
       have t5:((pn:Int) != (qn:Int))=false:=by simp [h5]
       have HR:Hid (res=ptEL p.kids q.kids):=by show _=_;rw [HE.out,dT_ ⟨h1,h2,h3,h4,h5⟩,Bool.true_and]
       clear h1 h2 h3 h4;subst h5;obtain ⟨n,rfl⟩:∃m,m=pn:=⟨_,rfl⟩;have hn12:n≤1000000000000:=by omega
       go_enter Tryz.func43,Tryz.ntmps43;go_wp2_with fail
       clear e1 e2 c0 c1 c2 c3 d0 d1 d2 d3 t1 t2 t3 t4 t5
       go_loopg [5] n (fun g  iv wr=>∃k:Nat,Hid (g=n - k)∧k≤n∧iv=.int .i64 k∧Hid (∀i (h:i<p.kids.length) (h2:i<q.kids.length),i<k→ptE p.kids[i] q.kids[i]=true)∧Hid (Upd Non W2 wr))
       case atStart=>exact ⟨0,rfl,Nat.zero_le _,rfl,fun i _ _ h=>by omega,Upd.refl⟩
       case round =>
        obtain ⟨k,Hg,hk,rfl,HA,Hu⟩:=hrel;have c4:=u_ c4 Hu.out (fun f=>f);have d4:=u_ d4 Hu.out (fun f=>f);by_cases hlt:k<n
        ·have hkl:k<p.kids.length:=by rw [Hpn.out];exact hlt
         have hkq:k<q.kids.length:=by rw [Hqn.out];exact hlt
         obtain ⟨b,o,rfl,hF,hbw,KB,c1_,g0,g1,g2,g3,g4,g5⟩:=(PtK.upd Hu.out (fun _ _ _ f=>f) p KA kc HP.out).at_ hkl;obtain ⟨b2,o2,rfl,hG,hbw2,KZ,c2_,k0,k1,k2,k3,k4,k5⟩:=(PtK.upd Hu.out (fun _ _ _ f=>f) q KC kd HQ.out).at_ hkq;have hks:p.kids[k].size≤1000000000000:=by have:=Pt.kids_lt (List.getElem_mem hkl);omega
         have HNX:Hid (ptE p.kids[k] q.kids[k]=false→res=false):=fun h=>by rw [HR.out];exact ptEL_no hkl hkq h
         have HNY:Hid (ptE p.kids[k] q.kids[k]=true→∀i (h:i<p.kids.length) (h2:i<q.kids.length),i<k+1→ptE p.kids[i] q.kids[i]=true):=fun h i h1 h2 h3=>by
          by_cases e:i=k
          ·subst e;exact h
          ·exact HA.out i h1 h2 (by omega)
         have CR:=h_ (fun W (u:Upd Non wr W)=>HI.out _ (List.getElem_mem hkl) q.kids[k] W F G KB KZ c1_ c2_ (PtK.upd u (fun _ _ _ f=>f) _ _ _ g5) (PtK.upd u (fun _ _ _ f=>f) _ _ _ k5) hks)
         generalize p.kids[k]=x at *;generalize q.kids[k]=z at *;unfold pv at CR;obtain ⟨B,HB⟩:=nm (ptE x z);rw [HB.out] at CR;clear g5 k5 hks
         go_upto_region 6 with fail
         go_cut [59] (fun s wx=>s=.bool (!B)∧Upd Non wr wx)
         case first =>
          obtain ⟨wD,HwD⟩:=nm wr.drew;have uD:Upd Non wr wD:=by rw [←HwD.out];exact Upd.refl.drew
          refine wp_region_held_drew (S:=fun w'=>w'.cell? ⟨w.heap.size,4,none⟩=some (.slice (some ⟨b,o,none⟩) n kc)∧w'.cell? ⟨w.heap.size+1,4,none⟩=some (.slice (some ⟨b2,o2,none⟩) n kd)∧w'.cell? ⟨b,o+k * 5,none⟩=some (.int .i64 x.v)∧w'.cell? ⟨b,o+k * 5+1,none⟩=some (.int .i64 x.op)∧w'.cell? ⟨b,o+k * 5+2,none⟩=some (.int .i64 x.imm)∧w'.cell? ⟨b,o+k * 5+3,none⟩=some (.int .i64 x.iv)∧w'.cell? ⟨b,o+k * 5+4,none⟩=some (.slice KB x.kids.length c1_)∧w'.cell? ⟨b2,o2+k * 5,none⟩=some (.int .i64 z.v)∧w'.cell? ⟨b2,o2+k * 5+1,none⟩=some (.int .i64 z.op)∧w'.cell? ⟨b2,o2+k * 5+2,none⟩=some (.int .i64 z.imm)∧w'.cell? ⟨b2,o2+k * 5+3,none⟩=some (.int .i64 z.iv)∧w'.cell? ⟨b2,o2+k * 5+4,none⟩=some (.slice KZ z.kids.length c2_)) (by kernel_rfl) (by rw [HwD.out];exact ⟨u_ c4 uD (fun f=>f),u_ d4 uD (fun f=>f),u_ g0 uD (fun f=>f),u_ g1 uD (fun f=>f),u_ g2 uD (fun f=>f),u_ g3 uD (fun f=>f),u_ g4 uD (fun f=>f),u_ k0 uD (fun f=>f),u_ k1 uD (fun f=>f),u_ k2 uD (fun f=>f),u_ k3 uD (fun f=>f),u_ k4 uD (fun f=>f)⟩) (fun hHeld=>?_)
          rw [HwD.out] at hHeld ⊢;refine wpT 0 ?_;(try simp only [y_,z_]);refine wpT 1 ?_;(try simp only [y_,z_]);refine wpT 2 ?_;(try simp only [y_,z_]);refine wpT 3 ?_;(try simp only [y_,z_]);refine wpT 4 ?_;(try simp only [y_,z_]);refine wpT 5 ?_;(try simp only [y_,z_]);refine wpT 6 ?_;(try simp only [y_,z_]);refine wpT 7 ?_;(try simp only [y_,z_]);refine wpT 8 ?_;(try simp only [y_,z_]);refine wpT 9 ?_;(try simp only [y_,z_]);refine aR_ (rs:=[10]) (by kernel_rfl) (by simp) ?_;refine aC_ rfl (fun K hK=>?_) aN_;go_simp;refine (CR.out _ uD).mono ?_;rintro e w5 ⟨rfl,u5⟩;have h5:Upd Non wr w5:=uD.then_non u5;go_wp2_with fail
          refine hK.out _ _ ?_ (fun hHeld=>?_)
          ·exact ⟨u_ c4 h5 (fun f=>f),u_ d4 h5 (fun f=>f),u_ g0 h5 (fun f=>f),u_ g1 h5 (fun f=>f),u_ g2 h5 (fun f=>f),u_ g3 h5 (fun f=>f),u_ g4 h5 (fun f=>f),u_ k0 h5 (fun f=>f),u_ k1 h5 (fun f=>f),u_ k2 h5 (fun f=>f),u_ k3 h5 (fun f=>f),u_ k4 h5 (fun f=>f)⟩
          clear hK K;(try simp only [y_,z_]);refine wpT 11 ?_;(try simp only [y_,z_]);refine aD_ (by kernel_rfl) ?_ _;go_wp2_with fail
          go_meet
          case rel=>exact ⟨rfl,h5⟩
         case rest =>
          obtain ⟨rfl,hwc⟩:=hcut;have HUC:=h_ (Hu.out.then_non hwc);have c4:=u_ c4 hwc (fun f=>f);clear CR g0 g1 g2 g3 g4 k0 k1 k2 k3 k4 hwc
          cases B with
          | false =>
           have HF:Hid (res=false):=HNX.out HB.out;go_wp2_with fail
           go_ret;exact ⟨by rw [HF.out];rfl,HU.out.then_non HUC.out⟩
          | true =>
           have HA2:=h_ (HNY.out HB.out);go_wp2_with fail
           go_roundg (n - (k+1))
           case measure=>rw [Hg.out];omega
           case rel=>exact ⟨k+1,rfl,by omega,by go_num,HA2,HUC⟩
        ·obtain rfl:n=k:=by omega
         have HT:Hid (res=true):=by
          show _=_;rw [HR.out];exact ptEL_of fun i h1 h2=>HA.out i h1 h2 (by rw [←Hpn.out];exact h1)
         go_wp2_with fail
         go_ret;exact ⟨by rw [HT.out];rfl,HU.out.then_non Hu.out⟩
      ·have t1:(p.v != q.v)=false:=by simpa using h1
       have t2:(p.op != q.op)=false:=by simpa using h2
       have t3:(p.imm != q.imm)=false:=by simpa using h3
       have t4:(p.iv != q.iv)=false:=by simpa using h4
       have t5:((pn:Int) != (qn:Int))=true:=by simpa using fun e=>h5 (by omega)
       have HR:Hid (res=false):=by show _=_;rw [HE.out,dF_ (fun h=>h5 h.2.2.2.2),Bool.false_and]
       clear h1 h2 h3 h4 h5;go_enter Tryz.func43,Tryz.ntmps43;go_wp2_with fail
       go_ret;exact ⟨by rw [HR.out];rfl,HU.out⟩
     ·have t1:(p.v != q.v)=false:=by simpa using h1
      have t2:(p.op != q.op)=false:=by simpa using h2
      have t3:(p.imm != q.imm)=false:=by simpa using h3
      have t4:(p.iv != q.iv)=true:=by simpa using h4
      have HR:Hid (res=false):=by show _=_;rw [HE.out,dF_ (fun h=>h4 h.2.2.2.1),Bool.false_and]
      clear h1 h2 h3 h4;go_enter Tryz.func43,Tryz.ntmps43;go_wp2_with fail
      go_ret;exact ⟨by rw [HR.out];rfl,HU.out⟩
    ·have t1:(p.v != q.v)=false:=by simpa using h1
     have t2:(p.op != q.op)=false:=by simpa using h2
     have t3:(p.imm != q.imm)=true:=by simpa using h3
     have HR:Hid (res=false):=by show _=_;rw [HE.out,dF_ (fun h=>h3 h.2.2.1),Bool.false_and]
     clear h1 h2 h3;go_enter Tryz.func43,Tryz.ntmps43;go_wp2_with fail
     go_ret;exact ⟨by rw [HR.out];rfl,HU.out⟩
   ·have t1:(p.v != q.v)=false:=by simpa using h1
    have t2:(p.op != q.op)=true:=by simpa using h2
    have HR:Hid (res=false):=by show _=_;rw [HE.out,dF_ (fun h=>h2 h.2.1),Bool.false_and]
    clear h1 h2;go_enter Tryz.func43,Tryz.ntmps43;go_wp2_with fail
    go_ret;exact ⟨by rw [HR.out];rfl,HU.out⟩
  ·have t1:(p.v != q.v)=true:=by simpa using h1
   have HR:Hid (res=false):=by show _=_;rw [HE.out,dF_ (fun h=>h1 h.1),Bool.false_and]
   clear h1;go_enter Tryz.func43,Tryz.ntmps43;go_wp2_with fail
   go_ret;exact ⟨by rw [HR.out];rfl,HU.out⟩
set_option maxRecDepth 100000 in
set_option maxHeartbeats 2000000 in
theorem rEqual_c (r:Rl) (a:RlA) (s:Rl) (e:RlA) (w:World) (F G:Nat→Prop) (hr:RlK w F r a) (hs:RlK w G s e) (hz:RlSz r) :
  Calls Tryz.prog 25 #[rlv r a,rlv s e] w fun en w'=>en=.returned (.bool (rlE r s))∧Upd Non w w':=by
 have HE:Hid (rlE r s=(decide (r.vars=s.vars∧r.imms=s.imms∧r.conds.length=s.conds.length)&&ptE r.l s.l&&ptE r.r s.r&&decide (r.conds=s.conds))):=rfl
 obtain ⟨res,Hres⟩:=nm (rlE r s);rw [Hres.out] at HE ⊢;obtain ⟨W1,HW1⟩:=nm (w.alloc (.cells (rlCells r a) 43));have u1:Upd Non w W1:=by rw [←HW1.out];exact Upd.refl.alloc _
 have b1:Blk W1 w.heap.size 43 (rlCells r a):=by rw [←HW1.out];exact Blk.new _ _ _
 have s1:W1.heap.size=w.heap.size+1:=by rw [←HW1.out];simp
 obtain ⟨W2,HW2⟩:=nm (W1.alloc (.cells (rlCells s e) 43));have u2:Upd Non W1 W2:=by rw [←HW2.out];exact Upd.refl.alloc _
 have b2:Blk W2 (w.heap.size+1) 43 (rlCells s e):=by rw [←HW2.out,←s1];exact Blk.new _ _ _
 have b1:=b1.upd u2 (fun f=>f);have U2:=u1.then_non u2;have e1:=HW1.out;have e2:=HW2.out;have HU:=h_ U2;have HKR:=h_ (hr.upd U2 (fun _ _ _ f=>f));have HKS:=h_ (hs.upd U2 (fun _ _ _ f=>f));have HB1:=h_ b1;have HB2:=h_ b2;have hb1:=b1;have hb2:=b2;unfold rlCells at hb1 hb2 e1 e2;have c1:=hb1.cell 1;have c2:=hb1.cell 2;have c3:=hb1.cell 3;have c4:=hb1.cell 4;have c5:=hb1.cell 5;have c6:=hb1.cell 6;have c7:=hb1.cell 7;have c8:=hb1.cell 8;have c9:=hb1.cell 9;have c10:=hb1.cell 10;have c11:=hb1.cell 11;have c12:=hb1.cell 12;have c13:=hb1.cell 13;have d1:=hb2.cell 1;have d2:=hb2.cell 2;have d3:=hb2.cell 3;have d4:=hb2.cell 4;have d5:=hb2.cell 5;have d6:=hb2.cell 6;have d7:=hb2.cell 7;have d8:=hb2.cell 8;have d9:=hb2.cell 9;have d10:=hb2.cell 10;have d11:=hb2.cell 11;have d12:=hb2.cell 12;have d13:=hb2.cell 13;have CL:=h_ (fun W (u:Upd Non W2 W)=>rEqualPats_c r.l s.l W F G a.la e.la a.lc e.lc (PtK.upd u (fun _ _ _ f=>f) _ _ _ HKR.out.l) (PtK.upd u (fun _ _ _ f=>f) _ _ _ HKS.out.l) hz.l)
 have CR:=h_ (fun W (u:Upd Non W2 W)=>rEqualPats_c r.r s.r W F G a.ra e.ra a.rc e.rc (PtK.upd u (fun _ _ _ f=>f) _ _ _ HKR.out.r) (PtK.upd u (fun _ _ _ f=>f) _ _ _ HKS.out.r) hz.r)
 unfold pv at CL CR;unfold rlv rlCells;have hcz:=hz.c;obtain ⟨pn,Hpn⟩:=nm r.conds.length;obtain ⟨qn,Hqn⟩:=nm s.conds.length;rw [Hpn.out] at c11 e1 HE hcz;rw [Hqn.out] at d11 e2 HE;rw [Hpn.out,Hqn.out];obtain ⟨B1,HB1_⟩:=nm (ptE r.l s.l);obtain ⟨B2,HB2_⟩:=nm (ptE r.r s.r);rw [HB1_.out] at CL HE;rw [HB2_.out] at CR HE;clear hr hs u1 u2 b1 b2 U2 HW1 HW2 hb1 hb2 hz;by_cases h1:r.vars=s.vars
 ·by_cases h2:r.imms=s.imms
  ·by_cases h3:pn=qn
   ·have t1:(r.vars != s.vars)=false:=by simpa using h1
    have t2:(r.imms != s.imms)=false:=by simpa using h2
    have t3:((pn:Int) != (qn:Int))=false:=by simp [h3]
    rw [dT_ ⟨h1,h2,h3⟩,Bool.true_and] at HE;clear h1 h2;subst h3;obtain ⟨n,rfl⟩:∃m,m=pn:=⟨_,rfl⟩;go_enter Tryz.func25,Tryz.ntmps25;go_wp2_with fail
    refine (CL.out _ Upd.refl).mono ?_;rintro en w3 ⟨rfl,u3⟩;clear CL e1 e2
    cases B1 with
    | false =>
     have HF:Hid (res=false):=by show _=_;rw [HE.out];rfl
     go_wp2_with fail
     go_ret;exact ⟨by rw [HF.out];rfl,HU.out.then_non u3⟩
    | true =>
     have c6:=u_ c6 u3 (fun f=>f);have c7:=u_ c7 u3 (fun f=>f);have c8:=u_ c8 u3 (fun f=>f);have c9:=u_ c9 u3 (fun f=>f);have c10:=u_ c10 u3 (fun f=>f);have c11:=u_ c11 u3 (fun f=>f);have d6:=u_ d6 u3 (fun f=>f);have d7:=u_ d7 u3 (fun f=>f);have d8:=u_ d8 u3 (fun f=>f);have d9:=u_ d9 u3 (fun f=>f);have d10:=u_ d10 u3 (fun f=>f);have d11:=u_ d11 u3 (fun f=>f);go_wp2_with fail
     refine (CR.out _ u3).mono ?_;rintro en w4 ⟨rfl,u4⟩;clear CR;have U4:Upd Non W2 w4:=u3.then_non u4
     cases B2 with
     | false =>
      have HF:Hid (res=false):=by show _=_;rw [HE.out];rfl
      go_wp2_with fail
      go_ret;exact ⟨by rw [HF.out];rfl,HU.out.then_non U4⟩
     | true =>
      have HD:Hid (res=decide (r.conds=s.conds)):=by show _=_;rw [HE.out];rfl
      have c11:=u_ c11 u4 (fun f=>f);have d11:=u_ d11 u4 (fun f=>f);have HU4:=h_ U4;clear t1 t2 t3 U4 c1 c2 c3 c4 c5 c6 c7 c8 c9 c10 c12 c13 d1 d2 d3 d4 d5 d6 d7 d8 d9 d10 d12 d13;go_wp2_with fail
      go_loopg [5,46] n (fun g _ iv wr=>∃k:Nat,Hid (g=n - k)∧k≤n∧iv=.int .i64 k∧Hid (r.conds.take k=s.conds.take k)∧Hid (Upd Non w4 wr))
      case atStart=>exact ⟨0,rfl,Nat.zero_le _,rfl,by show _=_;simp,Upd.refl⟩
      case round =>
       obtain ⟨k,Hg,hk,rfl,HA,Hu⟩:=hrel;have c11:=u_ c11 Hu.out (fun f=>f);have d11:=u_ d11 Hu.out (fun f=>f);have HUW:=h_ (HU4.out.then_non Hu.out);by_cases hlt:k<n
       ·have hkl:k<r.conds.length:=by rw [Hpn.out];exact hlt
        have hkq:k<s.conds.length:=by rw [Hqn.out];exact hlt
        have hta:=(HKR.out.c.upd HUW.out (fun _ _ _ f=>f)).take hkl;have htb:=(HKS.out.c.upd HUW.out (fun _ _ _ f=>f)).take hkq
        have HNX:Hid (¬r.conds[k]=s.conds[k]→res=false):=fun h=>by
         rw [HD.out];refine dF_ (fun q=>h ?_);simp only [q]
        have HNY:Hid (r.conds[k]=s.conds[k]→r.conds.take (k+1)=s.conds.take (k+1)):=fun h=>by rw [take_snoc' hkl,take_snoc' hkq,HA.out,h]
        generalize r.conds[k]=x at *;generalize s.conds[k]=z at *;obtain ⟨ca,Hca⟩:=nm a.ca;obtain ⟨ce,Hce⟩:=nm e.ca;rw [Hca.out] at hta c11;rw [Hce.out] at htb d11;obtain ⟨b,o,rfl,hbw,g0,g1,g2,g3⟩:=hta;obtain ⟨b2,o2,rfl,hbw2,k0,k1,k2,k3⟩:=htb
        go_upto_region 6 with fail
        go_cut [59] (fun s wx=>s=.bool (!decide (x=z))∧Upd Non wr wx)
        case first =>
         obtain ⟨wD,HwD⟩:=nm wr.drew;have uD:Upd Non wr wD:=by rw [←HwD.out];exact Upd.refl.drew
         refine wp_region_held_drew (S:=fun w'=>w'.cell? ⟨w.heap.size,11,none⟩=some (.slice (some ⟨b,o,none⟩) n a.cc)∧w'.cell? ⟨w.heap.size+1,11,none⟩=some (.slice (some ⟨b2,o2,none⟩) n e.cc)∧w'.cell? ⟨b,o+k * 4,none⟩=some (.int .i64 x.kind)∧w'.cell? ⟨b,o+k * 4+1,none⟩=some (.int .i64 x.a)∧w'.cell? ⟨b,o+k * 4+2,none⟩=some (.int .i64 x.b)∧w'.cell? ⟨b,o+k * 4+3,none⟩=some (.int .i64 x.n)∧w'.cell? ⟨b2,o2+k * 4,none⟩=some (.int .i64 z.kind)∧w'.cell? ⟨b2,o2+k * 4+1,none⟩=some (.int .i64 z.a)∧w'.cell? ⟨b2,o2+k * 4+2,none⟩=some (.int .i64 z.b)∧w'.cell? ⟨b2,o2+k * 4+3,none⟩=some (.int .i64 z.n)) (by kernel_rfl) (by rw [HwD.out];exact ⟨u_ c11 uD (fun f=>f),u_ d11 uD (fun f=>f),u_ g0 uD (fun f=>f),u_ g1 uD (fun f=>f),u_ g2 uD (fun f=>f),u_ g3 uD (fun f=>f),u_ k0 uD (fun f=>f),u_ k1 uD (fun f=>f),u_ k2 uD (fun f=>f),u_ k3 uD (fun f=>f)⟩) (fun hHeld=>?_)
         rw [HwD.out] at hHeld ⊢
         have HXZ:Hid (x=z↔x.kind=z.kind∧x.a=z.a∧x.b=z.b∧x.n=z.n):=by
          show _↔_;cases x;cases z;simp
         by_cases q0:x.kind=z.kind
         ·by_cases q1:x.a=z.a
          ·by_cases q2:x.b=z.b
           ·by_cases q3:x.n=z.n
            ·have HDC:Hid (decide (x=z)=true):=dT_ (HXZ.out.2 ⟨q0,q1,q2,q3⟩);refine wpT 0 ?_;(try simp only [y_,z_]);refine wpT 1 ?_;(try simp only [y_,z_]);refine wpT 2 ?_;(try simp only [y_,z_]);refine wpT 3 ?_;(try simp only [y_,z_]);refine wpT 4 ?_;(try simp only [y_,z_]);refine wpT 5 ?_;(try simp only [y_,z_]);refine wpT 6 ?_;(try simp only [y_,z_]);refine wpT 7 ?_;(try simp only [y_,z_]);refine wpT 8 ?_;(try simp only [y_,z_]);refine wpT 9 ?_;(try simp only [y_,z_]);refine wpT 10 ?_;(try simp only [y_,z_]);refine aD_ (by kernel_rfl) ?_ _;go_wp2_with fail
             go_meet
             case rel=>exact ⟨by rw [HDC.out];rfl,uD⟩
            ·have HDC:Hid (decide (x=z)=false):=dF_ (fun h=>q3 (HXZ.out.1 h).2.2.2);refine wpT 0 ?_;(try simp only [y_,z_]);refine wpT 1 ?_;(try simp only [y_,z_]);refine wpT 2 ?_;(try simp only [y_,z_]);refine wpT 3 ?_;(try simp only [y_,z_]);refine wpT 4 ?_;(try simp only [y_,z_]);refine wpT 5 ?_;(try simp only [y_,z_]);refine wpT 6 ?_;(try simp only [y_,z_]);refine wpT 7 ?_;(try simp only [y_,z_]);refine wpT 8 ?_;(try simp only [y_,z_]);refine wpT 9 ?_;(try simp only [y_,z_]);refine wpT 10 ?_;(try simp only [y_,z_]);refine aD_ (by kernel_rfl) ?_ _;go_wp2_with fail
             go_meet
             case rel=>exact ⟨by rw [HDC.out];rfl,uD⟩
           ·have HDC:Hid (decide (x=z)=false):=dF_ (fun h=>q2 (HXZ.out.1 h).2.2.1);refine wpT 0 ?_;(try simp only [y_,z_]);refine wpT 1 ?_;(try simp only [y_,z_]);refine wpT 2 ?_;(try simp only [y_,z_]);refine wpT 3 ?_;(try simp only [y_,z_]);refine wpT 4 ?_;(try simp only [y_,z_]);refine wpT 5 ?_;(try simp only [y_,z_]);refine wpT 6 ?_;(try simp only [y_,z_]);refine wpT 7 ?_;(try simp only [y_,z_]);refine wpT 8 ?_;(try simp only [y_,z_]);refine wpT 9 ?_;(try simp only [y_,z_]);refine wpT 10 ?_;(try simp only [y_,z_]);refine aD_ (by kernel_rfl) ?_ _;go_wp2_with fail
            go_meet
            case rel=>exact ⟨by rw [HDC.out];rfl,uD⟩
          ·have HDC:Hid (decide (x=z)=false):=dF_ (fun h=>q1 (HXZ.out.1 h).2.1);refine wpT 0 ?_;(try simp only [y_,z_]);refine wpT 1 ?_;(try simp only [y_,z_]);refine wpT 2 ?_;(try simp only [y_,z_]);refine wpT 3 ?_;(try simp only [y_,z_]);refine wpT 4 ?_;(try simp only [y_,z_]);refine wpT 5 ?_;(try simp only [y_,z_]);refine wpT 6 ?_;(try simp only [y_,z_]);refine wpT 7 ?_;(try simp only [y_,z_]);refine wpT 8 ?_;(try simp only [y_,z_]);refine wpT 9 ?_;(try simp only [y_,z_]);refine wpT 10 ?_;(try simp only [y_,z_]);refine aD_ (by kernel_rfl) ?_ _;go_wp2_with fail
           go_meet
           case rel=>exact ⟨by rw [HDC.out];rfl,uD⟩
         ·have HDC:Hid (decide (x=z)=false):=dF_ (fun h=>q0 (HXZ.out.1 h).1);refine wpT 0 ?_;(try simp only [y_,z_]);refine wpT 1 ?_;(try simp only [y_,z_]);refine wpT 2 ?_;(try simp only [y_,z_]);refine wpT 3 ?_;(try simp only [y_,z_]);refine wpT 4 ?_;(try simp only [y_,z_]);refine wpT 5 ?_;(try simp only [y_,z_]);refine wpT 6 ?_;(try simp only [y_,z_]);refine wpT 7 ?_;(try simp only [y_,z_]);refine wpT 8 ?_;(try simp only [y_,z_]);refine wpT 9 ?_;(try simp only [y_,z_]);refine wpT 10 ?_;(try simp only [y_,z_]);refine aD_ (by kernel_rfl) ?_ _;go_wp2_with fail
          go_meet
          case rel=>exact ⟨by rw [HDC.out];rfl,uD⟩
        case rest =>
         obtain ⟨rfl,hwc⟩:=hcut;have HUC:=h_ (Hu.out.then_non hwc);have c11:=u_ c11 hwc (fun f=>f);clear g0 g1 g2 g3 k0 k1 k2 k3 hwc;obtain ⟨B,HB⟩:=nm (decide (x=z));rw [HB.out]
         cases B with
         | false =>
          have HF:Hid (res=false):=HNX.out (of_decide_eq_false HB.out);go_wp2_with fail
          go_ret;exact ⟨by rw [HF.out];rfl,(HU.out.then_non HU4.out).then_non HUC.out⟩
         | true =>
          have HA2:=h_ (HNY.out (of_decide_eq_true HB.out));go_wp2_with fail
          go_roundg (n - (k+1))
          case measure=>rw [Hg.out];omega
          case rel=>exact ⟨k+1,rfl,by omega,by go_num,HA2,HUC⟩
       ·obtain rfl:n=k:=by omega
        have HT:Hid (res=true):=by
         show _=_;rw [HD.out];have h:=HA.out;rw [←Hpn.out,List.take_length,Hpn.out,←Hqn.out,List.take_length] at h;exact dT_ h
        go_wp2_with fail
        go_ret;exact ⟨by rw [HT.out];rfl,(HU.out.then_non HU4.out).then_non Hu.out⟩
   ·have t1:(r.vars != s.vars)=false:=by simpa using h1
    have t2:(r.imms != s.imms)=false:=by simpa using h2
    have t3:((pn:Int) != (qn:Int))=true:=by simpa using fun e=>h3 (by omega)
    have HR:Hid (res=false):=by show _=_;rw [HE.out,dF_ (fun h=>h3 h.2.2)];rfl
    clear h1 h2 h3;go_enter Tryz.func25,Tryz.ntmps25;go_wp2_with fail
    go_ret;exact ⟨by rw [HR.out];rfl,HU.out⟩
  ·have t1:(r.vars != s.vars)=false:=by simpa using h1
   have t2:(r.imms != s.imms)=true:=by simpa using h2
   have HR:Hid (res=false):=by show _=_;rw [HE.out,dF_ (fun h=>h2 h.2.1)];rfl
   clear h1 h2;go_enter Tryz.func25,Tryz.ntmps25;go_wp2_with fail
   go_ret;exact ⟨by rw [HR.out];rfl,HU.out⟩
 ·have t1:(r.vars != s.vars)=true:=by simpa using h1
  have HR:Hid (res=false):=by show _=_;rw [HE.out,dF_ (fun h=>h1 h.1)];rfl
  clear h1;go_enter Tryz.func25,Tryz.ntmps25;go_wp2_with fail
  go_ret;exact ⟨by rw [HR.out];rfl,HU.out⟩
set_option maxRecDepth 100000 in
set_option maxHeartbeats 2000000 in
theorem sameRule_c (r:Rl) (a:RlA) (s:Rl) (e:RlA) (w:World) (F G:Nat→Prop) (hr:RlK w F r a) (hs:RlK w G s e) (hz:RlSz r) :
  Calls Tryz.prog 20 #[rlv r a,rlv s e] w fun en w'=>en=.returned (.bool (rlE r s))∧Upd Non w w':=by
 have HE:Hid (rlE r s=(decide (r.vars=s.vars∧r.imms=s.imms∧r.conds.length=s.conds.length)&&ptE r.l s.l&&ptE r.r s.r&&decide (r.conds=s.conds))):=rfl
 obtain ⟨res,Hres⟩:=nm (rlE r s);rw [Hres.out] at HE ⊢;obtain ⟨W1,HW1⟩:=nm (w.alloc (.cells (rlCells r a) 43));have u1:Upd Non w W1:=by rw [←HW1.out];exact Upd.refl.alloc _
 have b1:Blk W1 w.heap.size 43 (rlCells r a):=by rw [←HW1.out];exact Blk.new _ _ _
 have s1:W1.heap.size=w.heap.size+1:=by rw [←HW1.out];simp
 obtain ⟨W2,HW2⟩:=nm (W1.alloc (.cells (rlCells s e) 43));have u2:Upd Non W1 W2:=by rw [←HW2.out];exact Upd.refl.alloc _
 have b2:Blk W2 (w.heap.size+1) 43 (rlCells s e):=by rw [←HW2.out,←s1];exact Blk.new _ _ _
 have b1:=b1.upd u2 (fun f=>f);have U2:=u1.then_non u2;have e1:=HW1.out;have e2:=HW2.out;have HU:=h_ U2;have HKR:=h_ (hr.upd U2 (fun _ _ _ f=>f));have HKS:=h_ (hs.upd U2 (fun _ _ _ f=>f));have HB1:=h_ b1;have HB2:=h_ b2;have hb1:=b1;have hb2:=b2;unfold rlCells at hb1 hb2 e1 e2;have c1:=hb1.cell 1;have c2:=hb1.cell 2;have c3:=hb1.cell 3;have c4:=hb1.cell 4;have c5:=hb1.cell 5;have c6:=hb1.cell 6;have c7:=hb1.cell 7;have c8:=hb1.cell 8;have c9:=hb1.cell 9;have c10:=hb1.cell 10;have c11:=hb1.cell 11;have c12:=hb1.cell 12;have c13:=hb1.cell 13;have d1:=hb2.cell 1;have d2:=hb2.cell 2;have d3:=hb2.cell 3;have d4:=hb2.cell 4;have d5:=hb2.cell 5;have d6:=hb2.cell 6;have d7:=hb2.cell 7;have d8:=hb2.cell 8;have d9:=hb2.cell 9;have d10:=hb2.cell 10;have d11:=hb2.cell 11;have d12:=hb2.cell 12;have d13:=hb2.cell 13;have CL:=h_ (fun W (u:Upd Non W2 W)=>samePattern_c r.l s.l W F G a.la e.la a.lc e.lc (PtK.upd u (fun _ _ _ f=>f) _ _ _ HKR.out.l) (PtK.upd u (fun _ _ _ f=>f) _ _ _ HKS.out.l) hz.l)
 have CR:=h_ (fun W (u:Upd Non W2 W)=>samePattern_c r.r s.r W F G a.ra e.ra a.rc e.rc (PtK.upd u (fun _ _ _ f=>f) _ _ _ HKR.out.r) (PtK.upd u (fun _ _ _ f=>f) _ _ _ HKS.out.r) hz.r)
 unfold pv at CL CR;unfold rlv rlCells;have hcz:=hz.c;obtain ⟨pn,Hpn⟩:=nm r.conds.length;obtain ⟨qn,Hqn⟩:=nm s.conds.length;rw [Hpn.out] at c11 e1 HE hcz;rw [Hqn.out] at d11 e2 HE;rw [Hpn.out,Hqn.out];obtain ⟨B1,HB1_⟩:=nm (ptE r.l s.l);obtain ⟨B2,HB2_⟩:=nm (ptE r.r s.r);rw [HB1_.out] at CL HE;rw [HB2_.out] at CR HE;clear hr hs u1 u2 b1 b2 U2 HW1 HW2 hb1 hb2 hz;by_cases h1:r.vars=s.vars
 ·by_cases h2:r.imms=s.imms
  ·by_cases h3:pn=qn
   ·have t1:(r.vars != s.vars)=false:=by simpa using h1
    have t2:(r.imms != s.imms)=false:=by simpa using h2
    have t3:((pn:Int) != (qn:Int))=false:=by simp [h3]
    rw [dT_ ⟨h1,h2,h3⟩,Bool.true_and] at HE;clear h1 h2;subst h3;obtain ⟨n,rfl⟩:∃m,m=pn:=⟨_,rfl⟩;go_enter Tryz.func20,Tryz.ntmps20;go_wp2_with fail
    refine (CL.out _ Upd.refl).mono ?_;rintro en w3 ⟨rfl,u3⟩;clear CL e1 e2
    cases B1 with
    | false =>
     have HF:Hid (res=false):=by show _=_;rw [HE.out];rfl
     go_wp2_with fail
     go_ret;exact ⟨by rw [HF.out];rfl,HU.out.then_non u3⟩
    | true =>
     have c6:=u_ c6 u3 (fun f=>f);have c7:=u_ c7 u3 (fun f=>f);have c8:=u_ c8 u3 (fun f=>f);have c9:=u_ c9 u3 (fun f=>f);have c10:=u_ c10 u3 (fun f=>f);have c11:=u_ c11 u3 (fun f=>f);have d6:=u_ d6 u3 (fun f=>f);have d7:=u_ d7 u3 (fun f=>f);have d8:=u_ d8 u3 (fun f=>f);have d9:=u_ d9 u3 (fun f=>f);have d10:=u_ d10 u3 (fun f=>f);have d11:=u_ d11 u3 (fun f=>f);go_wp2_with fail
     refine (CR.out _ u3).mono ?_;rintro en w4 ⟨rfl,u4⟩;clear CR;have U4:Upd Non W2 w4:=u3.then_non u4
     cases B2 with
     | false =>
      have HF:Hid (res=false):=by show _=_;rw [HE.out];rfl
      go_wp2_with fail
      go_ret;exact ⟨by rw [HF.out];rfl,HU.out.then_non U4⟩
     | true =>
      have HD:Hid (res=decide (r.conds=s.conds)):=by show _=_;rw [HE.out];rfl
      have c11:=u_ c11 u4 (fun f=>f);have d11:=u_ d11 u4 (fun f=>f);have HU4:=h_ U4;clear t1 t2 t3 U4 c1 c2 c3 c4 c5 c6 c7 c8 c9 c10 c12 c13 d1 d2 d3 d4 d5 d6 d7 d8 d9 d10 d12 d13;go_wp2_with fail
      go_loopg [5] n (fun g  iv wr=>∃k:Nat,Hid (g=n - k)∧k≤n∧iv=.int .i64 k∧Hid (r.conds.take k=s.conds.take k)∧Hid (Upd Non w4 wr))
      case atStart=>exact ⟨0,rfl,Nat.zero_le _,rfl,by show _=_;simp,Upd.refl⟩
      case round =>
       obtain ⟨k,Hg,hk,rfl,HA,Hu⟩:=hrel;have c11:=u_ c11 Hu.out (fun f=>f);have d11:=u_ d11 Hu.out (fun f=>f);have HUW:=h_ (HU4.out.then_non Hu.out);by_cases hlt:k<n
       ·have hkl:k<r.conds.length:=by rw [Hpn.out];exact hlt
        have hkq:k<s.conds.length:=by rw [Hqn.out];exact hlt
        have hta:=(HKR.out.c.upd HUW.out (fun _ _ _ f=>f)).take hkl;have htb:=(HKS.out.c.upd HUW.out (fun _ _ _ f=>f)).take hkq
        have HNX:Hid (¬r.conds[k]=s.conds[k]→res=false):=fun h=>by
         rw [HD.out];refine dF_ (fun q=>h ?_);simp only [q]
        have HNY:Hid (r.conds[k]=s.conds[k]→r.conds.take (k+1)=s.conds.take (k+1)):=fun h=>by rw [take_snoc' hkl,take_snoc' hkq,HA.out,h]
        generalize r.conds[k]=x at *;generalize s.conds[k]=z at *;obtain ⟨ca,Hca⟩:=nm a.ca;obtain ⟨ce,Hce⟩:=nm e.ca;rw [Hca.out] at hta c11;rw [Hce.out] at htb d11;obtain ⟨b,o,rfl,hbw,g0,g1,g2,g3⟩:=hta;obtain ⟨b2,o2,rfl,hbw2,k0,k1,k2,k3⟩:=htb
        go_upto_region 6 with fail
        go_cut [60] (fun s wx=>s=.bool (!decide (x=z))∧Upd Non wr wx)
        case first =>
         obtain ⟨wD,HwD⟩:=nm wr.drew;have uD:Upd Non wr wD:=by rw [←HwD.out];exact Upd.refl.drew
         refine wp_region_held_drew (S:=fun w'=>w'.cell? ⟨w.heap.size,11,none⟩=some (.slice (some ⟨b,o,none⟩) n a.cc)∧w'.cell? ⟨w.heap.size+1,11,none⟩=some (.slice (some ⟨b2,o2,none⟩) n e.cc)∧w'.cell? ⟨b,o+k * 4,none⟩=some (.int .i64 x.kind)∧w'.cell? ⟨b,o+k * 4+1,none⟩=some (.int .i64 x.a)∧w'.cell? ⟨b,o+k * 4+2,none⟩=some (.int .i64 x.b)∧w'.cell? ⟨b,o+k * 4+3,none⟩=some (.int .i64 x.n)∧w'.cell? ⟨b2,o2+k * 4,none⟩=some (.int .i64 z.kind)∧w'.cell? ⟨b2,o2+k * 4+1,none⟩=some (.int .i64 z.a)∧w'.cell? ⟨b2,o2+k * 4+2,none⟩=some (.int .i64 z.b)∧w'.cell? ⟨b2,o2+k * 4+3,none⟩=some (.int .i64 z.n)) (by kernel_rfl) (by rw [HwD.out];exact ⟨u_ c11 uD (fun f=>f),u_ d11 uD (fun f=>f),u_ g0 uD (fun f=>f),u_ g1 uD (fun f=>f),u_ g2 uD (fun f=>f),u_ g3 uD (fun f=>f),u_ k0 uD (fun f=>f),u_ k1 uD (fun f=>f),u_ k2 uD (fun f=>f),u_ k3 uD (fun f=>f)⟩) (fun hHeld=>?_)
         rw [HwD.out] at hHeld ⊢
         have HXZ:Hid (x=z↔x.kind=z.kind∧x.a=z.a∧x.b=z.b∧x.n=z.n):=by
          show _↔_;cases x;cases z;simp
         by_cases q0:x.kind=z.kind
         ·by_cases q1:x.a=z.a
          ·by_cases q2:x.b=z.b
           ·by_cases q3:x.n=z.n
            ·have HDC:Hid (decide (x=z)=true):=dT_ (HXZ.out.2 ⟨q0,q1,q2,q3⟩);refine wpT 0 ?_;(try simp only [y_,z_]);refine wpT 1 ?_;(try simp only [y_,z_]);refine wpT 2 ?_;(try simp only [y_,z_]);refine wpT 3 ?_;(try simp only [y_,z_]);refine wpT 4 ?_;(try simp only [y_,z_]);refine wpT 5 ?_;(try simp only [y_,z_]);refine wpT 6 ?_;(try simp only [y_,z_]);refine wpT 7 ?_;(try simp only [y_,z_]);refine wpT 8 ?_;(try simp only [y_,z_]);refine wpT 9 ?_;(try simp only [y_,z_]);refine wpT 10 ?_;(try simp only [y_,z_]);refine aD_ (by kernel_rfl) ?_ _;go_wp2_with fail
             go_meet
             case rel=>exact ⟨by rw [HDC.out];rfl,uD⟩
            ·have HDC:Hid (decide (x=z)=false):=dF_ (fun h=>q3 (HXZ.out.1 h).2.2.2);refine wpT 0 ?_;(try simp only [y_,z_]);refine wpT 1 ?_;(try simp only [y_,z_]);refine wpT 2 ?_;(try simp only [y_,z_]);refine wpT 3 ?_;(try simp only [y_,z_]);refine wpT 4 ?_;(try simp only [y_,z_]);refine wpT 5 ?_;(try simp only [y_,z_]);refine wpT 6 ?_;(try simp only [y_,z_]);refine wpT 7 ?_;(try simp only [y_,z_]);refine wpT 8 ?_;(try simp only [y_,z_]);refine wpT 9 ?_;(try simp only [y_,z_]);refine wpT 10 ?_;(try simp only [y_,z_]);refine aD_ (by kernel_rfl) ?_ _;go_wp2_with fail
             go_meet
             case rel=>exact ⟨by rw [HDC.out];rfl,uD⟩
           ·have HDC:Hid (decide (x=z)=false):=dF_ (fun h=>q2 (HXZ.out.1 h).2.2.1);refine wpT 0 ?_;(try simp only [y_,z_]);refine wpT 1 ?_;(try simp only [y_,z_]);refine wpT 2 ?_;(try simp only [y_,z_]);refine wpT 3 ?_;(try simp only [y_,z_]);refine wpT 4 ?_;(try simp only [y_,z_]);refine wpT 5 ?_;(try simp only [y_,z_]);refine wpT 6 ?_;(try simp only [y_,z_]);refine wpT 7 ?_;(try simp only [y_,z_]);refine wpT 8 ?_;(try simp only [y_,z_]);refine wpT 9 ?_;(try simp only [y_,z_]);refine wpT 10 ?_;(try simp only [y_,z_]);refine aD_ (by kernel_rfl) ?_ _;go_wp2_with fail
            go_meet
            case rel=>exact ⟨by rw [HDC.out];rfl,uD⟩
          ·have HDC:Hid (decide (x=z)=false):=dF_ (fun h=>q1 (HXZ.out.1 h).2.1);refine wpT 0 ?_;(try simp only [y_,z_]);refine wpT 1 ?_;(try simp only [y_,z_]);refine wpT 2 ?_;(try simp only [y_,z_]);refine wpT 3 ?_;(try simp only [y_,z_]);refine wpT 4 ?_;(try simp only [y_,z_]);refine wpT 5 ?_;(try simp only [y_,z_]);refine wpT 6 ?_;(try simp only [y_,z_]);refine wpT 7 ?_;(try simp only [y_,z_]);refine wpT 8 ?_;(try simp only [y_,z_]);refine wpT 9 ?_;(try simp only [y_,z_]);refine wpT 10 ?_;(try simp only [y_,z_]);refine aD_ (by kernel_rfl) ?_ _;go_wp2_with fail
           go_meet
           case rel=>exact ⟨by rw [HDC.out];rfl,uD⟩
         ·have HDC:Hid (decide (x=z)=false):=dF_ (fun h=>q0 (HXZ.out.1 h).1);refine wpT 0 ?_;(try simp only [y_,z_]);refine wpT 1 ?_;(try simp only [y_,z_]);refine wpT 2 ?_;(try simp only [y_,z_]);refine wpT 3 ?_;(try simp only [y_,z_]);refine wpT 4 ?_;(try simp only [y_,z_]);refine wpT 5 ?_;(try simp only [y_,z_]);refine wpT 6 ?_;(try simp only [y_,z_]);refine wpT 7 ?_;(try simp only [y_,z_]);refine wpT 8 ?_;(try simp only [y_,z_]);refine wpT 9 ?_;(try simp only [y_,z_]);refine wpT 10 ?_;(try simp only [y_,z_]);refine aD_ (by kernel_rfl) ?_ _;go_wp2_with fail
          go_meet
          case rel=>exact ⟨by rw [HDC.out];rfl,uD⟩
        case rest =>
         obtain ⟨rfl,hwc⟩:=hcut;have HUC:=h_ (Hu.out.then_non hwc);have c11:=u_ c11 hwc (fun f=>f);clear g0 g1 g2 g3 k0 k1 k2 k3 hwc;obtain ⟨B,HB⟩:=nm (decide (x=z));rw [HB.out]
         cases B with
         | false =>
          have HF:Hid (res=false):=HNX.out (of_decide_eq_false HB.out);go_wp2_with fail
          go_ret;exact ⟨by rw [HF.out];rfl,(HU.out.then_non HU4.out).then_non HUC.out⟩
         | true =>
          have HA2:=h_ (HNY.out (of_decide_eq_true HB.out));go_wp2_with fail
          go_roundg (n - (k+1))
          case measure=>rw [Hg.out];omega
          case rel=>exact ⟨k+1,rfl,by omega,by go_num,HA2,HUC⟩
       ·obtain rfl:n=k:=by omega
        have HT:Hid (res=true):=by
         show _=_;rw [HD.out];have h:=HA.out;rw [←Hpn.out,List.take_length,Hpn.out,←Hqn.out,List.take_length] at h;exact dT_ h
        go_wp2_with fail
        go_ret;exact ⟨by rw [HT.out];rfl,(HU.out.then_non HU4.out).then_non Hu.out⟩
   ·have t1:(r.vars != s.vars)=false:=by simpa using h1
    have t2:(r.imms != s.imms)=false:=by simpa using h2
    have t3:((pn:Int) != (qn:Int))=true:=by simpa using fun e=>h3 (by omega)
    have HR:Hid (res=false):=by show _=_;rw [HE.out,dF_ (fun h=>h3 h.2.2)];rfl
    clear h1 h2 h3;go_enter Tryz.func20,Tryz.ntmps20;go_wp2_with fail
    go_ret;exact ⟨by rw [HR.out];rfl,HU.out⟩
  ·have t1:(r.vars != s.vars)=false:=by simpa using h1
   have t2:(r.imms != s.imms)=true:=by simpa using h2
   have HR:Hid (res=false):=by show _=_;rw [HE.out,dF_ (fun h=>h2 h.2.1)];rfl
   clear h1 h2;go_enter Tryz.func20,Tryz.ntmps20;go_wp2_with fail
   go_ret;exact ⟨by rw [HR.out];rfl,HU.out⟩
 ·have t1:(r.vars != s.vars)=true:=by simpa using h1
  have HR:Hid (res=false):=by show _=_;rw [HE.out,dF_ (fun h=>h1 h.1)];rfl
  clear h1;go_enter Tryz.func20,Tryz.ntmps20;go_wp2_with fail
  go_ret;exact ⟨by rw [HR.out];rfl,HU.out⟩
end Go.Proofs.YtblkgjdhaibhgaaGreat
