/-
  Lemmas and walks that the claim rests on, part 10 (packed by a program).
-/
import Derived.Test.YtifhejahbbnkiaaGreatC1
import Derived.Test.YtifhejahbbnkiaaGreatC4
import Derived.Test.YtifhejahbbnkiaaGreatC9
import Derived.Test.YtifhejahbbnkiaaGreatC5
import Derived.Test.YtifhejahbbnkiaaGreatC8
import Derived.Test.YtifhejahbbnkiaaGreatC6
namespace Go.Proofs.YtifhejahbbnkiaaGreat
open Go.RowKit
theorem isVal_lo {ss:List Int} {n:Int} (h:¬1≤n):isValF ss n=false:=dF_ (fun q=>h q.1)
theorem isVal_hi {ss:List Int} {n:Int} (h:¬n<ss.length):isValF ss n=false:=dF_ (fun q=>h q.2.1)
theorem isVal_at {ss:List Int} {j:Nat} (h:1≤(j:Int)) (g:(j:Int)<ss.length):isValF ss j=(ss.getD j 0==1):=by
 unfold isValF;rw [Bool.eq_iff_iff];simp only [Int.toNat_natCast,decide_eq_true_eq,beq_iff_eq];exact ⟨fun q=>q.2.2,fun q=>⟨h,g,q⟩⟩
set_option maxRecDepth 100000 in
set_option maxHeartbeats 4000000 in
theorem r15validCond_c (x:Cd) (ss:List Int) (m:Int) (A:Option Addr) (c:Nat) (F:Nat→Prop) (w:World) (hs:Ints w F A ss) :
  Calls Tryz.prog 90 #[.agg #[.int .i64 x.kind,.int .i64 x.a,.int .i64 x.b,.int .i64 x.n],.slice A ss.length c,.int .i64 m] w fun e w'=>e=.returned (.bool (condF x ss m))∧Upd Non w w':=by
 obtain ⟨k,a,b,n⟩:=x;dsimp only;obtain ⟨W,HW⟩:=nm (w.alloc (.cells #[.int .i64 k,.int .i64 a,.int .i64 b,.int .i64 n] 102));have U:Upd Non w W:=by rw [←HW.out];exact Upd.refl.alloc _
 have b1:Blk W w.heap.size 102 #[.int .i64 k,.int .i64 a,.int .i64 b,.int .i64 n]:=by rw [←HW.out];exact Blk.new _ _ _
 have e1:=HW.out;have hs:=hs.upd U (fun _ _ _ f=>f);have c0:=b1.cell 0;have c1:=b1.cell 1;have c2:=b1.cell 2;have c3:=b1.cell 3;have HVL:=h_ (fun (i:Int)=>@isVal_lo ss i);have HVH:=h_ (fun (i:Int)=>@isVal_hi ss i);have HVA:=h_ (fun (j:Nat)=>@isVal_at ss j);obtain ⟨l,Hl⟩:=nm ss.length;obtain ⟨R,HR⟩:=nm (condF ⟨k,a,b,n⟩ ss m);rw [HR.out,Hl.out];have HR1:Hid (R=condF ⟨k,a,b,n⟩ ss m):=HR.out.symm;unfold condF at HR1;dsimp only at HR1;obtain ⟨va,Hva⟩:=nm (isValF ss a);obtain ⟨vb,Hvb⟩:=nm (isValF ss b);rw [Hva.out,Hvb.out] at HR1;clear b1 HR;obtain ⟨tb,ftb⟩:∃t,(b==0)=t:=⟨_,rfl⟩;obtain ⟨tn,ftn⟩:∃t,(n==0)=t:=⟨_,rfl⟩;obtain ⟨tab,ftab⟩:∃t,(b != a)=t:=⟨_,rfl⟩;obtain ⟨tab2,ftab2⟩:∃t,(a != b)=t:=⟨_,rfl⟩;obtain ⟨b1,fb1⟩:∃t,decide (1≤b)=t:=⟨_,rfl⟩;obtain ⟨bm,fbm⟩:∃t,decide (b≤m)=t:=⟨_,rfl⟩;obtain ⟨a1,fa1⟩:∃t,decide (1≤a)=t:=⟨_,rfl⟩;obtain ⟨am,fam⟩:∃t,decide (a≤m)=t:=⟨_,rfl⟩;obtain ⟨bl,fbl⟩:∃t,decide (b<(l:Int))=t:=⟨_,rfl⟩;obtain ⟨al,fal⟩:∃t,decide (a<(l:Int))=t:=⟨_,rfl⟩
 have gtb:decide (b=0)=tb:=by rw [←ftb,Bool.eq_iff_iff];simp
 have gtn:decide (n=0)=tn:=by rw [←ftn,Bool.eq_iff_iff];simp
 have gtab:decide (a≠b)=tab2:=by rw [←ftab2,Bool.eq_iff_iff];simp
 have gtab2:tab2=tab:=by rw [←ftab,←ftab2,Bool.eq_iff_iff];simp;exact ⟨fun h q=>h q.symm,fun h q=>h q.symm⟩
 have gia:isImmF m a=(a1&&am):=by unfold isImmF;rw [←fa1,←fam,Bool.eq_iff_iff];simp
 have gib:isImmF m b=(b1&&bm):=by unfold isImmF;rw [←fb1,←fbm,Bool.eq_iff_iff];simp
 rw [gtb,gtn,gtab,gtab2,gia,gib] at HR1;rw [gtab2] at ftab2;have FA1:=h_ fa1;have FAL:=h_ fal;have FB1:=h_ fb1;have FBL:=h_ fbl;clear gtb gtn gtab gia gib gtab2;go_enter Tryz.func90,Tryz.ntmps90
 go_upto_region 1 with fail
 go_cut [7] (fun t wx=>t=.bool va∧W=wx)
 case first =>
  cases a1 with
  | false =>
   have hv:va=false:=by rw [←Hva.out];exact HVL.out a (of_decide_eq_false FA1.out)
   subst hv;go_wp2_with fail
   go_meet;exact ⟨rfl,rfl⟩
  | true =>
   cases al with
   | false =>
    have hv:va=false:=by rw [←Hva.out];exact HVH.out a (by rw [Hl.out];exact of_decide_eq_false FAL.out)
    subst hv;go_wp2_with fail
    go_meet;exact ⟨rfl,rfl⟩
   | true =>
    obtain ⟨j,rfl⟩:∃j:Nat,a=(j:Int):=Int.eq_ofNat_of_zero_le (by have:=of_decide_eq_true FA1.out;omega);have hj:(j:Int)<l:=of_decide_eq_true FAL.out;have hj0:(0:Int)≤j:=by omega
    have hv:va=(ss.getD j 0==1):=by rw [←Hva.out];exact HVA.out j (of_decide_eq_true FA1.out) (by rw [Hl.out];exact hj)
    obtain ⟨blk,off,rfl,_,_,z⟩:=Sl.at_ (k:=j) hs (by simp [Hl.out];omega);rw [show ((ss.map fun (x:Int)=>Value.int .i64 x))[j]'(by simp [Hl.out];omega)=.int .i64 (ss.getD j 0) by simp [List.getD,show j<ss.length by rw [Hl.out];omega]] at z
    obtain ⟨y,Hy⟩:=nm (ss.getD j 0);rw [Hy.out] at z hv;have fv:(y==1)=va:=hv.symm;clear hv;go_wp2_with fail
    go_meet;exact ⟨rfl,rfl⟩
 case rest =>
  obtain ⟨rfl,ew⟩:=hcut;obtain rfl:W=_:=ew;by_cases h1:k=1
  ·subst h1;have HE0:Hid (R=(va&&(tb&&tn))):=by show _=_;rw [HR1.out,if_pos rfl,Bool.and_assoc]
   cases va with
   | false =>
    have HE:Hid (R=false):=by show _=_;rw [HE0.out];simp
    go_wp2_with fail
    go_ret;exact ⟨by rw [HE.out];rfl,U⟩
   | true =>
    have HE0:Hid (R=(tb&&tn)):=by show _=_;rw [HE0.out];simp
    cases tb with
    | false =>
     have HE:Hid (R=false):=by show _=_;rw [HE0.out];simp
     go_wp2_with fail
     go_ret;exact ⟨by rw [HE.out];rfl,U⟩
    | true =>
     have HE0:Hid (R=(tn)):=by show _=_;rw [HE0.out];simp
     have HE:Hid (R=tn):=HE0.out;go_wp2_with fail
     go_ret;exact ⟨by rw [HE.out];rfl,U⟩
  ·by_cases h2:k=2∨k=3
   ·have HE0:Hid (R=(va&&tb)):=by have:=HR1.out;rw [if_neg h1,if_pos h2] at this;exact this
    rcases h2 with rfl | rfl
    ·cases va with
     | false =>
      have HE:Hid (R=false):=by show _=_;rw [HE0.out];simp
      go_wp2_with fail
      go_ret;exact ⟨by rw [HE.out];rfl,U⟩
     | true =>
      have HE0:Hid (R=(tb)):=by show _=_;rw [HE0.out];simp
      have HE:Hid (R=tb):=HE0.out;go_wp2_with fail
      go_ret;exact ⟨by rw [HE.out];rfl,U⟩
    ·cases va with
     | false =>
      have HE:Hid (R=false):=by show _=_;rw [HE0.out];simp
      go_wp2_with fail
      go_ret;exact ⟨by rw [HE.out];rfl,U⟩
     | true =>
      have HE0:Hid (R=(tb)):=by show _=_;rw [HE0.out];simp
      have HE:Hid (R=tb):=HE0.out;go_wp2_with fail
      go_ret;exact ⟨by rw [HE.out];rfl,U⟩
   ·have HR2:=HR1.out;rw [if_neg h1,if_neg h2] at HR2;have t1:(k==1)=false:=by simpa using h1
    have t2:(k==2)=false:=by simp;omega
    have t3:(k==3)=false:=by simp;omega
    have HR1:=h_ HR2;clear HR2 h1 h2;by_cases h4:k=4
    ·subst h4;have HE0:Hid (R=(va&&(vb&&(tab&&tn)))):=by show _=_;rw [HR1.out,if_pos rfl];simp [Bool.and_assoc]
     cases va with
     | false =>
      have HE:Hid (R=false):=by show _=_;rw [HE0.out];simp
      go_wp2_with fail
      go_ret;exact ⟨by rw [HE.out];rfl,U⟩
     | true =>
      have HE0:Hid (R=(vb&&(tab&&tn))):=by show _=_;rw [HE0.out];simp
      cases b1 with
      | false =>
       have hv:vb=false:=by rw [←Hvb.out];exact HVL.out b (of_decide_eq_false FB1.out)
       have HE:Hid (R=false):=by show _=_;rw [HE0.out,hv];simp
       clear hv;go_wp2_with fail
       go_ret;exact ⟨by rw [HE.out];rfl,U⟩
      | true =>
       cases bl with
       | false =>
        have hv:vb=false:=by rw [←Hvb.out];exact HVH.out b (by rw [Hl.out];exact of_decide_eq_false FBL.out)
        have HE:Hid (R=false):=by show _=_;rw [HE0.out,hv];simp
        clear hv;go_wp2_with fail
        go_ret;exact ⟨by rw [HE.out];rfl,U⟩
       | true =>
        obtain ⟨j,rfl⟩:∃j:Nat,b=(j:Int):=Int.eq_ofNat_of_zero_le (by have:=of_decide_eq_true FB1.out;omega);have hj:(j:Int)<l:=of_decide_eq_true FBL.out;have hj0:(0:Int)≤j:=by omega
        have hv:vb=(ss.getD j 0==1):=by rw [←Hvb.out];exact HVA.out j (of_decide_eq_true FB1.out) (by rw [Hl.out];exact hj)
        obtain ⟨blk,off,rfl,_,_,z⟩:=Sl.at_ (k:=j) hs (by simp [Hl.out];omega);rw [show ((ss.map fun (x:Int)=>Value.int .i64 x))[j]'(by simp [Hl.out];omega)=.int .i64 (ss.getD j 0) by simp [List.getD,show j<ss.length by rw [Hl.out];omega]] at z
        obtain ⟨y,Hy⟩:=nm (ss.getD j 0);rw [Hy.out] at z hv;have fv:(y==1)=vb:=hv.symm;clear hv
        cases vb with
        | false =>
         have HE:Hid (R=false):=by show _=_;rw [HE0.out];simp
         go_wp2_with fail
         go_ret;exact ⟨by rw [HE.out];rfl,U⟩
        | true =>
         have HE0:Hid (R=(tab&&tn)):=by show _=_;rw [HE0.out];simp
         cases tab with
         | false =>
          have HE:Hid (R=false):=by show _=_;rw [HE0.out];simp
          go_wp2_with fail
          go_ret;exact ⟨by rw [HE.out];rfl,U⟩
         | true =>
          have HE0:Hid (R=(tn)):=by show _=_;rw [HE0.out];simp
          have HE:Hid (R=tn):=HE0.out;go_wp2_with fail
          go_ret;exact ⟨by rw [HE.out];rfl,U⟩
    ·have t4:(k==4)=false:=by simpa using h4
     have HR2:=HR1.out;rw [if_neg h4] at HR2;have HR1:=h_ HR2;clear HR2 h4;by_cases h5:k=5
     ·subst h5;have HE0:Hid (R=(va&&(b1&&(bm&&tn)))):=by show _=_;rw [HR1.out,if_pos rfl];simp [Bool.and_assoc]
      cases va with
      | false =>
       have HE:Hid (R=false):=by show _=_;rw [HE0.out];simp
       go_wp2_with fail
       go_ret;exact ⟨by rw [HE.out];rfl,U⟩
      | true =>
       have HE0:Hid (R=(b1&&(bm&&tn))):=by show _=_;rw [HE0.out];simp
       cases b1 with
       | false =>
        have HE:Hid (R=false):=by show _=_;rw [HE0.out];simp
        go_wp2_with fail
        go_ret;exact ⟨by rw [HE.out];rfl,U⟩
       | true =>
        have HE0:Hid (R=(bm&&tn)):=by show _=_;rw [HE0.out];simp
        cases bm with
        | false =>
         have HE:Hid (R=false):=by show _=_;rw [HE0.out];simp
         go_wp2_with fail
         go_ret;exact ⟨by rw [HE.out];rfl,U⟩
        | true =>
         have HE0:Hid (R=(tn)):=by show _=_;rw [HE0.out];simp
         have HE:Hid (R=tn):=HE0.out;go_wp2_with fail
         go_ret;exact ⟨by rw [HE.out];rfl,U⟩
     ·have t5:(k==5)=false:=by simpa using h5
      have HR2:=HR1.out;rw [if_neg h5] at HR2;have HR1:=h_ HR2;clear HR2 h5;by_cases h6:k=6
      ·subst h6;have HE0:Hid (R=(a1&&(am&&(b1&&(bm&&(tab&&tn)))))):=by show _=_;rw [HR1.out,if_pos rfl];simp [Bool.and_assoc]
       cases a1 with
       | false =>
        have HE:Hid (R=false):=by show _=_;rw [HE0.out];simp
        go_wp2_with fail
        go_ret;exact ⟨by rw [HE.out];rfl,U⟩
       | true =>
        have HE0:Hid (R=(am&&(b1&&(bm&&(tab&&tn))))):=by show _=_;rw [HE0.out];simp
        cases am with
        | false =>
         have HE:Hid (R=false):=by show _=_;rw [HE0.out];simp
         go_wp2_with fail
         go_ret;exact ⟨by rw [HE.out];rfl,U⟩
        | true =>
         have HE0:Hid (R=(b1&&(bm&&(tab&&tn)))):=by show _=_;rw [HE0.out];simp
         cases b1 with
         | false =>
          have HE:Hid (R=false):=by show _=_;rw [HE0.out];simp
          go_wp2_with fail
          go_ret;exact ⟨by rw [HE.out];rfl,U⟩
         | true =>
          have HE0:Hid (R=(bm&&(tab&&tn))):=by show _=_;rw [HE0.out];simp
          cases bm with
          | false =>
           have HE:Hid (R=false):=by show _=_;rw [HE0.out];simp
           go_wp2_with fail
           go_ret;exact ⟨by rw [HE.out];rfl,U⟩
          | true =>
           have HE0:Hid (R=(tab&&tn)):=by show _=_;rw [HE0.out];simp
           cases tab with
           | false =>
            have HE:Hid (R=false):=by show _=_;rw [HE0.out];simp
            go_wp2_with fail
            go_ret;exact ⟨by rw [HE.out];rfl,U⟩
           | true =>
            have HE0:Hid (R=(tn)):=by show _=_;rw [HE0.out];simp
            have HE:Hid (R=tn):=HE0.out;go_wp2_with fail
            go_ret;exact ⟨by rw [HE.out];rfl,U⟩
      ·have t6:(k==6)=false:=by simpa using h6
       have HE:Hid (R=false):=by show _=_;rw [HR1.out,if_neg h6]
       clear h6;go_wp2_with fail
       go_ret;exact ⟨by rw [HE.out];rfl,U⟩
set_option maxHeartbeats 1000000 in
theorem r15Size_c (p:Pt):∀(w:World) (F:Nat→Prop) (KA:Option Addr) (kc:Nat),PtK w F p KA kc→p.size≤1000000000000 →
  Calls Tryz.prog 86 #[pv p KA kc] w fun e w'=>e=.returned (.int .i64 (p.size:Int))∧Upd Non w w':=by
 induction p using Pt.ind with
 | h p ih =>
  intro w F KA kc hp hs;have hse:=Pt.size_eq p;have hle:=Pt.len_le p.kids;have HI:=h_ ih;obtain ⟨W,HW⟩:=nm (w.alloc (.cells #[.int .i64 p.v,.int .i64 p.op,.int .i64 p.imm,.int .i64 p.iv,.slice KA p.kids.length kc] 38));have hU:Upd Non w W:=by rw [←HW.out];exact Upd.refl.alloc _
  have hb:Blk W w.heap.size 38 #[.int .i64 p.v,.int .i64 p.op,.int .i64 p.imm,.int .i64 p.iv,.slice KA p.kids.length kc]:=by rw [←HW.out];exact Blk.new _ _ _
  have e0:=HW.out;have c4:=hb.cell 4;have hpW:=PtK.upd hU (fun _ _ _ f=>f) p KA kc hp;have HS:=h_ hse;unfold pv;clear ih hse hp;obtain ⟨n,Hn⟩:=nm p.kids.length;rw [Hn.out] at c4 hle e0;have hn12:n≤1000000000000:=by have:=HS.out;omega
  rw [Hn.out];go_enter Tryz.func86,Tryz.ntmps86;go_wp2_with fail
  go_loopg [3,4] n (fun g v i wr=>∃k:Nat,Hid (g=n - k)∧k≤n∧i=.int .i64 k∧v=.int .i64 ((1+Pt.sizeL (p.kids.take k):Nat):Int)∧Upd Non W wr)
  case atStart=>exact ⟨0,rfl,by omega,rfl,by simp [Pt.sizeL],Upd.refl⟩
  case round =>
   obtain ⟨k,Hg,hk,rfl,rfl,hu⟩:=hrel;have c4':=u_ c4 hu (fun f=>f);by_cases hlt:k<n
   ·have hkl:k<p.kids.length:=by rw [Hn.out];exact hlt
    obtain ⟨b,o,rfl,hF,hbw,KB,kd,h0,h1,h2,h3,h4,h5⟩:=(PtK.upd hu (fun _ _ _ f=>f) p KA kc hpW).at_ hkl;have hks:p.kids[k].size≤1000000000000:=by have:=Pt.kids_lt (List.getElem_mem hkl);omega
    have hkk:=Pt.sizeL_take p.kids k hkl;have hkt:=Pt.sizeL_take_le p.kids (k+1);have hmem0:=List.getElem_mem hkl;generalize p.kids[k]=q at *;have C1:=h_ (HI.out q hmem0 wr F KB kd h5 hks);unfold pv at C1;obtain ⟨z,Hz⟩:=nm (1+Pt.sizeL (p.kids.take k));have hz1:1+Pt.sizeL (p.kids.take (k+1))=z+q.size:=by rw [←Hz.out];omega
    have HZ:=h_ hz1;have hz2:z+q.size≤2000000000000:=by have:=HS.out;omega
    rw [Hz.out];clear hkk hkt hz1 h5;go_wp2_with fail
    refine C1.out.mono ?_;rintro e w4 ⟨rfl,hu4⟩;go_wp2_with fail
    go_roundg (n - (k+1))
    case measure=>rw [Hg.out];omega
    case rel=>exact ⟨k+1,rfl,by omega,by go_num,by rw [HZ.out];go_num,hu.then_non hu4⟩
   ·obtain rfl:n=k:=by omega
    have HT:Hid (1+Pt.sizeL (p.kids.take n)=p.size):=by show _=_;rw [HS.out,←Hn.out];simp
    rw [HT.out];go_wp2_with fail
    go_ret;exact ⟨rfl,hU.then_non hu⟩
set_option maxRecDepth 100000 in
set_option maxHeartbeats 8000000 in
theorem r15fits_c (p:Pt):∀(w:World) (F:Nat→Prop) (KA:Option Addr) (kc g c:Nat) (s m:Int) (vs:List Int),PtK w F p KA kc→¬F g→VBlk w g (0::vs)→p.size≤1000000000000→vs.length≤1000000→0≤m →
  Calls Tryz.prog 87 #[pv p KA kc,.int .i64 s,.slice (some ⟨g,0,none⟩) (vs.length+1) c,.int .i64 m] w fun e w'=>e=.returned (.bool (vPt p s m vs).1)∧VBlk w' g (0::(vPt p s m vs).2)∧Upd (·=g) w w':=by
 induction p using Pt.ind with
 | h p ih =>
  intro w F KA kc g c s m vs hp hFg hg hs hvs hm0;have hle:=Pt.len_le p.kids;have hse:=Pt.size_eq p;have HI:=h_ ih;have HPS:=h_ hs;have HV:=h_ (@vPt_var p);have HO:=h_ (@vPt_op p);obtain ⟨W,HW⟩:=nm (w.alloc (.cells #[.int .i64 p.v,.int .i64 p.op,.int .i64 p.imm,.int .i64 p.iv,.slice KA p.kids.length kc] 38));have hU:Upd Non w W:=by rw [←HW.out];exact Upd.refl.alloc _
  have hb:Blk W w.heap.size 38 #[.int .i64 p.v,.int .i64 p.op,.int .i64 p.imm,.int .i64 p.iv,.slice KA p.kids.length kc]:=by rw [←HW.out];exact Blk.new _ _ _
  have e0:=HW.out;have hgW:VBlk W g (0::vs):=Blk.upd hg hU (fun f=>f);have hpW:=PtK.upd hU (fun _ _ _ f=>f) p KA kc hp;have hUg:Upd (·=g) w W:=hU.mono (fun _ _ f=>f.elim);have hglt:g<w.heap.size:=Blk.lt hg;have hsz:=hU.size;have hn12:p.kids.length≤1000000000000:=by omega
  unfold pv;obtain ⟨R,HR⟩:=nm (vPt p s m vs);rw [HR.out];have HIM:=h_ (@imm_ok p m hm0);obtain ⟨v,Hv⟩:=nm p.v;obtain ⟨op,Hop⟩:=nm p.op;obtain ⟨imm,Him⟩:=nm p.imm;obtain ⟨iv,Hiv⟩:=nm p.iv;obtain ⟨n,Hn⟩:=nm p.kids.length;rw [Hv.out,Hop.out,Him.out,Hiv.out,Hn.out] at hb e0;rw [Hv.out,Hop.out,Him.out,Hiv.out,Hn.out];rw [Hn.out] at hn12;rw [Hop.out,Him.out,Hiv.out] at HIM;have c0:=hb.cell 0;have c1:=hb.cell 1;have c2:=hb.cell 2;have c3:=hb.cell 3;have c4:=hb.cell 4;have hlb:=hb.lt;clear ih hp hse hle hg hs;by_cases hv:v=0
  ·subst hv;obtain ⟨z,Hz⟩:∃z,oSortsF op=z:=⟨_,rfl⟩;obtain ⟨ss,own,ok⟩:=z
   have HO2:Hid (R=if ok=true∧n=ss.length∧(s=0∨s=own)∧pImmF p m=true then vKids p.kids ss m vs else (false,vs)):=by
    show _=_;rw [←HR.out,HO.out Hv.out,Hop.out,Hz,Hn.out]
   have HAO:=h_ (allowed_ok op);have HAP:=h_ (@allowed_parts op);have CA:=h_ (fun w=>arity_c op w);have CB:=h_ (fun w=>r15allowed_c op w);have CS:=h_ (fun w=>pSort_c op w);have CH:=h_ (fun w=>r15HasImm_c op w);have CV:=h_ (fun w=>validImm_c op imm w);have COS:=h_ (fun (k:Int) w=>operandSort_c op k w);rw [HAO.out] at CB;rw [Hz] at CB HAP HIM;dsimp only at CB HAP HIM;obtain ⟨za,Hza⟩:∃z,arityF op=z:=⟨_,rfl⟩;obtain ⟨ar,aok⟩:=za;rw [Hza] at CA HAP;dsimp only at CA HAP;obtain ⟨sr,Hsr⟩:=nm (pSortF op);rw [Hsr.out] at CS HAP;obtain ⟨hi,Hhi⟩:=nm (hasImmF op);obtain ⟨vi,Hvi⟩:=nm (validImmF op imm);rw [Hhi.out] at CH;rw [Hvi.out] at CV;rw [Hhi.out,Hvi.out] at HIM;clear HV HO HR Hz Hza;obtain ⟨bn,f1⟩:∃b,((n:Int) != ar)=b:=⟨_,rfl⟩;obtain ⟨b3,f3⟩:∃b,(s != 0)=b:=⟨_,rfl⟩;obtain ⟨bs,f4⟩:∃b,(sr != s)=b:=⟨_,rfl⟩;obtain ⟨b5,f5⟩:∃b,decide (iv<0)=b:=⟨_,rfl⟩;obtain ⟨b6,f6⟩:∃b,decide (iv > m)=b:=⟨_,rfl⟩;obtain ⟨b7,f7⟩:∃b,decide (iv > 0)=b:=⟨_,rfl⟩;obtain ⟨b8,f8⟩:∃b,(imm != 0)=b:=⟨_,rfl⟩;obtain ⟨b9,f9⟩:∃b,(iv==0)=b:=⟨_,rfl⟩
   have F1:=h_ f1;have F3:=h_ f3;have F4:=h_ f4;have F5:=h_ f5;have F6:=h_ f6;have F7:=h_ f7;have F8:=h_ f8;have F9:=h_ f9;go_enter Tryz.func87,Tryz.ntmps87;go_wp2_with fail
   refine (CA.out W).mono ?_;rintro e w2 ⟨rfl,rfl⟩
   go_upto_region 8 with fail
   go_cut [110] (fun t wx=>t=.bool (!ok || bn || (b3&&bs) || b5 || b6)∧wx=W)
   case first =>
    cases ok with
    | false =>
     go_wp2_with fail
     refine (CB.out W).mono ?_;rintro e w2 ⟨rfl,rfl⟩;go_wp2_with fail
     go_meet;exact ⟨rfl,rfl⟩
    | true=>cases bn with
     | true =>
      go_wp2_with fail
      refine (CB.out W).mono ?_;rintro e w2 ⟨rfl,rfl⟩;go_wp2_with fail
      go_meet;exact ⟨rfl,rfl⟩
     | false=>cases b3 with
      | true=>cases bs with
       | true =>
        go_wp2_with fail
        refine (CB.out W).mono ?_;rintro e w2 ⟨rfl,rfl⟩;go_wp2_with fail
        refine (CS.out W).mono ?_;rintro e w2 ⟨rfl,rfl⟩;go_wp2_with fail
        go_meet;exact ⟨rfl,rfl⟩
       | false =>
        cases b5 <;> cases b6
        all_goals
         go_wp2_with fail
         refine (CB.out W).mono ?_;rintro e w2 ⟨rfl,rfl⟩;go_wp2_with fail
         refine (CS.out W).mono ?_;rintro e w2 ⟨rfl,rfl⟩;go_wp2_with fail
         go_meet;exact ⟨rfl,rfl⟩
      | false =>
       cases b5 <;> cases b6
       all_goals
        go_wp2_with fail
        refine (CB.out W).mono ?_;rintro e w2 ⟨rfl,rfl⟩;go_wp2_with fail
        go_meet;exact ⟨by cases bs <;> rfl,rfl⟩
   case rest =>
   obtain ⟨rfl,ew⟩:=hcut;obtain rfl:W=_:=ew.symm
   have HCond:Hid ((ok=true∧n=ss.length∧(s=0∨s=own)∧pImmF p m=true)↔((!ok || bn || (b3&&bs) || b5 || b6)=false∧(b7&&(b8 || !hi) || b9&&!vi)=false)):=by
    show _↔_;rw [←F1.out,←F3.out,←F4.out,←F5.out,←F6.out,←F7.out,←F8.out,←F9.out]
    cases ok with
    | false=>simp
    | true =>
     obtain ⟨a1,a2,_⟩:=HAP.out rfl;rw [HIM.out rfl,a1,a2];cases hi <;> cases vi <;> simp <;> omega
   cases hT:(!ok || bn || (b3&&bs) || b5 || b6) with
   | true =>
    have HR2:Hid (R=(false,vs)):=by show _=_;rw [HO2.out,if_neg (fun q=>by rw [(HCond.out.1 q).1] at hT;cases hT)]
    clear HO2 hT;go_wp2_with fail
    go_ret;exact ⟨by rw [HR2.out];rfl,by rw [HR2.out];exact hgW,hUg⟩
   | false =>
    have HT:=h_ hT;clear hT
    go_upto_region 10 with fail
    go_cut [137] (fun t wx=>t=.bool (b7&&(b8 || !hi) || b9&&!vi)∧wx=W)
    case first =>
     cases b7 with
     | true =>
      have b9f:b9=false:=by rw [←F9.out,beq_eq_false_iff_ne];have:=of_decide_eq_true F7.out;omega
      subst b9f
      cases b8 with
      | true =>
       go_wp2_with fail
       go_meet;exact ⟨rfl,rfl⟩
      | false =>
       cases hi
       all_goals
        go_wp2_with fail
        refine (CH.out W).mono ?_;rintro e w2 ⟨rfl,rfl⟩;go_wp2_with fail
        go_meet;exact ⟨rfl,rfl⟩
     | false=>cases b9 with
      | true =>
       go_wp2_with fail
       refine (CV.out W).mono ?_;rintro e w2 ⟨rfl,rfl⟩;go_wp2_with fail
       go_meet;exact ⟨by cases vi <;> rfl,rfl⟩
      | false =>
       go_wp2_with fail
       go_meet;exact ⟨rfl,rfl⟩
    case rest =>
    obtain ⟨rfl,ew⟩:=hcut;obtain rfl:W=_:=ew.symm
    cases hT2:(b7&&(b8 || !hi) || b9&&!vi) with
    | true =>
     have HR2:Hid (R=(false,vs)):=by show _=_;rw [HO2.out,if_neg (fun q=>by rw [(HCond.out.1 q).2] at hT2;cases hT2)]
     clear HO2 hT2;go_wp2_with fail
     go_ret;exact ⟨by rw [HR2.out];rfl,by rw [HR2.out];exact hgW,hUg⟩
    | false =>
     have HCd:=h_ (HCond.out.2 ⟨HT.out,hT2⟩);have HR2:Hid (R=vKids (p.kids.drop 0) (ss.drop 0) m vs):=by show _=_;rw [HO2.out,if_pos HCd.out];simp
     have HNS:Hid (n=ss.length):=HCd.out.2.1;have HST:=h_ (fun k (hk:k<p.kids.length) vk=>@vKids_step p.kids ss m vk k hk (by rw [Hn.out];exact HNS.out));have HVL:=h_ (fun (q:Pt) (s m:Int) vs=>vPt_len q s m vs);have HSO:Hid (∀k (hk:k<ss.length),operandSortF op k=ss[k]):=(HAP.out HCd.out.1).2.2;clear HO2 hT2 HCond f1 f3 f4 f5 f6 f7 f8 f9 CA CB CS CH CV;go_wp2_with fail
     go_loopg [11] n (fun gg i wr=>∃(k:Nat) (vk:List Int),Hid (gg=n - k)∧k≤n∧i=.int .i64 k∧VBlk wr g (0::vk)∧vk.length=vs.length∧Hid (R=vKids (p.kids.drop k) (ss.drop k) m vk)∧Upd (·=g) W wr)
     case atStart=>exact ⟨0,vs,rfl,by omega,rfl,hgW,rfl,HR2,Upd.refl⟩
     case round =>
      obtain ⟨k,vk,Hg,hk,rfl,hgk,hvk,HRk,hu⟩:=hrel;have c4r:wr.cell? ⟨w.heap.size,4,none⟩=some (.slice KA n kc):=u_ c4 hu (by omega);have c1r:wr.cell? ⟨w.heap.size,1,none⟩=some (.int .i64 op):=u_ c1 hu (by omega);by_cases hlt:k<n
      ·have hkl:k<p.kids.length:=by rw [Hn.out];exact hlt
       have hks:k<ss.length:=by have:=HNS.out;omega
       obtain ⟨b,o,rfl,hF,hbw,KB,kd,h0,h1,h2,h3,h4,h5⟩:=(PtK.upd hu (fun k _ hF e=>hFg (by rw [←e];exact hF)) p KA kc hpW).at_ hkl;have hmem0:=List.getElem_mem hkl;have hqs:=Pt.kids_lt hmem0;have HRs:=HST.out k hkl vk;have hps:p.size≤1000000000000:=HPS.out;have hos:=HSO.out k hks;have hbg:b≠g:=fun e=>hFg (by rw [←e];exact hF)
       rw [HRs] at HRk;clear HRs;generalize p.kids[k]=q at *;generalize ss[k]=x at *;have i0:(0:Int)≤(k:Int):=by omega
       have i1:(k:Int)<(n:Int):=by omega
       have hg4:VBlk wr.drew g (0::vk):=hgk;have C1:=h_ (HI.out q hmem0 wr.drew F KB kd g c x m vk (PtK.upd (Upd.refl.drew (S:=Non)) (fun _ _ _ f=>f) q KB kd h5) hFg hg4 (by omega) (by omega) hm0)
       unfold pv at C1;rw [hvk] at C1;have HV1:=h_ (HVL.out q x m vk);obtain ⟨r,Hr⟩:=nm (vPt q x m vk);obtain ⟨rb,rv⟩:=r;rw [Hr.out] at C1 HRk HV1;have hrv:rv.length=vs.length:=by rw [←hvk];exact HV1.out
       have COk:=h_ (fun w=>COS.out (k:Int) w);rw [hos] at COk;clear h5 hps hqs;have hS:∀w',Upd (·=g) wr w'→w'.cell? ⟨w.heap.size,4,none⟩=some (.slice (some ⟨b,o,none⟩) n kc)∧w'.cell? ⟨w.heap.size,1,none⟩=some (.int .i64 op)∧w'.cell? ⟨b,o+k * 5,none⟩=some (.int .i64 q.v)∧w'.cell? ⟨b,o+k * 5+1,none⟩=some (.int .i64 q.op)∧w'.cell? ⟨b,o+k * 5+2,none⟩=some (.int .i64 q.imm)∧w'.cell? ⟨b,o+k * 5+3,none⟩=some (.int .i64 q.iv)∧w'.cell? ⟨b,o+k * 5+4,none⟩=some (.slice KB q.kids.length kd):=fun w' u=>⟨u_ c4r u (by omega),u_ c1r u (by omega),u_ h0 u hbg,u_ h1 u hbg,u_ h2 u hbg,u_ h3 u hbg,u_ h4 u hbg⟩
       obtain ⟨w4,e4⟩:∃w4:World,w4=wr:=⟨_,rfl⟩;subst e4;go_wp2_with fail
       refine wp_region_held_drew (S:=fun w'=>w'.cell? ⟨w.heap.size,4,none⟩=some (.slice (some ⟨b,o,none⟩) n kc)∧w'.cell? ⟨w.heap.size,1,none⟩=some (.int .i64 op)∧w'.cell? ⟨b,o+k * 5,none⟩=some (.int .i64 q.v)∧w'.cell? ⟨b,o+k * 5+1,none⟩=some (.int .i64 q.op)∧w'.cell? ⟨b,o+k * 5+2,none⟩=some (.int .i64 q.imm)∧w'.cell? ⟨b,o+k * 5+3,none⟩=some (.int .i64 q.iv)∧w'.cell? ⟨b,o+k * 5+4,none⟩=some (.slice KB q.kids.length kd)) (by kernel_rfl) (hS _ (Upd.refl (S:=(·=g))).drew) (fun hHeld=>?_)
       refine wpT 0 ?_;(try simp only [y_,z_]);refine wpT 1 ?_;(try simp only [y_,z_]);refine wpT 2 ?_;(try simp only [y_,z_]);refine wpT 3 ?_;(try simp only [y_,z_]);refine wpT 4 ?_;(try simp only [y_,z_]);refine wpT 5 ?_;(try simp only [y_,z_]);refine wpT 6 ?_;(try simp only [y_,z_]);refine wpT 7 ?_;(try simp only [y_,z_]);refine wpAnyH_takeC (i:=8) (v:=?v1) rfl (by kernel_rfl) (by kernel_rfl) (by kernel_rfl) (fun _ _ _ h=>h) ⟨by rfl,?f1,?a1,?r1,?c1⟩ (by assumption) ?m1
       case r1=>intro w;go_simp;constructor <;> with_reducible rfl
       case c1=>intro W hSw;refine (COk.out W).mono ?_;rintro e w' ⟨rfl,rfl⟩;constructor <;> with_reducible rfl
       (try simp only [y_,z_]);refine wpT 9 ?_;(try simp only [y_,z_]);refine wpT 10 ?_;(try simp only [y_,z_]);refine aR_ (rs:=[11]) (by kernel_rfl) (by simp) ?_;refine aC_ rfl (fun K hK=>?_) aN_;go_simp;refine C1.out.mono ?_;rintro e w5 ⟨rfl,hg5,hu5'⟩;have hu5:Upd (·=g) w4 w5:=(Upd.refl.drew (S:=(·=g))).trans hu5' (fun _ _ q=>q);go_wp2_with fail
       refine hK.out _ _ ?_ (fun hHeld=>?_)
       ·exact hS _ hu5
       clear hK K;(try simp only [y_,z_]);refine wpT 12 ?_;(try simp only [y_,z_]);refine aD_ (by kernel_rfl) ?_ _
       cases rb with
       | true =>
        have HRn:Hid (R=vKids (p.kids.drop (k+1)) (ss.drop (k+1)) m rv):=by show _=_;rw [HRk.out];rfl
        clear C1 hS;go_wp2_with fail
        go_roundg (n - (k+1))
        case measure=>rw [Hg.out];omega
        case rel=>exact ⟨k+1,rv,rfl,by omega,by go_num,hg5,hrv,HRn,hu.trans hu5 (fun _ _ q=>q)⟩
       | false =>
        have HRn:Hid (R=(false,rv)):=by show _=_;rw [HRk.out];rfl
        clear C1 hS;go_wp2_with fail
        go_ret;exact ⟨by rw [HRn.out];rfl,by rw [HRn.out];exact hg5,(hUg.trans hu (fun _ _ q=>q)).trans hu5 (fun _ _ q=>q)⟩
      ·obtain rfl:n=k:=by omega
       have HRz:Hid (R=(true,vk)):=by
        show _=_;rw [HRk.out,List.drop_eq_nil_of_le (by rw [Hn.out];exact Nat.le_refl _)];rfl
       go_wp2_with fail
       go_ret;exact ⟨by rw [HRz.out];rfl,by rw [HRz.out];exact hgk,hUg.trans hu (fun _ _ q=>q)⟩
  ·have t0:(v != 0)=true:=by simpa using hv
   have HV2:Hid (R=if v<1∨v > vs.length∨op≠0∨imm≠0∨iv≠0∨0<n then (false,vs) else if vs.getD (v - 1).toNat 0=0 then (true,vs.set (v - 1).toNat s) else (decide (s=0∨s=vs.getD (v - 1).toNat 0),vs)):=by
    show _=_;rw [←HR.out,HV.out (by rw [Hv.out];exact hv),Hv.out,Hop.out,Him.out,Hiv.out,Hn.out]
   clear HV HO HI HIM;by_cases hbad:v<1∨v > vs.length∨op≠0∨imm≠0∨iv≠0∨0<n
   ·have HRv:Hid (R=(false,vs)):=by show _=_;rw [HV2.out,if_pos hbad]
    rw [HRv.out];have Hbad:=h_ hbad;obtain ⟨b1,f1⟩:∃b,decide (v<1)=b:=⟨_,rfl⟩;obtain ⟨b2,f2⟩:∃b,decide (v ≥ (vs.length:Int)+1)=b:=⟨_,rfl⟩;obtain ⟨b3,f3⟩:∃b,(op != 0)=b:=⟨_,rfl⟩;obtain ⟨b4,f4⟩:∃b,(imm != 0)=b:=⟨_,rfl⟩;obtain ⟨b5,f5⟩:∃b,(iv != 0)=b:=⟨_,rfl⟩;obtain ⟨b6,f6⟩:∃b,((n:Int) != 0)=b:=⟨_,rfl⟩
    have HB:Hid ((b1 || b2 || b3 || b4 || b5 || b6)=true):=by
     show _=_;rw [←f1,←f2,←f3,←f4,←f5,←f6];simp;omega
    clear hbad
    cases b1 with
    | true =>
     go_enter Tryz.func87,Tryz.ntmps87;go_wp2_with fail
     go_ret;exact ⟨rfl,hgW,hUg⟩
    | false=>cases b2 with
     | true =>
      go_enter Tryz.func87,Tryz.ntmps87;go_wp2_with fail
      go_ret;exact ⟨rfl,hgW,hUg⟩
     | false=>cases b3 with
      | true =>
       go_enter Tryz.func87,Tryz.ntmps87;go_wp2_with fail
       go_ret;exact ⟨rfl,hgW,hUg⟩
      | false=>cases b4 with
       | true =>
        go_enter Tryz.func87,Tryz.ntmps87;go_wp2_with fail
        go_ret;exact ⟨rfl,hgW,hUg⟩
       | false=>cases b5 with
        | true =>
         go_enter Tryz.func87,Tryz.ntmps87;go_wp2_with fail
         go_ret;exact ⟨rfl,hgW,hUg⟩
        | false=>cases b6 with
         | true =>
          have hn0:n≠0:=by intro q;subst q;simp at f6
          have hn1:(n==0)=false:=by simpa using hn0
          go_enter Tryz.func87,Tryz.ntmps87;go_wp2_with fail
          go_ret;exact ⟨rfl,hgW,hUg⟩
         | false=>exact absurd HB.out (by simp)
   ·rw [if_neg hbad] at HV2;obtain ⟨i,hi⟩:=Int.eq_ofNat_of_zero_le (show 0≤v - 1 by omega);have hil:i<vs.length:=by omega
    obtain rfl:op=0:=by omega
    obtain rfl:imm=0:=by omega
    obtain rfl:iv=0:=by omega
    obtain rfl:n=0:=by omega
    rw [hi,Int.toNat_natCast] at HV2;obtain ⟨j,Hj⟩:=nm (i+1);have hj1:=Hj.out;obtain rfl:v=(j:Int):=by omega
    have t1:decide ((j:Int)<1)=false:=dF_ (by omega);have t2:decide ((j:Int) ≥ (vs.length:Int)+1)=false:=dF_ (by omega);have cg:W.cell? ⟨g,j,none⟩=some (.int .i64 (vs.getD i 0)):=by have:=VBlk.cell hgW (i:=i+1) (by simpa using hil);rw [hj1] at this;rw [this,←hj1];simp
    have fg:=Blk.frozen hgW j;have i0:(0:Int)≤(j:Int):=by omega
    have i1:(j:Int)<(vs.length:Int)+1:=by omega
    have hset:VBlk (W.setCell ⟨g,j,none⟩ (.int .i64 s)) g (0::vs.set i s):=by have:=VBlk.set_ hgW (i+1) s;rw [hj1] at this;rw [show (0::vs.set i s)=(0::vs).set j s by rw [←hj1];rfl];exact this
    have uset:=updCell W g j (.int .i64 s);clear hj1 hi;clear hbad HR Hv Hop Him Hiv Hn hpW;by_cases hs0:s=0
    ·subst hs0
     have HV3:Hid (R=(true,vs)):=by
      show _=_;rw [HV2.out];by_cases hy:vs.getD i 0=0
      ·rw [if_pos hy]
       have : vs.set i 0=vs:=by
        apply List.ext_getElem (by simp);intro j h1 h2;rw [List.getElem_set]
        split
        ·rename_i e;subst e;rw [getD_of hil] at hy;exact hy.symm
        ·rfl
       rw [this]
      ·rw [if_neg hy];simp
     rw [HV3.out];clear HV2 HV3;go_enter Tryz.func87,Tryz.ntmps87;go_wp2_with fail
     go_ret;exact ⟨rfl,hgW,hUg⟩
    ·have ts:(s != 0)=true:=by simpa using hs0
     have ts2:(s==0)=false:=by simpa using hs0
     obtain ⟨y,Hy⟩:=nm (vs.getD i 0);rw [Hy.out] at HV2 cg;by_cases hy:y=0
     ·rw [if_pos hy] at HV2;subst hy;rw [HV2.out];clear HV2;have tss:(s==s)=true:=by simp
      go_enter Tryz.func87,Tryz.ntmps87;go_wp2_with fail
      go_ret;exact ⟨rfl,hset,hUg.trans uset (fun _ _ q=>q)⟩
     ·rw [if_neg hy] at HV2;have ty:(y==0)=false:=by simpa using hy
      by_cases hsy:s=y
      ·subst hsy;have tt:(s==s)=true:=by simp
       have HV3:Hid (R=(true,vs)):=by show _=_;rw [HV2.out];simp
       rw [HV3.out];clear HV2 HV3;go_enter Tryz.func87,Tryz.ntmps87;go_wp2_with fail
       go_ret;exact ⟨rfl,hgW,hUg⟩
      ·have tt:(y==s)=false:=by simp;omega
       have HV3:Hid (R=(false,vs)):=by show _=_;rw [HV2.out];simp [hs0,hsy]
       rw [HV3.out];clear HV2 HV3;go_enter Tryz.func87,Tryz.ntmps87;go_wp2_with fail
       go_ret;exact ⟨rfl,hgW,hUg⟩
theorem T_boolsX:SlT Tryz.prog 147 4 1 1:=by
 obtain ⟨i,h1,h2,h3,h4⟩:=info_parts (show (Tryz.prog.info? 4).map (fun i=>(i.zero,i.size,i.bytes))=some (some (.bool false),1,1) from by kernel_rfl)
 exact ⟨Tryz.underlying147,⟨i,_,h1,h2,h3,h4,rfl⟩,by omega⟩
theorem zero_boolX:(Tryz.prog.info? 4).bind (·.zero)=some (.bool false):=by kernel_rfl
theorem VBlk.new0 (w:World) (n:Nat):VBlk (w.alloc (.cells (Array.replicate (n+1) (.int .i64 0)) 3)) w.heap.size (0::List.replicate n 0):=by
 unfold VBlk;rw [show (icells (0::List.replicate n 0)).toArray=Array.replicate (n+1) (Value.int .i64 0) by rw [←List.replicate_succ];simp [icells]];exact Blk.new _ _ _
set_option maxRecDepth 100000 in
set_option maxHeartbeats 4000000 in
theorem validRule_c (r:Rl) (a:RlA) (F:Nat→Prop) (w:World) (hk:RlK w F r a) (hz:RlSz r) :
  Calls Tryz.prog 39 #[rlv r a] w fun e w'=>e=.returned (.bool (refF r))∧Upd Non w w':=by
 obtain ⟨W,HW⟩:=nm (w.alloc (.cells (rlCells r a) 41));have hU:Upd Non w W:=by rw [←HW.out];exact Upd.refl.alloc _
 have hb:Blk W w.heap.size 41 (rlCells r a):=by rw [←HW.out];exact Blk.new _ _ _
 have hsz:W.heap.size=w.heap.size+1:=by rw [←HW.out];simp
 have e0:=HW.out;have hK:=(hk.mono (G:=fun k=>k<w.heap.size) (fun _ h _=>h)).upd hU (fun _ _ _ f=>f);have HC:=h_ (fun (w':World) (u:Upd Non W w')=>rl_cells (hb.upd u (fun f=>f)));obtain ⟨c0,c1,c2,c3,c4,c5,c6,c7,c8,c9,c10,c11,c12,c13⟩:=HC.out W Upd.refl;have CN:=h_ (fun w'=>r15validName_c r.name w' hz.n);have CSL:=h_ (fun (w':World) (u:Upd Non W w')=>r15Size_c r.l w' _ a.la a.lc (PtK.upd u (fun _ _ _ f=>f) _ _ _ hK.l) hz.l);have CSR:=h_ (fun (w':World) (u:Upd Non W w')=>r15Size_c r.r w' _ a.ra a.rc (PtK.upd u (fun _ _ _ f=>f) _ _ _ hK.r) hz.r);have HZ:=h_ hz;have HK:=h_ hK;unfold pv at CSL CSR;unfold rlv;unfold rlCells at e0 ⊢;obtain ⟨R,HR⟩:=nm (refF r);rw [HR.out];have HR1:Hid (R=refF r):=HR.out.symm;unfold refF at HR1;clear hk hz hK HR hb;obtain ⟨vn,Hvn⟩:=nm (nameF r.name);rw [Hvn.out] at CN HR1;obtain ⟨b1,f1⟩:∃b,decide (r.vars<0)=b:=⟨_,rfl⟩;obtain ⟨b2,f2⟩:∃b,decide (6<r.vars)=b:=⟨_,rfl⟩;obtain ⟨b3,f3⟩:∃b,decide (r.imms<0)=b:=⟨_,rfl⟩;obtain ⟨b4,f4⟩:∃b,decide (6<r.imms)=b:=⟨_,rfl⟩
 obtain ⟨b6,f6⟩:∃b,decide ((6:Int)<(r.conds.length:Int))=b:=⟨_,rfl⟩;have F1:=h_ f1;have F2:=h_ f2;have F3:=h_ f3;have F4:=h_ f4;have F6:=h_ f6;go_enter Tryz.func39,Tryz.ntmps39
 go_upto_region 1 with fail
 go_cut [38] (fun t wx=>t=.bool (b1 || b2 || b3 || b4 || !vn || b6)∧Upd Non W wx)
 case first =>
  cases b1 with
  | true=>go_wp2_with fail;go_meet;exact ⟨rfl,Upd.refl⟩
  | false=>cases b2 with
   | true=>go_wp2_with fail;go_meet;exact ⟨rfl,Upd.refl⟩
   | false=>cases b3 with
    | true=>go_wp2_with fail;go_meet;exact ⟨rfl,Upd.refl⟩
    | false=>cases b4 with
     | true=>go_wp2_with fail;go_meet;exact ⟨rfl,Upd.refl⟩
     | false =>
      go_wp2_with fail
      refine (CN.out _).mono ?_;rintro e w3 ⟨rfl,q3,rfl⟩;have u3:Upd Non W (W.drewN q3):=Upd.refl.drewN _
      cases vn with
      | false=>go_wp2_with fail;go_meet;exact ⟨rfl,u3⟩
      | true=>go_wp2_with fail;go_meet;exact ⟨by cases b6 <;> rfl,u3⟩
 case rest =>
 obtain ⟨w1,rfl⟩:∃w1:World,w1=wc:=⟨_,rfl⟩;obtain ⟨rfl,u1⟩:=hcut;clear c0 c1 c2 c3 c4 c5 c6 c7 c8 c9 c10 c11 c12 c13;obtain ⟨c0,c1,c2,c3,c4,c5,c6,c7,c8,c9,c10,c11,c12,c13⟩:=HC.out _ u1;clear f1 f2 f3 f4 f6
 cases hT:(b1 || b2 || b3 || b4 || !vn || b6) with
 | true =>
  have HF:Hid (R=false):=by
   show _=_;rw [HR1.out];rw [show (decide (0≤r.vars∧r.vars≤6∧0≤r.imms∧r.imms≤6)&&vn&&decide (r.conds.length≤6))=false from ?_]
   ·simp
   ·rw [Bool.eq_false_iff];intro q;simp only [Bool.and_eq_true,decide_eq_true_eq] at q;obtain ⟨⟨⟨q1,q2,q3,q4⟩,q5⟩,q6⟩:=q;rw [←F1.out,←F2.out,←F3.out,←F4.out,←F6.out,q5] at hT;simp at hT;omega
  have HU:=hU.then_non u1;clear hT;go_wp2_with fail
  go_ret;exact ⟨by rw [HF.out];rfl,HU⟩
 | false =>
  obtain ⟨hv,h6,hvn⟩:(0≤r.vars∧r.vars≤6∧0≤r.imms∧r.imms≤6)∧r.conds.length≤6∧vn=true:=by
   rw [←F1.out,←F2.out,←F3.out,←F4.out,←F6.out] at hT;simp only [Bool.or_eq_false_iff,decide_eq_false_iff_not,Bool.not_eq_false'] at hT;obtain ⟨⟨⟨⟨⟨q1,q2⟩,q3⟩,q4⟩,q5⟩,q6⟩:=hT;exact ⟨by omega,by omega,q5⟩
  subst hvn;rw [dT_ hv,dT_ h6] at HR1;have H6:=h_ h6;have HT:=h_ hT;clear h6 hT CN F1 F2 F3 F4 F6;obtain ⟨n,Hn⟩:∃n:Nat,Hid (r.vars=(n:Int)):=Int.eq_ofNat_of_zero_le hv.1;obtain ⟨m,Hm⟩:∃m:Nat,Hid (r.imms=(m:Int)):=Int.eq_ofNat_of_zero_le hv.2.2.1;have hn6:n≤6:=by have:=Hn.out;omega
  have hm6:m≤6:=by have:=Hm.out;omega
  have HVN:Hid (r.vars.toNat=n):=by show _=_;rw [Hn.out];rfl
  rw [HVN.out,Hm.out] at HR1;rw [show ((m:Int)).toNat=m from rfl] at HR1;clear hv;obtain ⟨d0,g0⟩:∃b,(r.l.v != 0)=b:=⟨_,rfl⟩;obtain ⟨d1,g1⟩:∃b,decide ((24:Int)<(r.l.size:Int))=b:=⟨_,rfl⟩;obtain ⟨d2,g2⟩:∃b,decide ((24:Int)<(r.r.size:Int))=b:=⟨_,rfl⟩;have G0:=h_ g0;have G1:=h_ g1;have G2:=h_ g2
  go_upto_region 3 with fail
  go_cut [54] (fun t wx=>t=.bool (d0 || d1 || d2)∧Upd Non W wx)
  case first =>
   cases d0 with
   | true=>go_wp2_with fail;go_meet;exact ⟨rfl,u1⟩
   | false =>
    go_wp2_with fail
    refine (CSL.out _ u1).mono ?_;rintro e w2 ⟨rfl,u2⟩;have U2:=u1.then_non u2;obtain ⟨c0,c1,c2,c3,c4,c5,c6,c7,c8,c9,c10,c11,c12,c13⟩:=HC.out _ U2
    cases d1 with
    | true=>go_wp2_with fail;go_meet;exact ⟨rfl,U2⟩
    | false =>
     go_wp2_with fail
     refine (CSR.out _ U2).mono ?_;rintro e w3 ⟨rfl,u3⟩;go_wp2_with fail
     go_meet;exact ⟨by cases d2 <;> rfl,U2.then_non u3⟩
  case rest =>
  obtain ⟨w2,rfl⟩:∃w2:World,w2=wc:=⟨_,rfl⟩;obtain ⟨rfl,u2⟩:=hcut;clear c0 c1 c2 c3 c4 c5 c6 c7 c8 c9 c10 c11 c12 c13 u1 g0 g1 g2;obtain ⟨c0,c1,c2,c3,c4,c5,c6,c7,c8,c9,c10,c11,c12,c13⟩:=HC.out _ u2
  cases hT:(d0 || d1 || d2) with
  | true =>
   have HF:Hid (R=false):=by
    show _=_;rw [HR1.out,dF_]
    ·simp
    ·rintro ⟨q1,q2,q3⟩;rw [←G0.out,←G1.out,←G2.out,q1] at hT;simp at hT;omega
   have HU:=hU.then_non u2;clear hT;go_wp2_with fail
   go_ret;exact ⟨by rw [HF.out];rfl,HU⟩
  | false =>
   have hq:r.l.v=0∧r.l.size≤24∧r.r.size≤24:=by
    rw [←G0.out,←G1.out,←G2.out] at hT;simp only [Bool.or_eq_false_iff,decide_eq_false_iff_not,bne_eq_false_iff_eq] at hT;obtain ⟨⟨q1,q2⟩,q3⟩:=hT;exact ⟨q1,by omega,by omega⟩
   rw [dT_ hq] at HR1;have HT2:=h_ hT;clear hT hq CSL CSR G0 G1 G2;have hmkN:=fun w=>run_mk (P:=Tryz.prog) T_ints' zero_int_ rfl (n+1) (by omega) (by omega) w
   rw [show ((n+1:Nat):Int)=(n:Int)+1 by omega] at hmkN;have hmkB:=fun w=>run_mk (P:=Tryz.prog) T_boolsX zero_boolX rfl (n+1) (by omega) (by omega) w
   rw [show ((n+1:Nat):Int)=(n:Int)+1 by omega] at hmkB;have hmkC:=fun w=>run_mk (P:=Tryz.prog) T_boolsX zero_boolX rfl (m+1) (by omega) (by omega) w
   rw [show ((m+1:Nat):Int)=(m:Int)+1 by omega] at hmkC;rw [Hn.out] at c12;rw [Hm.out] at c13;have HSZ:Hid (r.l.size≤1000000000000∧r.r.size≤1000000000000):=⟨HZ.out.l,HZ.out.r⟩;obtain ⟨w3,Hw3⟩:=nm (w2.alloc (.cells (Array.replicate (n+1) (.int .i64 0)) 3));have ew3:=Hw3.out;have uA:Upd Non w2 w3:=by rw [←ew3];exact Upd.refl.alloc _
   have hgA:VBlk w3 w2.heap.size (0::List.replicate n 0):=by rw [←ew3];exact VBlk.new0 _ _
   have u3:=u2.then_non uA;have hs2:=u2.size;have hsA:w3.heap.size=w2.heap.size+1:=by rw [←ew3];simp
   clear c0 c1 c2 c3 c4 c5 c6 c7 c8 c9 c10 c11;go_wp2_with fail
   obtain ⟨wD,HwD⟩:=nm w3.drew;have uD:Upd Non w3 wD:=by rw [←HwD.out];exact Upd.refl.drew
   have vD:=u3.then_non uD
   have HS:∀w',Upd Non W w'→(w'.cell? ⟨w.heap.size,1,none⟩=some (.int .i64 r.l.v)∧w'.cell? ⟨w.heap.size,2,none⟩=some (.int .i64 r.l.op)∧w'.cell? ⟨w.heap.size,3,none⟩=some (.int .i64 r.l.imm)∧w'.cell? ⟨w.heap.size,4,none⟩=some (.int .i64 r.l.iv)∧w'.cell? ⟨w.heap.size,5,none⟩=some (.slice a.la r.l.kids.length a.lc)∧w'.cell? ⟨w.heap.size,6,none⟩=some (.int .i64 r.r.v)∧w'.cell? ⟨w.heap.size,7,none⟩=some (.int .i64 r.r.op)∧w'.cell? ⟨w.heap.size,8,none⟩=some (.int .i64 r.r.imm)∧w'.cell? ⟨w.heap.size,9,none⟩=some (.int .i64 r.r.iv)∧w'.cell? ⟨w.heap.size,10,none⟩=some (.slice a.ra r.r.kids.length a.rc)∧w'.cell? ⟨w.heap.size,13,none⟩=some (.int .i64 m)):=fun w' u=>by
    obtain ⟨c0,c1,c2,c3,c4,c5,c6,c7,c8,c9,c10,c11,c12,c13⟩:=HC.out w' u;rw [Hm.out] at c13;exact ⟨c1,c2,c3,c4,c5,c6,c7,c8,c9,c10,c13⟩
   have HS:=h_ HS;have hFg:¬(fun k=>k<w.heap.size) w2.heap.size:=by show ¬w2.heap.size<w.heap.size;omega
   have C2:=h_ (r15fits_c r.l wD _ a.la a.lc w2.heap.size (n+1) 0 m (List.replicate n 0) (PtK.upd vD (fun _ _ _ f=>f) _ _ _ HK.out.l) hFg (Blk.upd hgA uD (fun f=>f)) HSZ.out.1 (by simp;omega) (by omega))
   rw [List.length_replicate] at C2;have hl1:(vPt r.l 0 m (List.replicate n 0)).2.length=n:=by rw [vPt_len,List.length_replicate]
   obtain ⟨p1,Hp1⟩:=nm (vPt r.l 0 m (List.replicate n 0)).1;obtain ⟨v1,Hv1⟩:=nm (vPt r.l 0 m (List.replicate n 0)).2;rw [Hp1.out,Hv1.out] at C2 HR1;rw [Hv1.out] at hl1;have HL1:=h_ hl1;unfold pv at C2;clear hl1 hgA;go_wp2_with fail
   refine wp_region_held_drew (S:=fun w'=>w'.cell? ⟨w.heap.size,1,none⟩=some (.int .i64 r.l.v)∧w'.cell? ⟨w.heap.size,2,none⟩=some (.int .i64 r.l.op)∧w'.cell? ⟨w.heap.size,3,none⟩=some (.int .i64 r.l.imm)∧w'.cell? ⟨w.heap.size,4,none⟩=some (.int .i64 r.l.iv)∧w'.cell? ⟨w.heap.size,5,none⟩=some (.slice a.la r.l.kids.length a.lc)∧w'.cell? ⟨w.heap.size,6,none⟩=some (.int .i64 r.r.v)∧w'.cell? ⟨w.heap.size,7,none⟩=some (.int .i64 r.r.op)∧w'.cell? ⟨w.heap.size,8,none⟩=some (.int .i64 r.r.imm)∧w'.cell? ⟨w.heap.size,9,none⟩=some (.int .i64 r.r.iv)∧w'.cell? ⟨w.heap.size,10,none⟩=some (.slice a.ra r.r.kids.length a.rc)∧w'.cell? ⟨w.heap.size,13,none⟩=some (.int .i64 m)) (by kernel_rfl) (by rw [HwD.out];exact HS.out _ vD) (fun hHeld=>?_)
   rw [HwD.out] at hHeld ⊢;refine wpT 0 ?_;(try simp only [y_,z_]);refine wpT 1 ?_;(try simp only [y_,z_]);refine wpT 2 ?_;(try simp only [y_,z_]);refine wpT 3 ?_;(try simp only [y_,z_]);refine wpT 4 ?_;(try simp only [y_,z_]);refine aR_ (rs:=[5]) (by kernel_rfl) (by simp) ?_;refine aC_ rfl (fun K hK=>?_) aN_;go_simp;refine C2.out.mono ?_;rintro e w5 ⟨rfl,hg5,u5⟩;have U5:Upd Non W w5:=vD.trans u5 (fun i hi h=>by omega);have HG5:=h_ hg5;clear hg5 C2;go_wp2_with fail
   refine hK.out _ _ ?_ (fun hHeld=>?_)
   ·exact HS.out _ U5
   clear hK K;(try simp only [y_,z_])
   cases p1 with
   | false =>
    refine wpT 6 ?_;(try simp only [y_,z_]);refine wpT 7 ?_;(try simp only [y_,z_]);refine wpU 8 ?_;(try simp only [y_,z_]);refine wpU 9 ?_;(try simp only [y_,z_]);refine wpU 10 ?_;(try simp only [y_,z_]);refine wpU 11 ?_;(try simp only [y_,z_]);refine wpU 12 ?_;(try simp only [y_,z_]);refine wpU 13 ?_;(try simp only [y_,z_]);refine wpU 14 ?_;(try simp only [y_,z_]);refine wpU 15 ?_;(try simp only [y_,z_]);refine wpU 16 ?_;(try simp only [y_,z_]);refine wpU 17 ?_;(try simp only [y_,z_]);refine wpU 18 ?_;(try simp only [y_,z_]);refine wpT 19 ?_;(try simp only [y_,z_]);refine aD_ (by kernel_rfl) ?_ _;have HF:Hid (R=false):=by show _=_;rw [HR1.out];simp
    have HU:=hU.then_non U5;go_wp2_with fail
    go_ret;exact ⟨by rw [HF.out];rfl,HU⟩
   | true =>
    have C3:=h_ (fun (w':World) (u:Upd Non w5 w')=>r15fits_c r.r w' _ a.ra a.rc w2.heap.size (n+1) (pSortF r.l.op) m v1 (PtK.upd (U5.then_non u) (fun _ _ _ f=>f) _ _ _ HK.out.r) hFg (Blk.upd HG5.out u (fun f=>f)) HSZ.out.2 (by rw [HL1.out];omega) (by omega))
    rw [HL1.out] at C3;have CP:=h_ (fun (w':World)=>pSort_c r.l.op w');obtain ⟨so,Hso⟩:=nm (pSortF r.l.op);rw [Hso.out] at C3 HR1 CP;have hl2:(vPt r.r so m v1).2.length=n:=by rw [vPt_len,HL1.out]
    obtain ⟨p2,Hp2⟩:=nm (vPt r.r so m v1).1;obtain ⟨v2,Hv2⟩:=nm (vPt r.r so m v1).2;rw [Hp2.out,Hv2.out] at C3 HR1;rw [Hv2.out] at hl2;have HL2:=h_ hl2;unfold pv at C3;clear hl2;refine wpT 6 ?_;(try simp only [y_,z_]);refine wpT 7 ?_;(try simp only [y_,z_]);refine wpT 8 ?_;(try simp only [y_,z_]);refine wpT 9 ?_;(try simp only [y_,z_]);refine wpT 10 ?_;(try simp only [y_,z_]);refine wpT 11 ?_;(try simp only [y_,z_]);refine wpT 12 ?_;(try simp only [y_,z_]);refine wpAnyH_takeC (i:=13) (v:=?v1) rfl (by kernel_rfl) (by kernel_rfl) (by kernel_rfl) (fun _ _ _ h=>h) ⟨by rfl,?f1,?a1,?r1,?c1⟩ (by assumption) ?m1
    case r1=>intro w;go_simp;constructor <;> with_reducible rfl
    case c1=>intro W hSw;refine (CP.out W).mono ?_;rintro e w' ⟨rfl,rfl⟩;constructor <;> with_reducible rfl
    (try simp only [y_,z_]);refine wpT 14 ?_;(try simp only [y_,z_]);refine wpT 15 ?_;(try simp only [y_,z_]);refine wpT 16 ?_;(try simp only [y_,z_]);refine aR_ (rs:=[17]) (by kernel_rfl) (by simp) ?_;refine aC_ rfl (fun K hK=>?_) aN_;go_simp;refine (C3.out _ Upd.refl).mono ?_;rintro e w7 ⟨rfl,hg7,u7⟩;have U7:Upd Non W w7:=U5.trans u7 (fun i hi h=>by omega);have HG7:=h_ hg7;clear hg7 C3;go_wp2_with fail
    refine hK.out _ _ ?_ (fun hHeld=>?_)
    ·exact HS.out _ U7
    clear hK K;(try simp only [y_,z_]);refine wpT 18 ?_;(try simp only [y_,z_]);refine wpT 19 ?_;(try simp only [y_,z_]);refine aD_ (by kernel_rfl) ?_ _
    cases p2 with
    | false =>
     have HF:Hid (R=false):=by show _=_;rw [HR1.out];simp
     have HU:=hU.then_non U7;go_wp2_with fail
     go_ret;exact ⟨by rw [HF.out];rfl,HU⟩
    | true =>
     obtain ⟨x1,Hx1⟩:=nm (((markV (nodes r.l) (List.replicate (n+1) false)).drop 1).all id);obtain ⟨x2,Hx2⟩:=nm (((markI (nodes r.l) (List.replicate (m+1) false)).drop 1).all id);obtain ⟨x3,Hx3⟩:=nm (r.conds.all fun c=>condF c (0::v2) (m:Int));rw [Hx1.out,Hx2.out,Hx3.out] at HR1;have HR2:Hid (R=(x1&&(x2&&x3))):=by show _=_;rw [HR1.out];simp [Bool.and_assoc]
     have HVL1:Hid ((markV (nodes r.l) (List.replicate (n+1) false)).length=n+1):=by show _=_;rw [Go.Proofs.YtifhejahbbnkiaaGreat.markV_len,List.length_replicate]
     have HIL1:Hid ((markI (nodes r.l) (List.replicate (m+1) false)).length=m+1):=by show _=_;rw [Go.Proofs.YtifhejahbbnkiaaGreat.markI_len,List.length_replicate]
     have HB1:Hid (x1=true↔∀i:Nat,1≤i→i≤n→(markV (nodes r.l) (List.replicate (n+1) false)).getD i false=true):=by
      show _↔_;rw [←Hx1.out,all_drop (d:=false) HVL1.out];rfl
     have HB2:Hid (x2=true↔∀i:Nat,1≤i→i≤m→(markI (nodes r.l) (List.replicate (m+1) false)).getD i false=true):=by
      show _↔_;rw [←Hx2.out,all_drop (d:=false) HIL1.out];rfl
     obtain ⟨w8,Hw8⟩:=nm (w7.alloc (.cells (Array.replicate (n+1) (.bool false)) 4));have ew8:=Hw8.out;have u8:Upd Non w7 w8:=by rw [←ew8];exact Upd.refl.alloc _
     have hgp:BBlk w8 w7.heap.size (List.replicate (n+1) false):=by rw [←ew8];exact BBlk.new _ _
     have hs8:w8.heap.size=w7.heap.size+1:=by rw [←ew8];simp
     obtain ⟨w9,Hw9⟩:=nm (w8.alloc (.cells (Array.replicate (m+1) (.bool false)) 4));have ew9:=Hw9.out;have u9:Upd Non w8 w9:=by rw [←ew9];exact Upd.refl.alloc _
     have hgi:BBlk w9 (w7.heap.size+1) (List.replicate (m+1) false):=by rw [←ew9,←hs8];exact BBlk.new _ _
     have hgp9:BBlk w9 w7.heap.size (List.replicate (n+1) false):=Blk.upd hgp u9 (fun f=>f);have U8:=U7.then_non u8;have U9:=U8.then_non u9;have hs7:=U7.size;have hFp:¬(fun k=>k<w.heap.size) w7.heap.size:=by show ¬w7.heap.size<w.heap.size;omega
     have hFi:¬(fun k=>k<w.heap.size) (w7.heap.size+1):=by show ¬w7.heap.size+1<w.heap.size;omega
     have C4:=h_ (r15occurring_c r.l w9 _ a.la a.lc w7.heap.size (n+1) (w7.heap.size+1) (m+1) (List.replicate (n+1) false) (List.replicate (m+1) false) (PtK.upd U9 (fun _ _ _ f=>f) _ _ _ HK.out.l) hFp hFi (by omega) hgp9 hgi HSZ.out.1)
     rw [List.length_replicate,List.length_replicate] at C4;obtain ⟨V1,HV1⟩:=nm (markV (nodes r.l) (List.replicate (n+1) false));obtain ⟨I1,HI1⟩:=nm (markI (nodes r.l) (List.replicate (m+1) false));rw [HV1.out] at C4 HVL1 HB1;rw [HI1.out] at C4 HIL1 HB2;unfold pv at C4;obtain ⟨_,_,_,_,_,_,_,_,_,_,_,_,d12,_⟩:=HC.out _ U7;rw [Hn.out] at d12;obtain ⟨_,_,_,_,_,_,_,_,_,_,_,_,_,d13⟩:=HC.out _ U8;rw [Hm.out] at d13;obtain ⟨_,f1,f2,f3,f4,f5,_,_,_,_,_,_,_,_⟩:=HC.out _ U9;clear hgp hgi hgp9 HR1 c12 c13;go_wp2_with fail
     refine C4.out.mono ?_;rintro e wA ⟨rfl,hgp,hgi,uA⟩;have UA:Upd Non W wA:=U9.trans uA (fun i hi h=>by omega);have HU:=hU.then_non UA
     have HGA:Hid (VBlk wA w2.heap.size (0::v2)):=by
      have h1:=Blk.upd HG7.out u8 (fun f=>f);have h2:=Blk.upd h1 u9 (fun f=>f);exact Blk.upd h2 uA (by have:=Blk.lt HG7.out;omega)
     clear C4 d12 d13 f1 f2 f3 f4 f5 hmkN hmkB hmkC;go_wp2_with fail
     go_loopg [6] n (fun g i wr=>∃k:Nat,Hid (g=n+1 - k)∧1≤k∧k≤n+1∧i=.int .i64 k∧Hid (∀j:Nat,1≤j→j<k→V1.getD j false=true)∧wA=wr)
     case atStart=>exact ⟨1,by show _=_;omega,by omega,by omega,rfl,fun j h1 h2=>by omega,rfl⟩
     case round =>
      obtain ⟨k,Hg,hk1,hk2,rfl,HA,rfl⟩:=hrel;by_cases hlt:k<n+1
      ·have t3:decide ((k:Int)<(n:Int)+1)=true:=dT_ (by omega);have hkN:(k:Int)<(n:Int)+1:=by omega
       have hk0:(0:Int)≤(k:Int):=by omega
       have z1:=BBlk.cell hgp (i:=k) (by rw [HVL1.out];omega);obtain ⟨z,Hz⟩:=nm (V1.getD k false);rw [Hz.out] at z1
       cases z with
       | false =>
        have hb:x1=false:=by
         rw [Bool.eq_false_iff];intro q;have:=HB1.out.1 q k hk1 (by omega);rw [Hz.out] at this;cases this
        have HF:Hid (R=false):=by show _=_;rw [HR2.out,hb];simp
        clear hb;go_wp2_with fail
        go_ret;exact ⟨by rw [HF.out];rfl,HU⟩
       | true =>
        have HA2:Hid (∀j:Nat,1≤j→j<k+1→V1.getD j false=true):=by
         intro j j1 j2;by_cases e:j=k
         ·rw [e];exact Hz.out
         ·exact HA.out j j1 (by omega)
        go_wp2_with fail
        go_roundg (n+1 - (k+1))
        case measure=>rw [Hg.out];omega
        case rel=>exact ⟨k+1,rfl,by omega,by omega,by go_num,HA2,rfl⟩
      ·have t3:decide ((k:Int)<(n:Int)+1)=false:=dF_ (by omega);have hb1:x1=true:=HB1.out.2 (fun i i1 i2=>HA.out i i1 (by omega));subst hb1;have HR3:Hid (R=(x2&&x3)):=by show _=_;rw [HR2.out];rfl
       clear HA Hg hk1 hk2 hlt;go_wp2_with fail
       go_loopg [7] m (fun g i wr=>∃k:Nat,Hid (g=m+1 - k)∧1≤k∧k≤m+1∧i=.int .i64 k∧Hid (∀j:Nat,1≤j→j<k→I1.getD j false=true)∧wA=wr)
       case atStart=>exact ⟨1,by show _=_;omega,by omega,by omega,rfl,fun j h1 h2=>by omega,rfl⟩
       case round =>
        obtain ⟨k,Hg,hk1,hk2,rfl,HA,rfl⟩:=hrel;by_cases hlt:k<m+1
        ·have t3:decide ((k:Int)<(m:Int)+1)=true:=dT_ (by omega);have hkN:(k:Int)<(m:Int)+1:=by omega
         have hk0:(0:Int)≤(k:Int):=by omega
         have z1:=BBlk.cell hgi (i:=k) (by rw [HIL1.out];omega);obtain ⟨z,Hz⟩:=nm (I1.getD k false);rw [Hz.out] at z1
         cases z with
         | false =>
          have hb:x2=false:=by
           rw [Bool.eq_false_iff];intro q;have:=HB2.out.1 q k hk1 (by omega);rw [Hz.out] at this;cases this
          have HF:Hid (R=false):=by show _=_;rw [HR3.out,hb];simp
          clear hb;go_wp2_with fail
          go_ret;exact ⟨by rw [HF.out];rfl,HU⟩
         | true =>
          have HA2:Hid (∀j:Nat,1≤j→j<k+1→I1.getD j false=true):=by
           intro j j1 j2;by_cases e:j=k
           ·rw [e];exact Hz.out
           ·exact HA.out j j1 (by omega)
          go_wp2_with fail
          go_roundg (m+1 - (k+1))
          case measure=>rw [Hg.out];omega
          case rel=>exact ⟨k+1,rfl,by omega,by omega,by go_num,HA2,rfl⟩
        ·have t3:decide ((k:Int)<(m:Int)+1)=false:=dF_ (by omega);have hb1:x2=true:=HB2.out.2 (fun i i1 i2=>HA.out i i1 (by omega));subst hb1;have HR4:Hid (R=(x3)):=by show _=_;rw [HR3.out];rfl
         clear HA Hg hk1 hk2 hlt;obtain ⟨cn,Hcn⟩:=nm r.conds.length;have hcn:=H6.out;rw [Hcn.out] at hcn;go_wp2_with fail
         go_loopg [8] cn (fun g i wr=>∃q:Nat,Hid (g=cn - q)∧q≤cn∧i=.int .i64 q∧Hid (∀j (h:j<r.conds.length),j<q→condF r.conds[j] (0::v2) (m:Int)=true)∧Upd Non wA wr)
         case atStart=>exact ⟨0,rfl,by omega,rfl,fun j h1 h2=>by omega,Upd.refl⟩
         case round =>
          obtain ⟨q,Hg,hq,rfl,HA,hu⟩:=hrel;have HUC:=UA.then_non hu;by_cases hlt:q<cn
          ·have hql:q<r.conds.length:=by rw [Hcn.out];exact hlt
           have hcv:=HK.out.c.upd HUC (fun _ _ _ f=>f);obtain ⟨cb,co,ecA,hF,hcb,k0,k1,k2,k3⟩:=hcv.at_ hql
           have hcond:Hid (∀b,condF r.conds[q] (0::v2) (m:Int)=b→(b=false→R=false)∧(b=true→∀j (h:j<r.conds.length),j<q+1→condF r.conds[j] (0::v2) (m:Int)=true)):=by
            intro b hb;refine ⟨fun h=>?_,fun h j hj1 hj2=>?_⟩
            ·rw [HR4.out,←Hx3.out,Bool.eq_false_iff];intro h2;rw [List.all_eq_true] at h2;have:=h2 _ (List.getElem_mem hql);rw [hb,h] at this;cases this
            ·by_cases e:j=q
             ·subst e;rw [hb,h]
             ·exact HA.out j hj1 (by omega)
           generalize r.conds[q]=x at *;obtain ⟨wE,HwE⟩:=nm wr.drew;have uE:Upd Non wr wE:=by rw [←HwE.out];exact Upd.refl.drew
           have UE:=HUC.then_non uE
           have HS3:Hid (∀w',Upd Non wr w'→(w'.cell? ⟨w.heap.size,11,none⟩=some (.slice (some ⟨cb,co,none⟩) cn a.cc)∧w'.cell? ⟨w.heap.size,13,none⟩=some (.int .i64 m)∧w'.cell? ⟨cb,co+q * 4,none⟩=some (.int .i64 x.kind)∧w'.cell? ⟨cb,co+q * 4+1,none⟩=some (.int .i64 x.a)∧w'.cell? ⟨cb,co+q * 4+2,none⟩=some (.int .i64 x.b)∧w'.cell? ⟨cb,co+q * 4+3,none⟩=some (.int .i64 x.n))):=fun w' u=>by
            obtain ⟨_,_,_,_,_,_,_,_,_,_,_,d11,_,d13⟩:=HC.out _ (HUC.then_non u);rw [ecA,Hcn.out] at d11;rw [Hm.out] at d13;exact ⟨d11,d13,u_ k0 u (fun f=>f),u_ k1 u (fun f=>f),u_ k2 u (fun f=>f),u_ k3 u (fun f=>f)⟩
           have CC:=h_ (r15validCond_c x (0::v2) (m:Int) (some ⟨w2.heap.size,0,none⟩) (n+1) (fun _=>True) wE (VBlk.ints (Blk.upd (Blk.upd HGA.out hu (fun f=>f)) uE (fun f=>f))))
           rw [List.length_cons,HL2.out] at CC;obtain ⟨cr,Hcr⟩:=nm (condF x (0::v2) (m:Int));rw [Hcr.out] at CC hcond;have HCD:=h_ (hcond.out cr rfl);have hq0:(0:Int)≤(q:Int):=by omega
           have hqn:(q:Int)<(cn:Int):=by omega
           obtain ⟨d11,d13,_⟩:=HS3.out wr Upd.refl;have t5:decide (q<cn)=true:=dT_ hlt;clear hcv hcond k0 k1 k2 k3 HA;go_wp2_with fail
           refine wp_region_held_drew (S:=fun w'=>w'.cell? ⟨w.heap.size,11,none⟩=some (.slice (some ⟨cb,co,none⟩) cn a.cc)∧w'.cell? ⟨w.heap.size,13,none⟩=some (.int .i64 m)∧w'.cell? ⟨cb,co+q * 4,none⟩=some (.int .i64 x.kind)∧w'.cell? ⟨cb,co+q * 4+1,none⟩=some (.int .i64 x.a)∧w'.cell? ⟨cb,co+q * 4+2,none⟩=some (.int .i64 x.b)∧w'.cell? ⟨cb,co+q * 4+3,none⟩=some (.int .i64 x.n)) (by kernel_rfl) (by rw [HwE.out];exact HS3.out _ uE) (fun hHeld=>?_)
           rw [HwE.out] at hHeld ⊢;refine wpT 0 ?_;(try simp only [y_,z_]);refine wpT 1 ?_;(try simp only [y_,z_]);refine wpT 2 ?_;(try simp only [y_,z_]);refine wpT 3 ?_;(try simp only [y_,z_]);refine wpT 4 ?_;(try simp only [y_,z_]);refine wpT 5 ?_;(try simp only [y_,z_]);refine wpT 6 ?_;(try simp only [y_,z_]);refine wpT 7 ?_;(try simp only [y_,z_]);refine aR_ (rs:=[8]) (by kernel_rfl) (by simp) ?_;refine aC_ rfl (fun K hK=>?_) aN_;go_simp;refine CC.out.mono ?_;rintro e wG ⟨rfl,uG⟩;go_wp2_with fail
           refine hK.out _ _ ?_ (fun hHeld=>?_)
           ·exact HS3.out _ (uE.then_non uG)
           clear hK K;(try simp only [y_,z_]);refine wpT 9 ?_;(try simp only [y_,z_]);refine aD_ (by kernel_rfl) ?_ _;have HU11:=(hu.then_non uE).then_non uG;have HU:=HU.then_non HU11
           cases cr with
           | false =>
            have HF:Hid (R=false):=HCD.out.1 rfl;go_wp2_with fail
            go_ret;exact ⟨by rw [HF.out];rfl,HU⟩
           | true =>
            have HA2:=h_ (HCD.out.2 rfl);go_wp2_with fail
            simp only [←ecA]
            go_roundg (cn - (q+1))
            case measure=>rw [Hg.out];omega
            case rel=>exact ⟨q+1,rfl,by omega,by go_num,HA2.out,HU11⟩
          ·obtain rfl:cn=q:=by omega
           have HF:Hid (R=true):=by
            show _=_;rw [HR4.out,←Hx3.out,List.all_eq_true];intro c hc;obtain ⟨j,hj,rfl⟩:=List.mem_iff_getElem.1 hc;exact HA.out j hj (by rw [←Hcn.out];exact hj)
           have HU:=HU.then_non hu;obtain ⟨_,_,_,_,_,_,_,_,_,_,_,d11,_,_⟩:=HC.out _ HUC;rw [Hcn.out] at d11;have t5:decide (cn<cn)=false:=by simp
           go_wp2_with fail
           go_ret;exact ⟨by rw [HF.out];rfl,HU⟩
set_option maxRecDepth 100000 in
set_option maxHeartbeats 16000000 in
theorem rApplicable_c (r:Rl) (a:RlA) (F:Nat→Prop) (w:World) (hk:RlK w F r a) (hz:RlSz r) :
  Calls Tryz.prog 23 #[rlv r a] w fun e w'=>e=.returned (.bool (applF r))∧Upd Non w w':=by
 obtain ⟨W,HW⟩:=nm (w.alloc (.cells (rlCells r a) 41));have hU:Upd Non w W:=by rw [←HW.out];exact Upd.refl.alloc _
 obtain ⟨rb,hrb⟩:∃b,w.heap.size=b:=⟨_,rfl⟩;have hb:Blk W rb 41 (rlCells r a):=by rw [←HW.out,←hrb];exact Blk.new _ _ _
 have e0:=HW.out;have hK:=(hk.mono (G:=fun k=>k<w.heap.size) (fun _ h _=>h)).upd hU (fun _ _ _ f=>f);have HC:=h_ (fun (w':World) (u:Upd Non W w')=>rl_cells (hb.upd u (fun f=>f)));obtain ⟨c0,c1,c2,c3,c4,c5,c6,c7,c8,c9,c10,c11,c12,c13⟩:=HC.out W Upd.refl;have CV:=h_ (validRule_c r a _ W hK hz);rw [←imp_ref] at CV;have HK:=h_ hK;have HU:=h_ hU;clear hk hz hK hb hU;unfold rlv at CV ⊢;unfold rlCells at CV e0 ⊢;by_cases hv:implF r=true
 ·have hi:=imok_of hv;have hvo:=applF_vo hv;rw [hv] at CV;have HV:=h_ hv;by_cases him:r.imms > 0
  ·have tim:decide (r.imms > 0)=true:=dT_ him;have HR:Hid (applF r=false):=by show _=_;unfold applF;rw [hv,dF_ (show ¬r.imms=0 by omega)];rfl
   clear him hi hvo hv;go_enter Tryz.func23,Tryz.ntmps23;go_wp2_with fail
   refine CV.out.mono ?_;rintro e w1 ⟨rfl,u1⟩;clear c0 c1 c2 c3 c4 c5 c6 c7 c8 c9 c10 c11 c12 c13;obtain ⟨c0,c1,c2,c3,c4,c5,c6,c7,c8,c9,c10,c11,c12,c13⟩:=HC.out w1 u1;go_wp2_with fail
   go_ret;exact ⟨by rw [HR.out];rfl,HU.out.then_non u1⟩
  ·have him0:r.imms=0:=by
    have h:=hv;rw [imp_ref] at h;unfold refF at h;simp only [Bool.and_eq_true,decide_eq_true_eq] at h;omega
   have tim:decide (r.imms > 0)=false:=dF_ him;have HAP:Hid (applF r=(supF r.l&&supF r.r&&decide (gR r≤6)&&r.conds.all fun c=>decide (1≤c.kind∧c.kind≤4))):=by show _=_;unfold applF;rw [hv,dT_ him0];rfl
   have CL:=h_ (fun (w':World) (u:Upd Non W w')=>rSupported_c 64 r.l w' _ a.la a.lc (PtK.upd u (fun _ _ _ f=>f) _ _ _ HK.out.l) hi.wl hvo.1 (by have:=hi.sl;omega))
   have CR:=h_ (fun (w':World) (u:Upd Non W w')=>rSupported_c 64 r.r w' _ a.ra a.rc (PtK.upd u (fun _ _ _ f=>f) _ _ _ HK.out.r) hi.wr hvo.2 (by have:=hi.sr;omega))
   unfold pv at CL CR;have hgl:=gN_le r.l;have hgr:=gN_le r.r;have hsl:=hi.sl;have hsr:=hi.sr;have HI:=h_ hi;have HG:Hid (gR r=gN r.l+gN r.r):=rfl;obtain ⟨gl,Hgl⟩:=nm (gN r.l);obtain ⟨gr,Hgr⟩:=nm (gN r.r);rw [Hgl.out] at hgl HG;rw [Hgr.out] at hgr HG;have hglb:gl≤24:=by omega
   have hgrb:gr≤24:=by omega
   clear hi hvo him0 him hv hgl hgr hsl hsr;obtain ⟨sl,Hsl⟩:=nm (supF r.l);obtain ⟨sr,Hsr⟩:=nm (supF r.r);unfold spR at CL CR;rw [Hsl.out,Hgl.out] at CL;rw [Hsr.out,Hgr.out] at CR;rw [Hsl.out,Hsr.out] at HAP;obtain ⟨nl,Hnl⟩:=nm (if sl=true then (gl:Int) else 0);obtain ⟨nr,Hnr⟩:=nm (if sr=true then (gr:Int) else 0);rw [Hnl.out] at CL;rw [Hnr.out] at CR;go_enter Tryz.func23,Tryz.ntmps23;go_wp2_with fail
   refine CV.out.mono ?_;rintro e w1 ⟨rfl,u1⟩;clear c0 c1 c2 c3 c4 c5 c6 c7 c8 c9 c10 c11 c12 c13;obtain ⟨c0,c1,c2,c3,c4,c5,c6,c7,c8,c9,c10,c11,c12,c13⟩:=HC.out w1 u1;go_wp2_with fail
   refine (CL.out w1 u1).mono ?_;rintro e w2 ⟨rfl,u2'⟩;have u2:=u1.then_non u2';clear c0 c1 c2 c3 c4 c5 c6 c7 c8 c9 c10 c11 c12 c13 u1 u2';obtain ⟨c0,c1,c2,c3,c4,c5,c6,c7,c8,c9,c10,c11,c12,c13⟩:=HC.out w2 u2;go_wp2_with fail
   refine (CR.out w2 u2).mono ?_;rintro e w3 ⟨rfl,u3'⟩;have u3:=u2.then_non u3';clear c0 c1 c2 c3 c4 c5 c6 c7 c8 c9 c10 c11 c12 c13 u2 u3';obtain ⟨c0,c1,c2,c3,c4,c5,c6,c7,c8,c9,c10,c11,c12,c13⟩:=HC.out w3 u3
   cases sl with
   | false =>
    have HR:Hid (applF r=false):=by show _=_;rw [HAP.out];rfl
    go_wp2_with fail
    go_ret;exact ⟨by rw [HR.out];rfl,HU.out.then_non u3⟩
   | true =>
    cases sr with
    | false =>
     have HR:Hid (applF r=false):=by show _=_;rw [HAP.out];rfl
     go_wp2_with fail
     go_ret;exact ⟨by rw [HR.out];rfl,HU.out.then_non u3⟩
    | true =>
     obtain rfl:(gl:Int)=nl:=by have:=Hnl.out;rwa [if_pos rfl] at this
     obtain rfl:(gr:Int)=nr:=by have:=Hnr.out;rwa [if_pos rfl] at this
     by_cases h6:gl+gr≤6
     ·have t6:decide (gl+gr > 6)=false:=dF_ (by omega);have t6':decide ((gl:Int)+(gr:Int) > 6)=false:=dF_ (by omega);have HAP2:Hid (applF r=r.conds.all fun c=>decide (1≤c.kind∧c.kind≤4)):=by show _=_;rw [HAP.out,HG.out,dT_ h6];rfl
      obtain ⟨CA,hCA⟩:∃x,a.ca=x:=⟨_,rfl⟩;have HCV:Hid (CondsV w3 (fun k=>k<w.heap.size) CA r.conds):=by rw [←hCA];exact HK.out.c.upd u3 (fun _ _ _ f=>f)
      rw [hCA] at c11;obtain ⟨nc,Hnc⟩:=nm r.conds.length;rw [Hnc.out] at c11;have hnc6:nc≤6:=by rw [←Hnc.out];exact HI.out.cn
      have HU3:=h_ (HU.out.then_non u3);clear hCA c0 c1 c2 c3 c4 c5 c6 c7 c8 c9 c10 c12 c13 u3 h6;go_wp2_with fail
      go_loopg [7] nc (fun gg i wr=>∃j:Nat,Hid (gg=nc - j)∧j≤nc∧i=.int .i64 j∧Hid ((r.conds.take j).all (fun c=>decide (1≤c.kind∧c.kind≤4))=true)∧wr=w3)
      case atStart=>exact ⟨0,rfl,by omega,rfl,by rw [List.take_zero];rfl,rfl⟩
      case round =>
       obtain ⟨j,Hg,hj,rfl,HT,rfl⟩:=hrel;by_cases hlt:j<nc
       ·have hjl:j<r.conds.length:=by rw [Hnc.out];exact hlt
        obtain ⟨b,o,rfl,_,hbw,k0,k1,k2,k3⟩:=HCV.out.at_ hjl;have hmem:=List.getElem_mem hjl;have htk:=List.take_succ_eq_append_getElem hjl;generalize r.conds[j]=cd at *;have hj0:(0:Int)≤(j:Int):=by omega
        have hjn:(j:Int)<(nc:Int):=by omega
        obtain ⟨kind,Hkind⟩:=nm cd.kind;rw [Hkind.out] at k0;by_cases hkk:1≤kind∧kind≤4
        ·have HT2:Hid ((r.conds.take (j+1)).all (fun c=>decide (1≤c.kind∧c.kind≤4))=true):=by show _=_;rw [htk,List.all_append,HT.out,List.all_cons,Hkind.out,dT_ hkk];rfl
         have h4:kind=1∨kind=2∨kind=3∨kind=4:=by omega
         clear hmem htk hkk;rcases h4 with h | h | h | h <;>
         ·subst h;go_wp2_with fail
          go_roundg (nc - (j+1))
          case measure=>rw [Hg.out];omega
          case rel=>exact ⟨j+1,rfl,by omega,by go_num,HT2.out,rfl⟩
        ·have HR:Hid (applF r=false):=by
          show _=_;rw [HAP2.out,Bool.eq_false_iff];intro q;have:=of_decide_eq_true (List.all_eq_true.1 q cd hmem);rw [Hkind.out] at this;exact hkk this
         obtain ⟨n1,n2,n3,n4⟩:(kind != 1)=true∧(kind != 2)=true∧(kind != 3)=true∧(kind != 4)=true:=by simp;omega
         clear hmem htk hkk;go_wp2_with fail
         go_ret;exact ⟨by rw [HR.out];rfl,HU3.out⟩
       ·obtain rfl:nc=j:=by omega
        have HR:Hid (applF r=true):=by show _=_;rw [HAP2.out];have:=HT.out;rwa [List.take_of_length_le (by rw [Hnc.out];exact Nat.le_refl _)] at this
        go_wp2_with fail
        go_ret;exact ⟨by rw [HR.out];rfl,HU3.out⟩
     ·have t6:decide (gl+gr > 6)=true:=dT_ (by omega);have t6':decide ((gl:Int)+(gr:Int) > 6)=true:=dT_ (by omega);have HR:Hid (applF r=false):=by show _=_;rw [HAP.out,HG.out,dF_ h6];rfl
      clear h6;go_wp2_with fail
      go_ret;exact ⟨by rw [HR.out];rfl,HU.out.then_non u3⟩
 ·have hv:implF r=false:=by simpa using hv
  rw [hv] at CV;have HR:Hid (applF r=false):=by show _=_;unfold applF;rw [hv];rfl
  clear hv;go_enter Tryz.func23,Tryz.ntmps23;go_wp2_with fail
  refine CV.out.mono ?_;rintro e w1 ⟨rfl,u1⟩;go_wp2_with fail
  go_ret;exact ⟨by rw [HR.out];rfl,HU.out.then_non u1⟩
theorem ubs_b8s {l:Bs} (h:∀x∈l,x.toNat≤1):b8s (ubs l)=u8s l:=by rw [b8s_u8s,bbs_ubs h]
theorem ubs_len (l:Bs):(ubs l).length=l.length:=List.length_map _
theorem nextS_64 {r:Rl} {L:List AS} {s:AS} (h:s.at_=64):nextS r L s=safeF r (ubs s.bits):=by unfold nextS;rw [if_pos h]
theorem nextS_no {r:Rl} {L:List AS} {s:AS} {k:Nat} (h:s.at_=(k:Int)) (hk:k<64):nextS r L s=(succsF r k (ubs s.bits)).all fun b=>decide (⟨(k:Int)+1,bbs b⟩∈L):=by
 unfold nextS;rw [if_neg (by omega),h];rfl
set_option maxRecDepth 100000 in
set_option maxHeartbeats 16000000 in
theorem rCheckAut_c (r:Rl) (a:RlA) (F:Nat→Prop) (w:World) (hk:RlK w F r a) (hz:RlSz r) (hI:RlI r) {G:Nat→Prop} {LA:Option Addr} {lc n:Nat} {L:List AS} (hL:ElV ElAS 2 w G LA L) (hn:n=L.length) (hLn:n≤10000000000000) :
  Calls Tryz.prog 30 #[rlv r a,.slice LA n lc] w fun e w'=>e=.returned (.bool (chF r L))∧Upd Non w w':=by
 obtain ⟨W,HW⟩:=nm (w.alloc (.cells (rlCells r a) 41));have hU:Upd Non w W:=by rw [←HW.out];exact Upd.refl.alloc _
 obtain ⟨rb,hrb⟩:∃b,w.heap.size=b:=⟨_,rfl⟩;have hb:Blk W rb 41 (rlCells r a):=by rw [←HW.out,←hrb];exact Blk.new _ _ _
 have e0:=HW.out;have hK:=(hk.mono (G:=fun k=>k<w.heap.size) (fun _ h _=>h)).upd hU (fun _ _ _ f=>f);have HLW:=h_ (fun (w':World) (u:Upd Non W w')=>((hL.mono elAS (G:=fun i=>i<w.heap.size) (fun i hi _=>hi)).upd elAS (hU.then_non u) (fun _ _ _ f=>f)))
 obtain ⟨c0,c1,c2,c3,c4,c5,c6,c7,c8,c9,c10,c11,c12,c13⟩:=rl_cells hb;have CB:=h_ (rApplicable_c r a _ W hK hz);have HU:=h_ hU;have HKW:=h_ (fun (w':World) (u:Upd Non W w')=>(hK.upd u (fun _ _ _ f=>f)).mono (G:=fun _=>True) (fun _ _ _=>trivial));have HRW:=h_ (fun (w':World) (u:Upd Non W w')=>rl_cells (hb.upd u (fun f=>f)));have HN:=h_ hn;clear hk hz hK hb hU hL hn;unfold rlv at CB ⊢;unfold rlCells at CB e0 ⊢;go_enter Tryz.func30,Tryz.ntmps30;go_wp2_with fail
 refine CB.out.mono ?_;rintro e w2 ⟨rfl,uu2⟩;obtain ⟨ap,Hap⟩:=nm (applF r);rw [Hap.out];have HU2:=h_ uu2;clear c0 c1 c2 c3 c4 c5 c6 c7 c8 c9 c10 c11 c12 c13 uu2 e0 CB
 cases ap with
 | false =>
  go_wp2_with fail
  go_ret;exact ⟨by rw [chF_not Hap.out];rfl,HU.out.then_non HU2.out⟩
 | true =>
  by_cases hlong:4096<n
  ·have tl:decide ((n:Int) > 4096)=true:=dT_ (by omega);go_wp2_with fail
   go_ret;exact ⟨by rw [chF_long (by rw [←HN.out];exact hlong)];rfl,HU.out.then_non HU2.out⟩
  ·have tl:decide ((n:Int) > 4096)=false:=dF_ (by omega);have hap:=Hap.out;obtain ⟨hg6,him⟩:=ub_sup hap;have hi:=imok_of him;have hst:=stN_le hi;have hsup:=applF_sup hap;have CI:=h_ (rInitStates_c r a _ w2 (HKW.out w2 HU2.out) hap);have HSP:=h_ hsup;have HRO:=h_ (rok_of hap hI);have HST:=h_ hst;have HI:=h_ hi;obtain ⟨sn,Hsn⟩:=nm (stN r);have hsn:sn≤4000:=by rw [←Hsn.out];exact hst
   have hv0:=hi.v0;have hv6':r.vars.toNat≤6:=by have:=hi.v6;omega
   have HVV:Hid (0≤r.vars∧r.vars.toNat≤6):=⟨hv0,hv6'⟩;have hv6:2 ^ r.vars.toNat≤64:=Nat.le_trans (Nat.pow_le_pow_right (by decide) hv6') (by decide);have HSL:Hid (∀k b,(succsF r k b).length=2 ^ r.vars.toNat):=succsF_len r
   have HSLN:Hid (∀k b,b.length=sn→∀x∈succsF r k b,x.length=sn):=fun k b hbl x hx=>by
    obtain ⟨h,_,rfl⟩:=List.mem_map.1 hx;rw [succF_len hsup.1 hsup.2 _ _ (by rw [hbl,Hsn.out]),Hsn.out]
   obtain ⟨H,HH⟩:=nm (2 ^ r.vars.toNat);rw [HH.out] at hv6 HSL;clear hsup hi hst him hap hv0 hv6';unfold rlv rlCells at CI;obtain ⟨c0,c1,c2,c3,c4,c5,c6,c7,c8,c9,c10,c11,c12,c13⟩:=HRW.out w2 HU2.out;go_wp2_with fail
   refine CI.out.mono ?_;rintro e w3 ⟨FA,fn,fc,rfl,hF,_,u3⟩;clear c0 c1 c2 c3 c4 c5 c6 c7 c8 c9 c10 c11 c12 c13 CI;have hfn:fn=(rinF r).length:=by have:=hF.1;rw [List.length_map] at this;exact this
   have hfn6:fn≤64:=by rw [hfn,rinF_len];exact Nat.le_trans (Nat.pow_le_pow_right (by decide) hg6) (by decide)
   have hfn0:0<fn:=by rw [hfn,rinF_len];exact Nat.two_pow_pos _
   have hrl:0<(rinF r).length:=by rw [←hfn];exact hfn0
   have hF0:=rows_at hF (i:=0) (by rw [List.length_map];exact hrl);rw [List.getElem_map] at hF0;obtain ⟨fg,FR,frc,rfl,f0,hfrc,hfsl⟩:=hF0;have hfl:(bbs (rinF r)[0]).length=sn:=by unfold bbs;rw [List.length_map,rinF_rows r _ (List.getElem_mem hrl),Hsn.out]
   rw [hfl] at f0;have HF0:=h_ f0;have HF:=h_ hF;have HFN:=h_ hfn;have HU3:=h_ (HU2.out.then_non u3);have tf0:(0:Int)<(fn:Int):=by omega
   clear hF hfn u3 hg6 f0 hfrc hfsl hfl;go_wp2_with fail
   go_loopg [6,7] n (fun gg s6 _ wr=>∃i:Nat,Hid (gg=n - i)∧i≤n∧s6=.int .i64 i∧Hid (∀s∈L.take i,okS r s=true)∧Hid (Upd Non w3 wr))
   case atStart=>exact ⟨0,rfl,by omega,rfl,(fun s hs=>by rw [List.take_zero] at hs;cases hs),Upd.refl⟩
   case round =>
    obtain ⟨i,Hg,hi,rfl,HOK,HUr⟩:=hrel;obtain ⟨wi,rfl⟩:∃x:World,x=wr:=⟨_,rfl⟩;by_cases hlt:i<n
    ·have hil:i<L.length:=by rw [←HN.out];exact hlt
     obtain ⟨W1,HW1⟩:=nm wi.drew;have HU1:Hid (Upd Non wi W1):=by show Upd Non wi W1;rw [←HW1.out];exact Upd.refl.drew
     have HU31:=h_ (HUr.out.then_non HU1.out);have HUW1:=h_ (HU3.out.then_non HU31.out);have HAT:=h_ (fun (w':World) (u:Upd Non W1 w')=>as_at (HLW.out w' (HUW1.out.then_non u)) hil);obtain ⟨ab,ao,RA,ra,rfl,y0,y1,hra,hsl⟩:=HAT.out W1 Upd.refl;have z0:=u_ (S:=Non) HF0.out HU31.out (fun f=>f);have HMM:=h_ (List.getElem_mem hil);have HTK:Hid (L.take (i+1)=L.take i++[L[i]]):=List.take_succ_eq_append_getElem hil;have HOKS:Hid (0≤L[i].at_∧L[i].at_≤64∧L[i].bits.length=stN r→(∀x∈L[i].bits,x.toNat≤1)→okS r L[i]=true):=okS_of;have HOKN:Hid (¬(0≤L[i].at_∧L[i].at_≤64∧L[i].bits.length=stN r)→chF r L=false):=fun h=>chF_bad (List.getElem_mem hil) (okS_no h)
     have HOKB:Hid (∀x∈L[i].bits,¬x.toNat≤1→chF r L=false):=fun x hx h=>chF_bad (List.getElem_mem hil) (okS_big hx h)
     have ti0:(0:Int)≤(i:Int):=by omega
     have tin:(i:Int)<(n:Int):=by omega
     obtain ⟨ta,Hta⟩:=nm L[i].at_;obtain ⟨bn,Hbn⟩:=nm L[i].bits.length;rw [Hta.out] at y0;rw [Hbn.out] at y1 hra;rw [Hta.out,Hbn.out,Hsn.out] at HOKS HOKN;have HY1:=h_ (fun (w':World) (u:Upd Non W1 w')=>u_ (S:=Non) y1 u (fun f=>f));have HSL1:=h_ (fun (w':World) (u:Upd Non W1 w')=>hsl.upd u (fun _ _ _ f=>f));clear hsl HAT;by_cases h1:ta<0
     ·have t1:decide (ta<0)=true:=dT_ h1;have HNO:Hid (chF r L=false):=HOKN.out (by omega)
      go_upto_region 7 with fail
      refine wp_region_held_drew (S:=fun w'=>w'.cell? ⟨ab,ao+i * 2,none⟩=some (.int .i64 ta)∧w'.cell? ⟨ab,ao+i * 2+1,none⟩=some (.slice RA bn ra)∧w'.cell? ⟨fg,0,none⟩=some (.slice FR sn frc)) (by kernel_rfl) (by rw [HW1.out];exact ⟨y0,y1,z0⟩) (fun hHeld=>?_)
      rw [HW1.out] at hHeld ⊢;refine wpT 0 ?_;(try simp only [y_,z_]);refine wpT 1 ?_;(try simp only [y_,z_]);refine wpT 2 ?_;(try simp only [y_,z_]);refine wpT 3 ?_;(try simp only [y_,z_]);refine wpT 4 ?_;(try simp only [y_,z_]);refine wpT 5 ?_;(try simp only [y_,z_]);refine wpT 6 ?_;(try simp only [y_,z_]);refine wpU 7 ?_;(try simp only [y_,z_]);refine wpU 8 ?_;(try simp only [y_,z_]);refine wpU 9 ?_;(try simp only [y_,z_]);refine wpU 10 ?_;(try simp only [y_,z_]);refine wpU 11 ?_;(try simp only [y_,z_]);refine wpU 12 ?_;(try simp only [y_,z_]);refine wpT 13 ?_;(try simp only [y_,z_]);refine wpT 14 ?_;(try simp only [y_,z_]);refine wpU 15 ?_;(try simp only [y_,z_]);refine wpU 16 ?_;(try simp only [y_,z_]);refine wpU 17 ?_;(try simp only [y_,z_]);refine wpU 18 ?_;(try simp only [y_,z_]);refine wpU 19 ?_;(try simp only [y_,z_]);refine wpU 20 ?_;(try simp only [y_,z_]);refine wpU 21 ?_;(try simp only [y_,z_]);refine wpU 22 ?_;(try simp only [y_,z_]);refine wpU 23 ?_;(try simp only [y_,z_]);refine wpU 24 ?_
      (try simp only [y_,z_]);refine wpU 25 ?_;(try simp only [y_,z_]);refine wpT 26 ?_;(try simp only [y_,z_]);refine aD_ (by kernel_rfl) ?_ _;clear hHeld y0 y1 z0;go_wp2_with fail
      go_ret;exact ⟨by rw [HNO.out];rfl,HU.out.then_non HUW1.out⟩
     ·have t1:decide (ta<0)=false:=dF_ h1;by_cases h2:64<ta
      ·have t2:decide (ta > 64)=true:=dT_ h2;have HNO:Hid (chF r L=false):=HOKN.out (by omega)
       go_upto_region 7 with fail
       refine wp_region_held_drew (S:=fun w'=>w'.cell? ⟨ab,ao+i * 2,none⟩=some (.int .i64 ta)∧w'.cell? ⟨ab,ao+i * 2+1,none⟩=some (.slice RA bn ra)∧w'.cell? ⟨fg,0,none⟩=some (.slice FR sn frc)) (by kernel_rfl) (by rw [HW1.out];exact ⟨y0,y1,z0⟩) (fun hHeld=>?_)
       rw [HW1.out] at hHeld ⊢;refine wpT 0 ?_;(try simp only [y_,z_]);refine wpT 1 ?_;(try simp only [y_,z_]);refine wpT 2 ?_;(try simp only [y_,z_]);refine wpT 3 ?_;(try simp only [y_,z_]);refine wpT 4 ?_;(try simp only [y_,z_]);refine wpT 5 ?_;(try simp only [y_,z_]);refine wpT 6 ?_;(try simp only [y_,z_]);refine wpT 7 ?_;(try simp only [y_,z_]);refine wpT 8 ?_;(try simp only [y_,z_]);refine wpT 9 ?_;(try simp only [y_,z_]);refine wpT 10 ?_;(try simp only [y_,z_]);refine wpT 11 ?_;(try simp only [y_,z_]);refine wpT 12 ?_;(try simp only [y_,z_]);refine wpT 13 ?_;(try simp only [y_,z_]);refine wpT 14 ?_;(try simp only [y_,z_]);refine wpU 15 ?_;(try simp only [y_,z_]);refine wpU 16 ?_;(try simp only [y_,z_]);refine wpU 17 ?_;(try simp only [y_,z_]);refine wpU 18 ?_;(try simp only [y_,z_]);refine wpU 19 ?_;(try simp only [y_,z_]);refine wpU 20 ?_;(try simp only [y_,z_]);refine wpU 21 ?_;(try simp only [y_,z_]);refine wpU 22 ?_;(try simp only [y_,z_]);refine wpU 23 ?_;(try simp only [y_,z_]);refine wpU 24 ?_
       (try simp only [y_,z_]);refine wpU 25 ?_;(try simp only [y_,z_]);refine wpT 26 ?_;(try simp only [y_,z_]);refine aD_ (by kernel_rfl) ?_ _;clear hHeld y0 y1 z0;go_wp2_with fail
       go_ret;exact ⟨by rw [HNO.out];rfl,HU.out.then_non HUW1.out⟩
      ·have t2:decide (ta > 64)=false:=dF_ h2;by_cases h3:bn=sn
       ·have HB3:=h_ h3;have hbn4:bn≤4000:=by rw [h3];exact hsn
        have t3:(bn != sn)=false:=by simp [h3]
        have t3i:((bn:Int) != (sn:Int))=false:=by simp [h3]
        have t3n:(bn==sn)=true:=by simp [h3]
        have t3d:decide (bn=sn)=true:=by simp [h3]
        clear h3
        go_upto_region 7 with fail
        refine wp_region_held_drew (S:=fun w'=>w'.cell? ⟨ab,ao+i * 2,none⟩=some (.int .i64 ta)∧w'.cell? ⟨ab,ao+i * 2+1,none⟩=some (.slice RA bn ra)∧w'.cell? ⟨fg,0,none⟩=some (.slice FR sn frc)) (by kernel_rfl) (by rw [HW1.out];exact ⟨y0,y1,z0⟩) (fun hHeld=>?_)
        rw [HW1.out] at hHeld ⊢;refine wpT 0 ?_;(try simp only [y_,z_]);refine wpT 1 ?_;(try simp only [y_,z_]);refine wpT 2 ?_;(try simp only [y_,z_]);refine wpT 3 ?_;(try simp only [y_,z_]);refine wpT 4 ?_;(try simp only [y_,z_]);refine wpT 5 ?_;(try simp only [y_,z_]);refine wpT 6 ?_;(try simp only [y_,z_]);refine wpT 7 ?_;(try simp only [y_,z_]);refine wpT 8 ?_;(try simp only [y_,z_]);refine wpT 9 ?_;(try simp only [y_,z_]);refine wpT 10 ?_;(try simp only [y_,z_]);refine wpT 11 ?_;(try simp only [y_,z_]);refine wpT 12 ?_;(try simp only [y_,z_]);refine wpT 13 ?_;(try simp only [y_,z_]);refine wpT 14 ?_;(try simp only [y_,z_]);refine wpT 15 ?_;(try simp only [y_,z_]);refine wpT 16 ?_;(try simp only [y_,z_]);refine wpT 17 ?_;(try simp only [y_,z_]);refine wpT 18 ?_;(try simp only [y_,z_]);refine wpT 19 ?_;(try simp only [y_,z_]);refine wpT 20 ?_;(try simp only [y_,z_]);refine wpT 21 ?_;(try simp only [y_,z_]);refine wpT 22 ?_;(try simp only [y_,z_]);refine wpT 23 ?_;(try simp only [y_,z_]);refine wpT 24 ?_
        (try simp only [y_,z_]);refine wpT 25 ?_;(try simp only [y_,z_]);refine wpT 26 ?_;(try simp only [y_,z_]);refine aD_ (by kernel_rfl) ?_ _;clear hHeld y0 y1 z0;go_wp2_with fail
        go_loopg [7] bn (fun gg s7 wr=>∃j:Nat,Hid (gg=bn - j)∧j≤bn∧s7=.int .i64 j∧Hid (∀x∈L[i].bits.take j,x.toNat≤1)∧wr=W1)
        case atStart=>exact ⟨0,rfl,by omega,rfl,(fun x hx=>by rw [List.take_zero] at hx;cases hx),rfl⟩
        case round =>
         obtain ⟨j,Hg2,hj,rfl,HTB,rfl⟩:=hrel;have y1:=HY1.out wr Upd.refl;by_cases hjn:j<bn
         ·have hjb:j<L[i].bits.length:=by rw [Hbn.out];exact hjn
          obtain ⟨b',o',rfl,_,_,hcc⟩:=(HSL1.out wr Upd.refl).at_ (k:=j) (by unfold u8s;rw [List.length_map];exact hjb);have hcc':wr.cell? ⟨b',o'+j,none⟩=some (.int .u8 (L[i].bits[j].toNat:Int)):=by rw [hcc];unfold u8s;rw [List.getElem_map]
          have HXM:=h_ (List.getElem_mem hjb);have HTK2:=h_ (List.take_succ_eq_append_getElem hjb);obtain ⟨x,Hx⟩:=nm L[i].bits[j];rw [Hx.out] at hcc' HXM HTK2;have tj0:(0:Int)≤(j:Int):=by omega
          have tj1:(j:Int)<(bn:Int):=by omega
          clear hcc;by_cases hx1:x.toNat≤1
          ·have tx:decide ((x.toNat:Int) > 1)=false:=dF_ (by omega)
           have HTB2:Hid (∀y∈L[i].bits.take (j+1),y.toNat≤1):=fun y hy=>by
            rw [HTK2.out,List.mem_append,List.mem_singleton] at hy;rcases hy with hy | rfl
            ·exact HTB.out y hy
            ·exact hx1
           clear hx1;go_wp2_with fail
           go_roundg (bn - (j+1))
           case measure=>rw [Hg2.out];omega
           case rel=>exact ⟨j+1,rfl,by omega,by go_num,HTB2.out,rfl⟩
          ·have hx2:1<x.toNat:=Nat.lt_of_not_le hx1;have tx:decide ((x.toNat:Int) > 1)=true:=dT_ (Int.ofNat_lt.2 hx2);have HNO:Hid (chF r L=false):=HOKB.out x HXM.out hx1;clear hx1;go_wp2_with fail
           go_ret;exact ⟨by rw [HNO.out];rfl,HU.out.then_non HUW1.out⟩
         ·obtain rfl:bn=j:=by omega
          have HAL:Hid (∀x∈L[i].bits,x.toNat≤1):=by have h:=HTB.out;rw [List.take_of_length_le (by rw [Hbn.out];exact Nat.le_refl _)] at h;exact h
          have HOK2:Hid (∀s∈L.take (i+1),okS r s=true):=fun s hs=>by
           rw [HTK.out,List.mem_append,List.mem_singleton] at hs;rcases hs with hs | rfl
           ·exact HOK.out s hs
           ·exact HOKS.out ⟨by omega,by omega,HB3.out⟩ HAL.out
          go_wp2_with fail
          go_roundg (n - (i+1))
          case measure=>rw [Hg.out];omega
          case rel=>exact ⟨i+1,rfl,by omega,by go_num,HOK2.out,HU31.out⟩
       ·have t3:(bn != sn)=true:=by simp;exact h3
        have t3i:((bn:Int) != (sn:Int))=true:=by simp;omega
        have t3n:(bn==sn)=false:=by simp;exact h3
        have t3d:decide (bn=sn)=false:=by simp;exact h3
        have HNO:Hid (chF r L=false):=HOKN.out (by omega)
        go_upto_region 7 with fail
        refine wp_region_held_drew (S:=fun w'=>w'.cell? ⟨ab,ao+i * 2,none⟩=some (.int .i64 ta)∧w'.cell? ⟨ab,ao+i * 2+1,none⟩=some (.slice RA bn ra)∧w'.cell? ⟨fg,0,none⟩=some (.slice FR sn frc)) (by kernel_rfl) (by rw [HW1.out];exact ⟨y0,y1,z0⟩) (fun hHeld=>?_)
        rw [HW1.out] at hHeld ⊢;refine wpT 0 ?_;(try simp only [y_,z_]);refine wpT 1 ?_;(try simp only [y_,z_]);refine wpT 2 ?_;(try simp only [y_,z_]);refine wpT 3 ?_;(try simp only [y_,z_]);refine wpT 4 ?_;(try simp only [y_,z_]);refine wpT 5 ?_;(try simp only [y_,z_]);refine wpT 6 ?_;(try simp only [y_,z_]);refine wpT 7 ?_;(try simp only [y_,z_]);refine wpT 8 ?_;(try simp only [y_,z_]);refine wpT 9 ?_;(try simp only [y_,z_]);refine wpT 10 ?_;(try simp only [y_,z_]);refine wpT 11 ?_;(try simp only [y_,z_]);refine wpT 12 ?_;(try simp only [y_,z_]);refine wpT 13 ?_;(try simp only [y_,z_]);refine wpT 14 ?_;(try simp only [y_,z_]);refine wpT 15 ?_;(try simp only [y_,z_]);refine wpT 16 ?_;(try simp only [y_,z_]);refine wpT 17 ?_;(try simp only [y_,z_]);refine wpT 18 ?_;(try simp only [y_,z_]);refine wpT 19 ?_;(try simp only [y_,z_]);refine wpT 20 ?_;(try simp only [y_,z_]);refine wpT 21 ?_;(try simp only [y_,z_]);refine wpT 22 ?_;(try simp only [y_,z_]);refine wpT 23 ?_;(try simp only [y_,z_]);refine wpT 24 ?_
        (try simp only [y_,z_]);refine wpT 25 ?_;(try simp only [y_,z_]);refine wpT 26 ?_;(try simp only [y_,z_]);refine aD_ (by kernel_rfl) ?_ _;clear hHeld y0 y1 z0;go_wp2_with fail
        go_ret;exact ⟨by rw [HNO.out];rfl,HU.out.then_non HUW1.out⟩
    ·obtain rfl:n=i:=by omega
     have HOKA:Hid (∀s∈L,okS r s=true):=by have h:=HOK.out;rw [HN.out,List.take_length] at h;exact h
     have HU4:=h_ (HU3.out.then_non HUr.out);clear HOK HF0;go_wp2_with fail
     go_loopg [8] fn (fun gg s8 wr=>∃i:Nat,Hid (gg=fn - i)∧i≤fn∧s8=.int .i64 i∧Hid (∀b∈(rinF r).take i,(⟨0,bbs b⟩:AS)∈L)∧Hid (Upd Non wi wr))
     case atStart=>exact ⟨0,rfl,by omega,rfl,(fun b hb=>by rw [List.take_zero] at hb;cases hb),Upd.refl⟩
     case round =>
      obtain ⟨i,Hg3,hi3,rfl,HIN,HUj⟩:=hrel;obtain ⟨wj,rfl⟩:∃x:World,x=wr:=⟨_,rfl⟩;by_cases hlt3:i<fn
      ·have hil:i<(rinF r).length:=by rw [←HFN.out];exact hlt3
       obtain ⟨g,RA,rc,eg,y0,hrc,hsl⟩:=rows_at (HF.out.u8 elRow (HUr.out.then_non HUj.out) (fun _ _ f=>f) (fun _ _ _ f=>f)) (i:=i) (by rw [List.length_map];exact hil)
       injection eg with eg
       injection eg with eg
       subst eg;rw [List.getElem_map] at y0 hrc hsl;have hbl:(bbs (rinF r)[i]).length=sn:=by unfold bbs;rw [List.length_map,rinF_rows r _ (List.getElem_mem hil),Hsn.out]
       rw [hbl] at y0;have C1:=h_ (hasState_c (ac:=lc) (bc:=rc) (t:=0) (m:=sn) (HLW.out wj (HU4.out.then_non HUj.out)) hsl HN.out hbl.symm hLn);have HTK:Hid ((rinF r).take (i+1)=(rinF r).take i++[(rinF r)[i]]):=List.take_succ_eq_append_getElem hil;have HNO:Hid ((⟨0,bbs (rinF r)[i]⟩:AS) ∉ L→chF r L=false):=fun h=>chF_init (mem_rinF.1 (List.getElem_mem hil)) h
       have ti:(i:Int)<(fn:Int):=by omega
       have ti0:(0:Int)≤(i:Int):=by omega
       obtain ⟨dd,Hdd⟩:=nm (decide ((⟨0,bbs (rinF r)[i]⟩:AS)∈L));rw [Hdd.out] at C1;clear hrc hsl hbl;go_wp2_with fail
       refine C1.out.mono ?_;rintro e w5 ⟨rfl,u5⟩;have HU5:=h_ (HUj.out.then_non u5);clear u5 C1 y0
       cases dd with
       | true =>
        have HIN2:Hid (∀b∈(rinF r).take (i+1),(⟨0,bbs b⟩:AS)∈L):=fun b hb=>by
         rw [HTK.out,List.mem_append,List.mem_singleton] at hb;rcases hb with hb | rfl
         ·exact HIN.out b hb
         ·exact of_decide_eq_true Hdd.out
        go_wp2_with fail
        go_roundg (fn - (i+1))
        case measure=>rw [Hg3.out];omega
        case rel=>exact ⟨i+1,rfl,by omega,by go_num,HIN2.out,HU5.out⟩
       | false =>
        have HF2:=h_ (HNO.out (of_decide_eq_false Hdd.out));go_wp2_with fail
        go_ret;exact ⟨by rw [HF2.out];rfl,HU.out.then_non (HU4.out.then_non HU5.out)⟩
      ·obtain rfl:fn=i:=by omega
       have HINA:Hid (∀b∈initsF r,(⟨0,bbs b⟩:AS)∈L):=fun b hb=>by
        have h:=HIN.out;rw [HFN.out,List.take_length] at h;exact h b (mem_rinF.2 hb)
       have HU5:=h_ (HU4.out.then_non HUj.out);clear HIN HF;go_wp2_with fail
       go_loopg [9,10,11] n (fun gg s9 _ _ wr=>∃i:Nat,Hid (gg=n - i)∧i≤n∧s9=.int .i64 i∧Hid (∀s∈L.take i,nextS r L s=true)∧Hid (Upd Non W wr))
       case atStart=>exact ⟨0,rfl,by omega,rfl,(fun s hs=>by rw [List.take_zero] at hs;cases hs),HU5.out⟩
       case round =>
        obtain ⟨i,Hg4,hi4,rfl,HNX,HUk⟩:=hrel;obtain ⟨wk,rfl⟩:∃x:World,x=wr:=⟨_,rfl⟩;by_cases hlt4:i<n
        ·have hil:i<L.length:=by rw [←HN.out];exact hlt4
         have HMM:=h_ (List.getElem_mem hil);have HTK:Hid (L.take (i+1)=L.take i++[L[i]]):=List.take_succ_eq_append_getElem hil;have hok:=okS_at (HOKA.out _ HMM.out);obtain ⟨⟨ha0,ha6,hal⟩,hab⟩:=hok;have HATW:=h_ (fun (w':World) (u:Upd Non wk w')=>as_at (HLW.out w' (HUk.out.then_non u)) hil);obtain ⟨ab,ao,RA,ra,rfl,y0,y1,hra,hsl⟩:=HATW.out wk Upd.refl;have HUBL:Hid ((ubs L[i].bits).length=sn):=by show _=_;rw [ubs_len,hal,Hsn.out]
         have HSB:Hid (∀w',Upd Non wk w'→Sl w' (fun _=>True) RA (b8s (ubs L[i].bits))):=fun w' u=>by
          rw [ubs_b8s hab];exact (hsl.upd u (fun _ _ _ f=>f)).mono (fun _ _ _=>trivial)
         obtain ⟨k,hk⟩:∃k:Nat,L[i].at_=(k:Int):=⟨L[i].at_.toNat,by omega⟩;have HK:=h_ hk;rw [hk] at y0 ha6;rw [hal,Hsn.out] at y1 hra;have HRA:=h_ hra;have HY0:=h_ (fun (w':World) (u:Upd Non wk w')=>u_ (S:=Non) y0 u (fun f=>f));have HY1:=h_ (fun (w':World) (u:Upd Non wk w')=>u_ (S:=Non) y1 u (fun f=>f));have HNO:Hid (nextS r L L[i]=false→chF r L=false):=fun h=>chF_next (List.getElem_mem hil) h
         have HYES:Hid (nextS r L L[i]=true→∀s∈L.take (i+1),nextS r L s=true):=fun h s hs=>by
          rw [HTK.out,List.mem_append,List.mem_singleton] at hs;rcases hs with hs | rfl
          ·exact HNX.out s hs
          ·exact h
         have hk64:k≤64:=by omega
         have ti0:(0:Int)≤(i:Int):=by omega
         have tin:(i:Int)<(n:Int):=by omega
         clear hsl hra hab ha0 ha6 hal hk HATW;by_cases h64:k=64
         ·subst h64
          have CS:Hid (∀w',Upd Non wk w'→Calls Tryz.prog 68 #[rlv r a,.slice RA sn ra] w' fun e w''=>e=.returned (.bool (safeF r (ubs L[i].bits)))∧Upd Non w' w''):=fun w' u=>by
           have h:=rSafe_c r a HSP.out.1 HSP.out.2 HI.out.wl HI.out.wr HI.out.cn HST.out (b:=ubs L[i].bits) (bc:=ra) (by rw [HUBL.out,Hsn.out]) (HKW.out w' (HUk.out.then_non u)) (HSB.out w' u) (by rw [HUBL.out];exact HRA.out)
           rwa [HUBL.out] at h
          have HN64:Hid (nextS r L L[i]=safeF r (ubs L[i].bits)):=nextS_64 (by rw [HK.out];rfl);rw [HN64.out] at HNO HYES;obtain ⟨sf,Hsf⟩:=nm (safeF r (ubs L[i].bits));rw [Hsf.out] at CS HNO HYES;unfold rlv rlCells at CS;obtain ⟨W9,HW9⟩:=nm wk.drew;have u9:Upd Non wk W9:=by rw [←HW9.out];exact Upd.refl.drew
          have HU9:=h_ u9;have hS9:=HRW.out W9 (HUk.out.then_non u9);have hy9:=HY1.out W9 u9;clear u9
          cases sf with
          | false =>
           have HF2:=h_ (HNO.out rfl)
           go_upto_region 23 with fail
           refine wp_region_held_drew (S:=fun w'=>w'.cell? ⟨ab,ao+i * 2+1,none⟩=some (.slice RA sn ra)∧w'.cell? ⟨rb,0,none⟩=some (.string r.name)∧w'.cell? ⟨rb,1,none⟩=some (.int .i64 r.l.v)∧w'.cell? ⟨rb,2,none⟩=some (.int .i64 r.l.op)∧w'.cell? ⟨rb,3,none⟩=some (.int .i64 r.l.imm)∧w'.cell? ⟨rb,4,none⟩=some (.int .i64 r.l.iv)∧w'.cell? ⟨rb,5,none⟩=some (.slice a.la r.l.kids.length a.lc)∧w'.cell? ⟨rb,6,none⟩=some (.int .i64 r.r.v)∧w'.cell? ⟨rb,7,none⟩=some (.int .i64 r.r.op)∧w'.cell? ⟨rb,8,none⟩=some (.int .i64 r.r.imm)∧w'.cell? ⟨rb,9,none⟩=some (.int .i64 r.r.iv)∧w'.cell? ⟨rb,10,none⟩=some (.slice a.ra r.r.kids.length a.rc)∧w'.cell? ⟨rb,11,none⟩=some (.slice a.ca r.conds.length a.cc)∧w'.cell? ⟨rb,12,none⟩=some (.int .i64 r.vars)∧w'.cell? ⟨rb,13,none⟩=some (.int .i64 r.imms)) (by kernel_rfl) (by rw [HW9.out];exact ⟨hy9,hS9⟩) (fun hHeld=>?_)
           rw [HW9.out] at hHeld ⊢;refine wpT 0 ?_;(try simp only [y_,z_]);refine wpT 1 ?_;(try simp only [y_,z_]);refine wpT 2 ?_;(try simp only [y_,z_]);refine wpT 3 ?_;(try simp only [y_,z_]);refine wpT 4 ?_;(try simp only [y_,z_]);refine wpT 5 ?_;(try simp only [y_,z_]);refine aR_ (rs:=[6]) (by kernel_rfl) (by simp) ?_;refine aC_ rfl (fun K hK=>?_) aN_;go_simp;refine (CS.out W9 HU9.out).mono ?_;rintro e w10 ⟨rfl,u10⟩;refine hK.out _ _ ?_ (fun hHeld=>?_)
           ·exact ⟨HY1.out w10 (HU9.out.then_non u10),HRW.out w10 (HUk.out.then_non (HU9.out.then_non u10))⟩
           clear hK K;(try simp only [y_,z_]);refine wpT 7 ?_;(try simp only [y_,z_]);refine aD_ (by kernel_rfl) ?_ _;have HU10:=h_ (HUk.out.then_non (HU9.out.then_non u10));clear hHeld hy9 hS9 u10;go_wp2_with fail
           go_ret;exact ⟨by rw [HF2.out];rfl,HU.out.then_non HU10.out⟩
          | true =>
           have HY2:=h_ (HYES.out rfl)
           go_upto_region 23 with fail
           refine wp_region_held_drew (S:=fun w'=>w'.cell? ⟨ab,ao+i * 2+1,none⟩=some (.slice RA sn ra)∧w'.cell? ⟨rb,0,none⟩=some (.string r.name)∧w'.cell? ⟨rb,1,none⟩=some (.int .i64 r.l.v)∧w'.cell? ⟨rb,2,none⟩=some (.int .i64 r.l.op)∧w'.cell? ⟨rb,3,none⟩=some (.int .i64 r.l.imm)∧w'.cell? ⟨rb,4,none⟩=some (.int .i64 r.l.iv)∧w'.cell? ⟨rb,5,none⟩=some (.slice a.la r.l.kids.length a.lc)∧w'.cell? ⟨rb,6,none⟩=some (.int .i64 r.r.v)∧w'.cell? ⟨rb,7,none⟩=some (.int .i64 r.r.op)∧w'.cell? ⟨rb,8,none⟩=some (.int .i64 r.r.imm)∧w'.cell? ⟨rb,9,none⟩=some (.int .i64 r.r.iv)∧w'.cell? ⟨rb,10,none⟩=some (.slice a.ra r.r.kids.length a.rc)∧w'.cell? ⟨rb,11,none⟩=some (.slice a.ca r.conds.length a.cc)∧w'.cell? ⟨rb,12,none⟩=some (.int .i64 r.vars)∧w'.cell? ⟨rb,13,none⟩=some (.int .i64 r.imms)) (by kernel_rfl) (by rw [HW9.out];exact ⟨hy9,hS9⟩) (fun hHeld=>?_)
           rw [HW9.out] at hHeld ⊢;refine wpT 0 ?_;(try simp only [y_,z_]);refine wpT 1 ?_;(try simp only [y_,z_]);refine wpT 2 ?_;(try simp only [y_,z_]);refine wpT 3 ?_;(try simp only [y_,z_]);refine wpT 4 ?_;(try simp only [y_,z_]);refine wpT 5 ?_;(try simp only [y_,z_]);refine aR_ (rs:=[6]) (by kernel_rfl) (by simp) ?_;refine aC_ rfl (fun K hK=>?_) aN_;go_simp;refine (CS.out W9 HU9.out).mono ?_;rintro e w10 ⟨rfl,u10⟩;refine hK.out _ _ ?_ (fun hHeld=>?_)
           ·exact ⟨HY1.out w10 (HU9.out.then_non u10),HRW.out w10 (HUk.out.then_non (HU9.out.then_non u10))⟩
           clear hK K;(try simp only [y_,z_]);refine wpT 7 ?_;(try simp only [y_,z_]);refine aD_ (by kernel_rfl) ?_ _;have HU10:=h_ (HUk.out.then_non (HU9.out.then_non u10));clear hHeld hy9 hS9 u10;go_wp2_with fail
           go_roundg (n - (i+1))
           case measure=>rw [Hg4.out];omega
           case rel=>exact ⟨i+1,rfl,by omega,by go_num,HY2.out,HU10.out⟩
         ·have t64:((k:Int)==64)=false:=by simp;omega
          have hk6:k<64:=by omega
          have HNN:Hid (nextS r L L[i]=(succsF r k (ubs L[i].bits)).all fun b=>decide (⟨(k:Int)+1,bbs b⟩∈L)):=nextS_no HK.out hk6
          have CS:Hid (∀w',Upd Non wk w'→Calls Tryz.prog 69 #[rlv r a,.int .i64 k,.slice RA sn ra] w' fun e w''=>∃NA n nc,e=.returned (.slice NA n nc)∧ElO ElRow 1 84 w'' (U8B w'') NA n nc ((succsF r k (ubs L[i].bits)).map bbs)∧(∀i,At NA i→w'.heap.size≤i)∧Upd Non w' w''):=fun w' u=>by
           have h:=rSuccessors_c r a k hk6 (ubs L[i].bits) (oc:=ra) HRO.out HVV.out.1 HVV.out.2 HI.out.cn HST.out (by rw [HUBL.out,Hsn.out]) (HKW.out w' (HUk.out.then_non u)) (HSB.out w' u) (by rw [HUBL.out];exact HRA.out)
           rwa [HUBL.out] at h
          have HSR:Hid (∀x∈succsF r k (ubs L[i].bits),x.length=sn):=HSLN.out k _ HUBL.out;have HLEN:Hid ((succsF r k (ubs L[i].bits)).length=H):=HSL.out k _;rw [HNN.out] at HNO HYES;obtain ⟨M,HMe⟩:=nm (succsF r k (ubs L[i].bits));rw [HMe.out] at CS HNO HYES HSR HLEN;unfold rlv rlCells at CS;obtain ⟨W9,HW9⟩:=nm wk.drew;have u9:Upd Non wk W9:=by rw [←HW9.out];exact Upd.refl.drew
          have HU9:=h_ u9;have hS9:=HRW.out W9 (HUk.out.then_non u9);have hy9:=HY1.out W9 u9;have hx9:=HY0.out W9 u9;clear u9
          go_upto_region 25 with fail
          refine wp_region_held_drew (S:=fun w'=>w'.cell? ⟨ab,ao+i * 2,none⟩=some (.int .i64 (k:Int))∧w'.cell? ⟨ab,ao+i * 2+1,none⟩=some (.slice RA sn ra)∧w'.cell? ⟨rb,0,none⟩=some (.string r.name)∧w'.cell? ⟨rb,1,none⟩=some (.int .i64 r.l.v)∧w'.cell? ⟨rb,2,none⟩=some (.int .i64 r.l.op)∧w'.cell? ⟨rb,3,none⟩=some (.int .i64 r.l.imm)∧w'.cell? ⟨rb,4,none⟩=some (.int .i64 r.l.iv)∧w'.cell? ⟨rb,5,none⟩=some (.slice a.la r.l.kids.length a.lc)∧w'.cell? ⟨rb,6,none⟩=some (.int .i64 r.r.v)∧w'.cell? ⟨rb,7,none⟩=some (.int .i64 r.r.op)∧w'.cell? ⟨rb,8,none⟩=some (.int .i64 r.r.imm)∧w'.cell? ⟨rb,9,none⟩=some (.int .i64 r.r.iv)∧w'.cell? ⟨rb,10,none⟩=some (.slice a.ra r.r.kids.length a.rc)∧w'.cell? ⟨rb,11,none⟩=some (.slice a.ca r.conds.length a.cc)∧w'.cell? ⟨rb,12,none⟩=some (.int .i64 r.vars)∧w'.cell? ⟨rb,13,none⟩=some (.int .i64 r.imms)) (by kernel_rfl) (by rw [HW9.out];exact ⟨hx9,hy9,hS9⟩) (fun hHeld=>?_)
          rw [HW9.out] at hHeld ⊢;refine wpT 0 ?_;(try simp only [y_,z_]);refine wpT 1 ?_;(try simp only [y_,z_]);refine wpT 2 ?_;(try simp only [y_,z_]);refine wpT 3 ?_;(try simp only [y_,z_]);refine wpT 4 ?_;(try simp only [y_,z_]);refine wpT 5 ?_;(try simp only [y_,z_]);refine wpT 6 ?_;(try simp only [y_,z_]);refine wpT 7 ?_;(try simp only [y_,z_]);refine wpT 8 ?_;(try simp only [y_,z_]);refine wpT 9 ?_;(try simp only [y_,z_]);refine wpT 10 ?_;(try simp only [y_,z_]);refine aR_ (rs:=[11]) (by kernel_rfl) (by simp) ?_;refine aC_ rfl (fun K hK=>?_) aN_;go_simp;refine (CS.out W9 HU9.out).mono ?_;rintro e w10 ⟨SA,sm,sc,rfl,hSE,_,u10⟩;refine hK.out _ _ ?_ (fun hHeld=>?_)
          ·exact ⟨HY0.out w10 (HU9.out.then_non u10),HY1.out w10 (HU9.out.then_non u10),HRW.out w10 (HUk.out.then_non (HU9.out.then_non u10))⟩
          clear hK K;(try simp only [y_,z_]);refine wpT 12 ?_;(try simp only [y_,z_]);refine aD_ (by kernel_rfl) ?_ _;have HU10:=h_ (HU9.out.then_non u10);have HSE:=h_ hSE;have hsm:sm=H:=by have:=hSE.1;rw [List.length_map,HLEN.out] at this;exact this
          subst hsm;clear hHeld hy9 hx9 hS9 u10 hSE CS y0 y1;go_wp2_with fail
          go_loopg [11] sm (fun gg s11 wr=>∃j:Nat,Hid (gg=sm - j)∧j≤sm∧s11=.int .i64 j∧Hid (∀b∈M.take j,(⟨(k:Int)+1,bbs b⟩:AS)∈L)∧Hid (Upd Non w10 wr))
          case atStart=>exact ⟨0,rfl,by omega,rfl,(fun b hb=>by rw [List.take_zero] at hb;cases hb),Upd.refl⟩
          case round =>
           obtain ⟨j,Hg5,hj5,rfl,HMJ,HUh⟩:=hrel;obtain ⟨wh,rfl⟩:∃x:World,x=wr:=⟨_,rfl⟩;have HUkh:=h_ (HU10.out.then_non HUh.out);by_cases hlt5:j<sm
           ·have hjl:j<M.length:=by rw [HLEN.out];exact hlt5
            obtain ⟨W11,HW11⟩:=nm wh.drew;have u11:Upd Non wh W11:=by rw [←HW11.out];exact Upd.refl.drew
            have HU11:=h_ (HUkh.out.then_non u11);have HROW:=h_ (fun (w':World) (u:Upd Non W11 w')=>rows_at (HSE.out.u8 elRow ((HUh.out.then_non u11).then_non u) (fun _ _ f=>f) (fun _ _ _ f=>f)) (i:=j) (by rw [List.length_map];exact hjl))
            obtain ⟨gs,RS,rs,rfl,z0,hrs,hsl⟩:=HROW.out W11 Upd.refl;rw [List.getElem_map] at z0 hrs hsl;have hbl:(bbs M[j]).length=sn:=by unfold bbs;rw [List.length_map,HSR.out _ (List.getElem_mem hjl)]
            rw [hbl] at z0;have C1:=h_ (hasState_c (ac:=lc) (bc:=rs) (t:=(k:Int)+1) (m:=sn) (HLW.out W11 (HUk.out.then_non HU11.out)) hsl HN.out hbl.symm hLn);have HTJ:Hid (M.take (j+1)=M.take j++[M[j]]):=List.take_succ_eq_append_getElem hjl;have HMJM:=h_ (List.getElem_mem hjl);have tj:(j:Int)<(sm:Int):=by omega
            have tj0:(0:Int)≤(j:Int):=by omega
            have twr:IntKind.i64.wrap ((k:Int)+1)=(k:Int)+1:=by rw [i64w_of (by unfold I64;omega)]
            have hx11:=HY0.out W11 HU11.out;obtain ⟨dd,Hdd⟩:=nm (decide ((⟨(k:Int)+1,bbs M[j]⟩:AS)∈L));rw [Hdd.out] at C1;have HZ0:=h_ (fun (w':World) (u:Upd Non W11 w')=>u_ (S:=Non) z0 u (fun f=>f));clear hrs hsl hbl u11 HROW
            cases dd with
            | true =>
             have HMJ2:Hid (∀b∈M.take (j+1),(⟨(k:Int)+1,bbs b⟩:AS)∈L):=fun b hb=>by
              rw [HTJ.out,List.mem_append,List.mem_singleton] at hb;rcases hb with hb | rfl
              ·exact HMJ.out b hb
              ·exact of_decide_eq_true Hdd.out
             go_upto_region 29 with fail
             refine wp_region_held_drew (S:=fun w'=>w'.cell? ⟨ab,ao+i * 2,none⟩=some (.int .i64 (k:Int))∧w'.cell? ⟨gs,j,none⟩=some (.slice RS sn rs)) (by kernel_rfl) (by rw [HW11.out];exact ⟨hx11,z0⟩) (fun hHeld=>?_)
             rw [HW11.out] at hHeld ⊢;refine wpT 0 ?_;(try simp only [y_,z_]);refine wpT 1 ?_;(try simp only [y_,z_]);refine wpT 2 ?_;(try simp only [y_,z_]);refine wpT 3 ?_;(try simp only [y_,z_]);refine wpT 4 ?_;(try simp only [y_,z_]);refine wpT 5 ?_;(try simp only [y_,z_]);refine wpT 6 ?_;(try simp only [y_,z_]);refine wpT 7 ?_;(try simp only [y_,z_]);refine wpT 8 ?_;(try simp only [y_,z_]);refine wpT 9 ?_;(try simp only [y_,z_]);refine wpT 10 ?_;(try simp only [y_,z_]);refine aR_ (rs:=[11]) (by kernel_rfl) (by simp) ?_;refine aC_ rfl (fun K hK=>?_) aN_;go_simp;refine C1.out.mono ?_;rintro e w12 ⟨rfl,u12⟩;refine hK.out _ _ ?_ (fun hHeld=>?_)
             ·exact ⟨HY0.out w12 (HU11.out.then_non u12),HZ0.out w12 u12⟩
             clear hK K;(try simp only [y_,z_]);refine wpT 12 ?_;(try simp only [y_,z_]);refine aD_ (by kernel_rfl) ?_ _;have HU12:=h_ (HU11.out.then_non u12);have HU1012:Hid (Upd Non w10 w12):=(HUh.out.then_non (show Upd Non wh W11 by rw [←HW11.out];exact Upd.refl.drew)).then_non u12;clear hHeld u12 C1 z0 hx11;go_wp2_with fail
             go_roundg (sm - (j+1))
             case measure=>rw [Hg5.out];omega
             case rel=>exact ⟨j+1,rfl,by omega,by go_num,HMJ2.out,HU1012.out⟩
            | false =>
             have HF2:Hid (chF r L=false):=HNO.out (by
              rw [Bool.eq_false_iff];intro h;have h2:=List.all_eq_true.1 h _ HMJM.out;rw [Hdd.out] at h2
              cases h2)
             go_upto_region 29 with fail
             refine wp_region_held_drew (S:=fun w'=>w'.cell? ⟨ab,ao+i * 2,none⟩=some (.int .i64 (k:Int))∧w'.cell? ⟨gs,j,none⟩=some (.slice RS sn rs)) (by kernel_rfl) (by rw [HW11.out];exact ⟨hx11,z0⟩) (fun hHeld=>?_)
             rw [HW11.out] at hHeld ⊢;refine wpT 0 ?_;(try simp only [y_,z_]);refine wpT 1 ?_;(try simp only [y_,z_]);refine wpT 2 ?_;(try simp only [y_,z_]);refine wpT 3 ?_;(try simp only [y_,z_]);refine wpT 4 ?_;(try simp only [y_,z_]);refine wpT 5 ?_;(try simp only [y_,z_]);refine wpT 6 ?_;(try simp only [y_,z_]);refine wpT 7 ?_;(try simp only [y_,z_]);refine wpT 8 ?_;(try simp only [y_,z_]);refine wpT 9 ?_;(try simp only [y_,z_]);refine wpT 10 ?_;(try simp only [y_,z_]);refine aR_ (rs:=[11]) (by kernel_rfl) (by simp) ?_;refine aC_ rfl (fun K hK=>?_) aN_;go_simp;refine C1.out.mono ?_;rintro e w12 ⟨rfl,u12⟩;refine hK.out _ _ ?_ (fun hHeld=>?_)
             ·exact ⟨HY0.out w12 (HU11.out.then_non u12),HZ0.out w12 u12⟩
             clear hK K;(try simp only [y_,z_]);refine wpT 12 ?_;(try simp only [y_,z_]);refine aD_ (by kernel_rfl) ?_ _;have HU12:=h_ (HU11.out.then_non u12);have HU1012:Hid (Upd Non w10 w12):=(HUh.out.then_non (show Upd Non wh W11 by rw [←HW11.out];exact Upd.refl.drew)).then_non u12;clear hHeld u12 C1 z0 hx11;go_wp2_with fail
             go_ret;exact ⟨by rw [HF2.out];rfl,HU.out.then_non (HUk.out.then_non HU12.out)⟩
           ·obtain rfl:sm=j:=by omega
            have HY2:Hid (∀s∈L.take (i+1),nextS r L s=true):=HYES.out (List.all_eq_true.2 fun b hb=>dT_ (by
             have h:=HMJ.out;rw [List.take_of_length_le (by rw [HLEN.out];exact Nat.le_refl _)] at h
             exact h b hb))
            have HUF:=h_ (HUk.out.then_non HUkh.out);go_wp2_with fail
            go_roundg (n - (i+1))
            case measure=>rw [Hg4.out];omega
            case rel=>exact ⟨i+1,rfl,by omega,by go_num,HY2.out,HUF.out⟩
        ·obtain rfl:n=i:=by omega
         have HFIN:Hid (chF r L=true):=chF_iff.2 ⟨Hap.out,by rw [←HN.out];omega,HOKA.out,HINA.out,by have h:=HNX.out;rw [HN.out,List.take_length] at h;exact h⟩
         go_wp2_with fail
         go_ret;exact ⟨by rw [HFIN.out];rfl,HU.out.then_non HUk.out⟩
theorem insB_take {b:List Bool}:∀{L:List (List Bool)} {k:Nat} (_:k≤L.length) (_:∀i (_:i<k) (h2:i<L.length),ltB L[i] b=true) (_:∀h:k<L.length,ltB L[k] b=false∧L[k]≠b),insB b L=L.take k++b::L.drop k
 | [],0,_,_,_=>rfl
 | [],k+1,h,_,_=>absurd h (by simp)
 | x::L,0,_,_,h2=>by
  obtain ⟨q1,q2⟩:=h2 (by simp);have q1:ltB x b=false:=q1;have q2:x≠b:=q2;rw [insB,if_neg (by rw [q1];decide),if_neg q2];rfl
 | x::L,k+1,h,h1,h2=>by
  have q:=h1 0 (by omega) (by simp);have q:ltB x b=true:=q;rw [insB,if_pos q,insB_take (k:=k) (by simp at h;omega) (fun i hi hi2=>h1 (i+1) (by omega) (by simp;omega)) (fun hk=>h2 (by simp;omega))];rfl
theorem insB_same {b:List Bool}:∀{L:List (List Bool)} {k:Nat} (hk:k<L.length) (_:∀i (h:i<k),ltB (L[i]'(Nat.lt_trans h hk)) b=true) (_:L[k]=b),insB b L=L
 | [],k,hk,_,_=>absurd hk (by simp)
 | x::L,0,_,_,h2=>by
  have h2:x=b:=h2;subst h2;rw [insB,if_neg (by rw [ltB_irrefl];decide),if_pos rfl]
 | x::L,k+1,h,h1,h2=>by
  have q:=h1 0 (by omega);have q:ltB x b=true:=q;rw [insB,if_pos q,insB_same (k:=k) (by simp at h;omega) (fun i hi=>h1 (i+1) (by omega)) h2]
theorem elO_of {w:World} {A:Option Addr} {n c:Nat} {cs:List Value} {L:List (List UInt8)} (ho:Own w 84 1 A n c cs) (hC:ElCells ElRow 1 w (U8B w) cs L) (hn:n=L.length):ElO ElRow 1 84 w (U8B w) A n c L :=
 ⟨hn,cs,ho,hC.mono elRow (Upd.refl (S:=Non)) (fun _ _ _ f=>f) (fun i _ h=>⟨h,by obtain ⟨z,hb⟩:=h;exact ho.ne_blk hb (by decide)⟩)⟩
theorem elRows_upd {w w':World} {S:Nat→Prop} {cs:List Value} {L:List (List UInt8)} (hC:ElCells ElRow 1 w (U8B w) cs L) (u:Upd S w w') (d:∀i z,Blk w i 5 z→¬S i):ElCells ElRow 1 w' (U8B w') cs L :=
 hC.mono elRow u (fun i _ h=>by obtain ⟨z,hb⟩:=h;exact d i z hb) (fun i _ h=>h.upd u (by obtain ⟨z,hb⟩:=h;exact d i z hb))
theorem elRows_one {w:World} {K:Nat→Prop} {cs:List Value} {L:List (List UInt8)} (h:ElCells ElRow 1 w K cs L):∀u∈cs,u.oneCell'=true:=by
 intro u hu;obtain ⟨j,hj,rfl⟩:=List.getElem_of_mem hu;have hl:=h.1;obtain ⟨el,he,RA,rc,rfl,_,_⟩:=h.get (i:=j) (by omega);have:=he 0 (by omega);rw [show 1 * j+0=j by omega,List.getElem?_eq_getElem hj] at this;injection this with this
 rw [this];rfl
set_option maxRecDepth 100000 in
set_option maxHeartbeats 4000000 in
theorem rLessBits_c {w:World} {F G:Nat→Prop} {AA BB:Option Addr} {ac bc n m:Nat} {a b:List Bool} (ha:Sl w F AA (b8s a)) (hb:Sl w G BB (b8s b)) (hn:n=a.length) (hm:m=b.length):Calls Tryz.prog 128 #[.slice AA n ac,.slice BB m bc] w fun e w'=>e=.returned (.bool (ltB a b))∧w=w':=by
 have e1:=run_rowstr (n:=n) (c:=ac) (l:=bbs a) (by rw [←b8s_u8s];exact ha) (by unfold bbs;rw [List.length_map];exact hn);have e2:=run_rowstr (n:=m) (c:=bc) (l:=bbs b) (by rw [←b8s_u8s];exact hb) (by unfold bbs;rw [List.length_map];exact hm);have hl:Op.bytesLess (kstr (bbs a)).toList (kstr (bbs b)).toList=ltB a b:=by rw [kstr_toList,kstr_toList,bytesLess_bbs]
 generalize kstr (bbs a)=sa at e1 hl;generalize kstr (bbs b)=sb at e2 hl;obtain ⟨lt,hlt⟩:=nm (ltB a b);rw [hlt.out] at hl ⊢;clear ha hb hn hm hlt;go_enter Tryz.func128,Tryz.ntmps128;go_wp2_with fail
 go_ret;exact ⟨rfl,rfl⟩
set_option maxRecDepth 100000 in
set_option maxHeartbeats 16000000 in
theorem rInsert_c {w:World} {A:Option Addr} {n c:Nat} {L:List (List Bool)} (hE:ElO ElRow 1 84 w (U8B w) A n c (L.map bbs)) (hn:n≤1000000000) {BA:Option Addr} {bc m:Nat} {b:List Bool} (hb:Sl w (U8B w) BA (b8s b)) (hm:m=b.length) (hbc:m≤bc) :
  Calls Tryz.prog 67 #[.slice A n c,.slice BA m bc] w fun e w'=>∃A' n' c',e=.returned (.slice A' n' c')∧ElO ElRow 1 84 w' (U8B w') A' n' c' ((insB b L).map bbs)∧(∀i,At A' i→At A i∨w.heap.size≤i)∧n'≤n+1∧Upd Non w w':=by
 obtain ⟨hnL,cs,hO,hC0⟩:=hE;rw [List.length_map] at hnL;have hC:ElCells ElRow 1 w (U8B w) cs (L.map bbs):=hC0.mono elRow (Upd.refl (S:=Non)) (fun _ _ _ f=>f) (fun _ _ h=>h.1);have hcl:cs.length=n:=by rw [hO.len,Nat.mul_one]
 have hrow:∀k (hk:k<L.length),∃g RA rc,A=some ⟨g,0,none⟩∧w.cell? ⟨g,k,none⟩=some (.slice RA L[k].length rc)∧Sl w (U8B w) RA (b8s L[k]):=fun k hk=>by
  obtain ⟨g,RA,rc,e1,e2,e3,e4⟩:=rows_at (⟨by rw [List.length_map];exact hnL,cs,hO,hC0⟩:ElO ElRow 1 84 w (U8B w) A n c (L.map bbs)) (i:=k) (by rw [List.length_map];exact hk)
  rw [List.getElem_map] at e2 e3 e4;refine ⟨g,RA,rc,e1,?_,?_⟩
  ·rw [e2];unfold bbs;rw [List.length_map]
  ·rw [b8s_u8s];exact e4.mono (fun _ _ h=>h.1)
 have HROW:=h_ hrow;have HO:=h_ hO;have HC:=h_ hC;have HB:=h_ hb;have HNL:=h_ hnL;have HM:=h_ hm;have HCL:=h_ hcl;have HBC:=h_ hbc;have hnc:n≤c:=hO.le;clear hrow hC hC0 hb hnL hm hcl hO hbc;go_enter Tryz.func67,Tryz.ntmps67;go_wp2_with fail
 go_loopg [5] n (fun gg s5 wr=>∃k:Nat,Hid (gg=n - k)∧k≤n∧s5=.int .i64 k∧Hid (∀i (h:i<k) (h2:i<L.length),ltB L[i] b=true)∧Hid (wr=w))
 case atStart=>exact ⟨0,rfl,by omega,rfl,fun i h=>absurd h (Nat.not_lt_zero _),rfl⟩
 case round =>
  obtain ⟨k,Hg,hk,rfl,HLT,Hwr⟩:=hrel;obtain rfl:=Hwr.out;have HS:=h_ (fun (w':World) (u:Upd Non wr w')=>run_rowstr (n:=m) (c:=bc) (l:=bbs b) (by rw [←b8s_u8s];exact HB.out.upd u (fun _ _ _ f=>f)) (by unfold bbs;rw [List.length_map];exact HM.out))
  by_cases hlt:k<n
  ·have hkl:k<L.length:=by have:=HNL.out;omega
   obtain ⟨g,RA,rc,rfl,y0,hs⟩:=HROW.out k hkl;have C1:=h_ (rLessBits_c (ac:=rc) (bc:=bc) hs HB.out rfl HM.out);have HR:=h_ (fun (w':World) (u:Upd Non wr w')=>run_rowstr (n:=L[k].length) (c:=rc) (l:=bbs L[k]) (by rw [←b8s_u8s];exact hs.upd u (fun _ _ _ f=>f)) (by unfold bbs;rw [List.length_map]))
   have HEQ:Hid (((kstr (bbs L[k])).toList==(kstr (bbs b)).toList)=decide (L[k]=b)):=by
    show _=_;rw [kstr_toList,kstr_toList,Bool.eq_iff_iff,beq_iff_eq,decide_eq_true_eq];exact ⟨bbs_inj,fun h=>by rw [h]⟩
   obtain ⟨ln,Hln⟩:=nm L[k].length;rw [Hln.out] at C1 HR y0;obtain ⟨lt,Hlt⟩:=nm (ltB L[k] b);rw [Hlt.out] at C1;have t1:(k:Int)<(n:Int):=by omega
   have t3:(0:Int)≤(k:Int):=by omega
   clear hs;go_wp2_with fail
   refine C1.out.mono ?_;rintro e wx ⟨rfl,hw⟩;subst hw
   cases lt with
   | true =>
    have HLT2:Hid (∀i (h:i<k+1) (h2:i<L.length),ltB L[i] b=true):=fun i h h2=>by
     by_cases q:i<k
     ·exact HLT.out i q h2
     ·obtain rfl:i=k:=by omega
      exact Hlt.out
    clear y0 C1;go_wp2_with fail
    go_roundg (n - (k+1))
    case measure=>rw [Hg.out];omega
    case rel=>exact ⟨k+1,rfl,by omega,by go_num,HLT2.out,rfl⟩
   | false =>
    clear C1;have HSM:Hid (L[k]=b→insB b L=L):=fun q=>insB_same hkl (fun i hi=>HLT.out i hi (by omega)) q
    have HTK:Hid (L[k]≠b→insB b L=L.take k++b::L.drop k):=fun q=>insB_take (by omega) HLT.out (fun _=>⟨Hlt.out,q⟩)
    generalize kstr (bbs L[k])=sk at HR HEQ;generalize kstr (bbs b)=sb at HS HEQ;obtain ⟨W1,HW1⟩:=nm wr.drew;have uD:Upd Non wr W1:=by rw [←HW1.out];exact Upd.refl.drew
    have r1:=HR.out W1 uD;have r2:=HS.out W1 uD;have y0:=u_ (S:=Non) y0 uD (fun f=>f);have HUD:=h_ uD;clear uD;by_cases hq:L[k]=b
    ·have heq:=HEQ.out;rw [dT_ hq] at heq;have HFIN:=h_ (HSM.out hq);clear hq
     go_upto_region 4 with fail
     refine wp_region_held_drew (S:=fun w'=>w'.cell? ⟨g,k,none⟩=some (.slice RA ln rc)∧(convert 84 9 (.slice RA ln rc)).run Tryz.prog w'=.ok (.string sk) w'∧(convert 84 9 (.slice BA m bc)).run Tryz.prog w'=.ok (.string sb) w') (by kernel_rfl) (by rw [HW1.out];exact ⟨y0,r1,r2⟩) (fun hHeld=>?_)
     rw [HW1.out] at hHeld ⊢;refine wpT 0 ?_;(try simp only [y_,z_]);refine wpT 1 ?_;(try simp only [y_,z_]);refine wpT 2 ?_;(try simp only [y_,z_]);refine wpT 3 ?_;(try simp only [y_,z_]);refine wpT 4 ?_;(try simp only [y_,z_]);refine wpT 5 ?_;(try simp only [y_,z_]);refine wpT 6 ?_;(try simp only [y_,z_]);refine wpT 7 ?_;(try simp only [y_,z_]);refine wpT 8 ?_;(try simp only [y_,z_]);refine wpT 9 ?_;(try simp only [y_,z_]);refine wpT 10 ?_;(try simp only [y_,z_]);refine wpT 11 ?_;(try simp only [y_,z_]);refine wpT 12 ?_;(try simp only [y_,z_]);refine wpT 13 ?_;(try simp only [y_,z_]);refine aD_ (by kernel_rfl) ?_ _;clear hHeld y0 r1 r2;go_wp2_with fail
     go_ret;refine ⟨_,_,_,rfl,?_,fun _ q=>.inl q,by omega,HUD.out⟩;rw [HFIN.out];exact (elO_of HO.out HC.out (by rw [List.length_map];exact HNL.out)).u8 elRow HUD.out (fun _ _ f=>f) (fun _ _ _ f=>f)
    ·have heq:=HEQ.out;rw [dF_ hq] at heq;have HFIN:=h_ (HTK.out hq);clear hq
     go_upto_region 4 with fail
     refine wp_region_held_drew (S:=fun w'=>w'.cell? ⟨g,k,none⟩=some (.slice RA ln rc)∧(convert 84 9 (.slice RA ln rc)).run Tryz.prog w'=.ok (.string sk) w'∧(convert 84 9 (.slice BA m bc)).run Tryz.prog w'=.ok (.string sb) w') (by kernel_rfl) (by rw [HW1.out];exact ⟨y0,r1,r2⟩) (fun hHeld=>?_)
     rw [HW1.out] at hHeld ⊢;refine wpT 0 ?_;(try simp only [y_,z_]);refine wpT 1 ?_;(try simp only [y_,z_]);refine wpT 2 ?_;(try simp only [y_,z_]);refine wpT 3 ?_;(try simp only [y_,z_]);refine wpT 4 ?_;(try simp only [y_,z_]);refine wpT 5 ?_;(try simp only [y_,z_]);refine wpT 6 ?_;(try simp only [y_,z_]);refine wpT 7 ?_;(try simp only [y_,z_]);refine wpT 8 ?_;(try simp only [y_,z_]);refine wpT 9 ?_;(try simp only [y_,z_]);refine wpT 10 ?_;(try simp only [y_,z_]);refine wpT 11 ?_;(try simp only [y_,z_]);refine wpT 12 ?_;(try simp only [y_,z_]);refine wpT 13 ?_;(try simp only [y_,z_]);refine aD_ (by kernel_rfl) ?_ _;clear hHeld y0 r1 r2;have hOW:=HO.out.upd HUD.out (fun _ _ f=>f);obtain ⟨W2,HW2⟩:=nm (W1.alloc (.cells #[] 84));have u2:Upd Non W1 W2:=by rw [←HW2.out];exact Upd.refl.alloc _
     have hoE:Own W2 84 1 (some ⟨W1.heap.size,0,none⟩) 0 0 []:=by rw [←HW2.out];exact own_empty _ _ _
     have hO2:=hOW.upd u2 (fun _ _ f=>f);have hsT:=hO2.sl.take_ k;have hcl:=HCL.out;have tk0:(0:Int)≤(k:Int):=by omega
     have tkn:(k:Int)≤(n:Int):=by omega
     have tkc:(k:Int)≤(c:Int):=by omega
     have tnc:(n:Int)≤(c:Int):=by omega
     go_wp2_with (at_builtin;rw [HW2.out];refine wpList_app rfl rfl T_rows rfl hoE rfl hsT (by rw [List.length_take,hcl];omega) (fun u hu=>elRows_one HC.out u (List.mem_of_mem_take hu)) (by simp only [maxLen];omega) (by omega) ?_)
     intro A5 c5 w5 ho5 hu5 hat5;have u15:Upd Non W1 w5:=u2.trans hu5 (fun i hi q=>by rw [At.some_] at q;omega)
     go_wp2_with (at_builtin;refine wpList_app rfl rfl T_rows rfl (ho5.alloc _) rfl (Sl.new _ _ _) rfl (by simp [Value.oneCell']) (by simp only [maxLen];omega) (by omega) ?_)
     intro A6 c6 w6 ho6 hu6 hat6;have u15':=u15.alloc (.cells #[.slice BA m bc] 84)
     have u16:Upd Non W1 w6:=u15'.trans hu6 (fun i hi q=>by
      have h1:=u2.size;rcases hat5 i q with q | q
      ·rw [At.some_] at q;omega
      ·omega)
     have HC6:Hid (ElCells ElRow 1 w6 (U8B w6) cs (L.map bbs)):=elRows_upd HC.out (HUD.out.then_non u16) (fun _ _ _ f=>f);have HB6:Hid (Sl w6 (U8B w6) BA (b8s b)):=((HB.out.mono (G:=fun i=>U8B wr i∧i<wr.heap.size) (fun i hi q=>⟨q,hi⟩)).upd (HUD.out.then_non u16) (fun _ _ _ f=>f)).mono (fun i _ q=>q.1.upd (HUD.out.then_non u16) (fun f=>f))
     have HU6:=h_ (HUD.out.then_non u16)
     have HX6:Hid (∀i,At A6 i→wr.heap.size≤i):=fun i q=>by
      have h0:=HUD.out.size;have h1:=u2.size;have h3:=u15.size;rcases hat6 i q with q | q
      ·rcases hat5 i q with q | q
       ·rw [At.some_] at q;omega
       ·omega
      ·have h4:=u15'.size;omega
     have hnk:(cs.drop k).length=n - k:=by rw [List.length_drop,hcl]
     have HU16:=h_ u16;have HOW:=h_ hOW;clear u15 u15' u16 hu6 hu5 hat6 hat5 ho5 u2 hoE hO2 hsT hOW;have hck:¬c=k:=by omega
     have hsD:Sl w6 (fun _=>True) (if c=k then some ⟨g,0,none⟩ else some ⟨g,k,none⟩) (cs.drop k):=by
      have h2:=((HOW.out.sl.upd HU16.out (fun _ _ _ f=>f)).mono (G:=fun _=>True) (fun _ _ _=>trivial)).from2 (m:=k) (p:=c=k) (fun q=>by omega);rw [Nat.zero_add] at h2;exact h2
     rw [if_neg hck] at hsD;have tck:((c:Int)==(k:Int))=false:=by simp;omega
     go_wp2_with (at_builtin;refine wpList_app rfl rfl T_rows rfl ho6 rfl hsD (by rw [hnk];omega) (fun u hu=>elRows_one HC.out u (List.mem_of_mem_drop hu)) (by simp only [maxLen];omega) (by omega) ?_)
     intro A7 c7 w7 ho7 hu7 hat7;have HU7:Hid (Upd Non wr w7):=HU6.out.trans hu7 (fun i hi q=>by have:=HX6.out i q;omega)
     have HX7:Hid (∀i,At A7 i→wr.heap.size≤i):=fun i q=>by
      have h0:=HU6.out.size;rcases hat7 i q with q | q
      ·exact HX6.out i q
      ·omega
     have HR7:Hid (ElO ElRow 1 84 w7 (U8B w7) A7 (k+1+(n - k)) c7 ((insB b L).map bbs)):=by
      rw [HFIN.out];have h8:∀i z,Blk w6 i 5 z→¬At A6 i:=fun i z hb=>ho6.ne_blk hb (by decide)
      have h1:=elRows_upd HC6.out hu7 h8;have h2:=h1.take k;have h3:=h1.drop k
      have hx:ElRow w7 (U8B w7) [.slice BA m bc] (bbs b):=by
       have hm:(bbs b).length=m:=by unfold bbs;rw [List.length_map,HM.out]
       refine ⟨BA,bc,by rw [hm],by rw [hm];exact HBC.out,?_⟩;rw [←b8s_u8s];exact ((HB6.out.mono (G:=fun i=>U8B w6 i∧i<w6.heap.size) (fun i hi q=>⟨q,hi⟩)).upd hu7 (fun i _ q=>by obtain ⟨⟨z,hb⟩,_⟩:=q;exact h8 i z hb)).mono (fun i _ q=>q.1.upd hu7 (by obtain ⟨⟨z,hb⟩,_⟩:=q;exact h8 i z hb))
      have h4:=(h2.snoc elRow hx).app h3;rw [Nat.one_mul] at h4
      have h5:(L.map bbs).take k++[bbs b]++(L.map bbs).drop k=(L.take k++b::L.drop k).map bbs:=by
       rw [List.map_append,List.map_cons,List.map_take,List.map_drop];simp
      rw [h5] at h4;refine elO_of ?_ h4 ?_
      ·simpa using ho7
      ·rw [List.length_map,List.length_append,List.length_cons,List.length_take,List.length_drop,←HNL.out];omega
     clear ho7 hu7 hat7;go_wp2_with fail
     go_ret;exact ⟨A7,_,c7,rfl,HR7.out,fun i q=>.inr (HX7.out i q),by omega,HU7.out⟩
  ·have hnk:n=k:=by omega
   have HFIN:Hid (insB b L=L.take k++b::L.drop k):=insB_take (by have:=HNL.out;omega) HLT.out (fun h=>by have:=HNL.out;omega);have HNK:=h_ hnk;clear hnk;obtain ⟨W1,HW1⟩:=nm wr.drew;have uD:Upd Non wr W1:=by rw [←HW1.out];exact Upd.refl.drew
   have HUD:=h_ uD;clear uD
   go_upto_region 4 with fail
   refine wp_region_held_drew (S:=fun w'=>True) (by kernel_rfl) trivial (fun hHeld=>?_);rw [HW1.out];refine wpT 0 ?_;(try simp only [y_,z_]);refine wpT 1 ?_;(try simp only [y_,z_]);refine wpT 2 ?_;(try simp only [y_,z_]);refine wpT 3 ?_;(try simp only [y_,z_]);refine wpT 4 ?_;(try simp only [y_,z_]);refine wpU 5 ?_;(try simp only [y_,z_]);refine wpU 6 ?_;(try simp only [y_,z_]);refine wpU 7 ?_;(try simp only [y_,z_]);refine wpU 8 ?_;(try simp only [y_,z_]);refine wpU 9 ?_;(try simp only [y_,z_]);refine wpU 10 ?_;(try simp only [y_,z_]);refine wpU 11 ?_;(try simp only [y_,z_]);refine wpU 12 ?_;(try simp only [y_,z_]);refine wpT 13 ?_;(try simp only [y_,z_]);refine aD_ (by kernel_rfl) ?_ _;clear hHeld;rcases HO.out.cases with ⟨rfl,hn0,hc0,h0⟩ | ⟨g,cur,rfl,_,_,_,_,_⟩
   ·have hk0:k=0:=by omega
    have H0:=h_ (And.intro hn0 (And.intro hc0 hk0));clear h0 hn0 hc0 hk0;have hOW:=HO.out.upd HUD.out (fun _ _ f=>f);obtain ⟨W2,HW2⟩:=nm (W1.alloc (.cells #[] 84));have u2:Upd Non W1 W2:=by rw [←HW2.out];exact Upd.refl.alloc _
    have hoE:Own W2 84 1 (some ⟨W1.heap.size,0,none⟩) 0 0 []:=by rw [←HW2.out];exact own_empty _ _ _
    have hO2:=hOW.upd u2 (fun _ _ f=>f);have hsT:=hO2.sl.take_ k;have hcl:=HCL.out;have tk0:(0:Int)≤(k:Int):=by omega
    have tkn:(k:Int)≤(n:Int):=by omega
    have tkc:(k:Int)≤(c:Int):=by omega
    have tnc:(n:Int)≤(c:Int):=by omega
    go_wp2_with (at_builtin;rw [HW2.out];refine wpList_app rfl rfl T_rows rfl hoE rfl hsT (by rw [List.length_take,hcl];omega) (fun u hu=>elRows_one HC.out u (List.mem_of_mem_take hu)) (by simp only [maxLen];omega) (by omega) ?_)
    intro A5 c5 w5 ho5 hu5 hat5;have u15:Upd Non W1 w5:=u2.trans hu5 (fun i hi q=>by rw [At.some_] at q;omega)
    go_wp2_with (at_builtin;refine wpList_app rfl rfl T_rows rfl (ho5.alloc _) rfl (Sl.new _ _ _) rfl (by simp [Value.oneCell']) (by simp only [maxLen];omega) (by omega) ?_)
    intro A6 c6 w6 ho6 hu6 hat6;have u15':=u15.alloc (.cells #[.slice BA m bc] 84)
    have u16:Upd Non W1 w6:=u15'.trans hu6 (fun i hi q=>by
     have h1:=u2.size;rcases hat5 i q with q | q
     ·rw [At.some_] at q;omega
     ·omega)
    have HC6:Hid (ElCells ElRow 1 w6 (U8B w6) cs (L.map bbs)):=elRows_upd HC.out (HUD.out.then_non u16) (fun _ _ _ f=>f);have HB6:Hid (Sl w6 (U8B w6) BA (b8s b)):=((HB.out.mono (G:=fun i=>U8B wr i∧i<wr.heap.size) (fun i hi q=>⟨q,hi⟩)).upd (HUD.out.then_non u16) (fun _ _ _ f=>f)).mono (fun i _ q=>q.1.upd (HUD.out.then_non u16) (fun f=>f))
    have HU6:=h_ (HUD.out.then_non u16)
    have HX6:Hid (∀i,At A6 i→wr.heap.size≤i):=fun i q=>by
     have h0:=HUD.out.size;have h1:=u2.size;have h3:=u15.size;rcases hat6 i q with q | q
     ·rcases hat5 i q with q | q
      ·rw [At.some_] at q;omega
      ·omega
     ·have h4:=u15'.size;omega
    have hnk:(cs.drop k).length=n - k:=by rw [List.length_drop,hcl]
    have HU16:=h_ u16;have HOW:=h_ hOW;clear u15 u15' u16 hu6 hu5 hat6 hat5 ho5 u2 hoE hO2 hsT hOW;have hd0:cs.drop k=[]:=List.eq_nil_of_length_eq_zero (by rw [List.length_drop,hcl];have:=H0.out.1;omega);have HND:Hid (cs.take k++[.slice BA m bc]=(cs.take k++[.slice BA m bc])++cs.drop k):=by show _=_;rw [hd0,List.append_nil]
    clear hd0;have hck:c=k:=by have:=H0.out;omega
    go_wp2_with (at_builtin;refine wpList_app rfl rfl T_rows rfl ho6 rfl (F:=fun _=>True) (news:=[]) Sl.nil (by have:=HNK.out;simp only [List.length_nil];omega) (fun u hu=>by cases hu) (by simp only [maxLen];omega) (by omega) ?_)
    intro A7 c7 w7 ho7 hu7 hat7;rw [HND.out] at ho7;have HU7:Hid (Upd Non wr w7):=HU6.out.trans hu7 (fun i hi q=>by have:=HX6.out i q;omega)
    have HX7:Hid (∀i,At A7 i→wr.heap.size≤i):=fun i q=>by
     have h0:=HU6.out.size;rcases hat7 i q with q | q
     ·exact HX6.out i q
     ·omega
    have HR7:Hid (ElO ElRow 1 84 w7 (U8B w7) A7 (k+1+(n - k)) c7 ((insB b L).map bbs)):=by
     rw [HFIN.out];have h8:∀i z,Blk w6 i 5 z→¬At A6 i:=fun i z hb=>ho6.ne_blk hb (by decide)
     have h1:=elRows_upd HC6.out hu7 h8;have h2:=h1.take k;have h3:=h1.drop k
     have hx:ElRow w7 (U8B w7) [.slice BA m bc] (bbs b):=by
      have hm:(bbs b).length=m:=by unfold bbs;rw [List.length_map,HM.out]
      refine ⟨BA,bc,by rw [hm],by rw [hm];exact HBC.out,?_⟩;rw [←b8s_u8s];exact ((HB6.out.mono (G:=fun i=>U8B w6 i∧i<w6.heap.size) (fun i hi q=>⟨q,hi⟩)).upd hu7 (fun i _ q=>by obtain ⟨⟨z,hb⟩,_⟩:=q;exact h8 i z hb)).mono (fun i _ q=>q.1.upd hu7 (by obtain ⟨⟨z,hb⟩,_⟩:=q;exact h8 i z hb))
     have h4:=(h2.snoc elRow hx).app h3;rw [Nat.one_mul] at h4
     have h5:(L.map bbs).take k++[bbs b]++(L.map bbs).drop k=(L.take k++b::L.drop k).map bbs:=by
      rw [List.map_append,List.map_cons,List.map_take,List.map_drop];simp
     rw [h5] at h4;refine elO_of ?_ h4 ?_
     ·simpa using ho7
     ·rw [List.length_map,List.length_append,List.length_cons,List.length_take,List.length_drop,←HNL.out];omega
    clear ho7 hu7 hat7;go_wp2_with fail
    go_ret;exact ⟨A7,_,c7,rfl,HR7.out,fun i q=>.inr (HX7.out i q),by omega,HU7.out⟩
   ·by_cases hck:c=k
    ·skip;have hOW:=HO.out.upd HUD.out (fun _ _ f=>f);obtain ⟨W2,HW2⟩:=nm (W1.alloc (.cells #[] 84));have u2:Upd Non W1 W2:=by rw [←HW2.out];exact Upd.refl.alloc _
     have hoE:Own W2 84 1 (some ⟨W1.heap.size,0,none⟩) 0 0 []:=by rw [←HW2.out];exact own_empty _ _ _
     have hO2:=hOW.upd u2 (fun _ _ f=>f);have hsT:=hO2.sl.take_ k;have hcl:=HCL.out;have tk0:(0:Int)≤(k:Int):=by omega
     have tkn:(k:Int)≤(n:Int):=by omega
     have tkc:(k:Int)≤(c:Int):=by omega
     have tnc:(n:Int)≤(c:Int):=by omega
     go_wp2_with (at_builtin;rw [HW2.out];refine wpList_app rfl rfl T_rows rfl hoE rfl hsT (by rw [List.length_take,hcl];omega) (fun u hu=>elRows_one HC.out u (List.mem_of_mem_take hu)) (by simp only [maxLen];omega) (by omega) ?_)
     intro A5 c5 w5 ho5 hu5 hat5;have u15:Upd Non W1 w5:=u2.trans hu5 (fun i hi q=>by rw [At.some_] at q;omega)
     go_wp2_with (at_builtin;refine wpList_app rfl rfl T_rows rfl (ho5.alloc _) rfl (Sl.new _ _ _) rfl (by simp [Value.oneCell']) (by simp only [maxLen];omega) (by omega) ?_)
     intro A6 c6 w6 ho6 hu6 hat6;have u15':=u15.alloc (.cells #[.slice BA m bc] 84)
     have u16:Upd Non W1 w6:=u15'.trans hu6 (fun i hi q=>by
      have h1:=u2.size;rcases hat5 i q with q | q
      ·rw [At.some_] at q;omega
      ·omega)
     have HC6:Hid (ElCells ElRow 1 w6 (U8B w6) cs (L.map bbs)):=elRows_upd HC.out (HUD.out.then_non u16) (fun _ _ _ f=>f);have HB6:Hid (Sl w6 (U8B w6) BA (b8s b)):=((HB.out.mono (G:=fun i=>U8B wr i∧i<wr.heap.size) (fun i hi q=>⟨q,hi⟩)).upd (HUD.out.then_non u16) (fun _ _ _ f=>f)).mono (fun i _ q=>q.1.upd (HUD.out.then_non u16) (fun f=>f))
     have HU6:=h_ (HUD.out.then_non u16)
     have HX6:Hid (∀i,At A6 i→wr.heap.size≤i):=fun i q=>by
      have h0:=HUD.out.size;have h1:=u2.size;have h3:=u15.size;rcases hat6 i q with q | q
      ·rcases hat5 i q with q | q
       ·rw [At.some_] at q;omega
       ·omega
      ·have h4:=u15'.size;omega
     have hnk:(cs.drop k).length=n - k:=by rw [List.length_drop,hcl]
     have HU16:=h_ u16;have HOW:=h_ hOW;clear u15 u15' u16 hu6 hu5 hat6 hat5 ho5 u2 hoE hO2 hsT hOW;have hd0:cs.drop k=[]:=List.eq_nil_of_length_eq_zero (by rw [List.length_drop,hcl];have:=HNK.out;omega);have HND:Hid (cs.take k++[.slice BA m bc]=(cs.take k++[.slice BA m bc])++cs.drop k):=by show _=_;rw [hd0,List.append_nil]
     clear hd0
     go_wp2_with (at_builtin;refine wpList_app rfl rfl T_rows rfl ho6 rfl (F:=fun _=>True) (news:=[]) Sl.nil (by have:=HNK.out;simp only [List.length_nil];omega) (fun u hu=>by cases hu) (by simp only [maxLen];omega) (by omega) ?_)
     intro A7 c7 w7 ho7 hu7 hat7;rw [HND.out] at ho7;have HU7:Hid (Upd Non wr w7):=HU6.out.trans hu7 (fun i hi q=>by have:=HX6.out i q;omega)
     have HX7:Hid (∀i,At A7 i→wr.heap.size≤i):=fun i q=>by
      have h0:=HU6.out.size;rcases hat7 i q with q | q
      ·exact HX6.out i q
      ·omega
     have HR7:Hid (ElO ElRow 1 84 w7 (U8B w7) A7 (k+1+(n - k)) c7 ((insB b L).map bbs)):=by
      rw [HFIN.out];have h8:∀i z,Blk w6 i 5 z→¬At A6 i:=fun i z hb=>ho6.ne_blk hb (by decide)
      have h1:=elRows_upd HC6.out hu7 h8;have h2:=h1.take k;have h3:=h1.drop k
      have hx:ElRow w7 (U8B w7) [.slice BA m bc] (bbs b):=by
       have hm:(bbs b).length=m:=by unfold bbs;rw [List.length_map,HM.out]
       refine ⟨BA,bc,by rw [hm],by rw [hm];exact HBC.out,?_⟩;rw [←b8s_u8s];exact ((HB6.out.mono (G:=fun i=>U8B w6 i∧i<w6.heap.size) (fun i hi q=>⟨q,hi⟩)).upd hu7 (fun i _ q=>by obtain ⟨⟨z,hb⟩,_⟩:=q;exact h8 i z hb)).mono (fun i _ q=>q.1.upd hu7 (by obtain ⟨⟨z,hb⟩,_⟩:=q;exact h8 i z hb))
      have h4:=(h2.snoc elRow hx).app h3;rw [Nat.one_mul] at h4
      have h5:(L.map bbs).take k++[bbs b]++(L.map bbs).drop k=(L.take k++b::L.drop k).map bbs:=by
       rw [List.map_append,List.map_cons,List.map_take,List.map_drop];simp
      rw [h5] at h4;refine elO_of ?_ h4 ?_
      ·simpa using ho7
      ·rw [List.length_map,List.length_append,List.length_cons,List.length_take,List.length_drop,←HNL.out];omega
     clear ho7 hu7 hat7;go_wp2_with fail
     go_ret;exact ⟨A7,_,c7,rfl,HR7.out,fun i q=>.inr (HX7.out i q),by omega,HU7.out⟩
    ·skip;have hOW:=HO.out.upd HUD.out (fun _ _ f=>f);obtain ⟨W2,HW2⟩:=nm (W1.alloc (.cells #[] 84));have u2:Upd Non W1 W2:=by rw [←HW2.out];exact Upd.refl.alloc _
     have hoE:Own W2 84 1 (some ⟨W1.heap.size,0,none⟩) 0 0 []:=by rw [←HW2.out];exact own_empty _ _ _
     have hO2:=hOW.upd u2 (fun _ _ f=>f);have hsT:=hO2.sl.take_ k;have hcl:=HCL.out;have tk0:(0:Int)≤(k:Int):=by omega
     have tkn:(k:Int)≤(n:Int):=by omega
     have tkc:(k:Int)≤(c:Int):=by omega
     have tnc:(n:Int)≤(c:Int):=by omega
     go_wp2_with (at_builtin;rw [HW2.out];refine wpList_app rfl rfl T_rows rfl hoE rfl hsT (by rw [List.length_take,hcl];omega) (fun u hu=>elRows_one HC.out u (List.mem_of_mem_take hu)) (by simp only [maxLen];omega) (by omega) ?_)
     intro A5 c5 w5 ho5 hu5 hat5;have u15:Upd Non W1 w5:=u2.trans hu5 (fun i hi q=>by rw [At.some_] at q;omega)
     go_wp2_with (at_builtin;refine wpList_app rfl rfl T_rows rfl (ho5.alloc _) rfl (Sl.new _ _ _) rfl (by simp [Value.oneCell']) (by simp only [maxLen];omega) (by omega) ?_)
     intro A6 c6 w6 ho6 hu6 hat6;have u15':=u15.alloc (.cells #[.slice BA m bc] 84)
     have u16:Upd Non W1 w6:=u15'.trans hu6 (fun i hi q=>by
      have h1:=u2.size;rcases hat5 i q with q | q
      ·rw [At.some_] at q;omega
      ·omega)
     have HC6:Hid (ElCells ElRow 1 w6 (U8B w6) cs (L.map bbs)):=elRows_upd HC.out (HUD.out.then_non u16) (fun _ _ _ f=>f);have HB6:Hid (Sl w6 (U8B w6) BA (b8s b)):=((HB.out.mono (G:=fun i=>U8B wr i∧i<wr.heap.size) (fun i hi q=>⟨q,hi⟩)).upd (HUD.out.then_non u16) (fun _ _ _ f=>f)).mono (fun i _ q=>q.1.upd (HUD.out.then_non u16) (fun f=>f))
     have HU6:=h_ (HUD.out.then_non u16)
     have HX6:Hid (∀i,At A6 i→wr.heap.size≤i):=fun i q=>by
      have h0:=HUD.out.size;have h1:=u2.size;have h3:=u15.size;rcases hat6 i q with q | q
      ·rcases hat5 i q with q | q
       ·rw [At.some_] at q;omega
       ·omega
      ·have h4:=u15'.size;omega
     have hnk:(cs.drop k).length=n - k:=by rw [List.length_drop,hcl]
     have HU16:=h_ u16;have HOW:=h_ hOW;clear u15 u15' u16 hu6 hu5 hat6 hat5 ho5 u2 hoE hO2 hsT hOW
     have hsD:Sl w6 (fun _=>True) (if c=k then some ⟨g,0,none⟩ else some ⟨g,k,none⟩) (cs.drop k):=by
      have h2:=((HOW.out.sl.upd HU16.out (fun _ _ _ f=>f)).mono (G:=fun _=>True) (fun _ _ _=>trivial)).from2 (m:=k) (p:=c=k) (fun q=>by omega);rw [Nat.zero_add] at h2;exact h2
     rw [if_neg hck] at hsD;have tck:((c:Int)==(k:Int))=false:=by simp;omega
     go_wp2_with (at_builtin;refine wpList_app rfl rfl T_rows rfl ho6 rfl hsD (by rw [hnk];omega) (fun u hu=>elRows_one HC.out u (List.mem_of_mem_drop hu)) (by simp only [maxLen];omega) (by omega) ?_)
     intro A7 c7 w7 ho7 hu7 hat7;have HU7:Hid (Upd Non wr w7):=HU6.out.trans hu7 (fun i hi q=>by have:=HX6.out i q;omega)
     have HX7:Hid (∀i,At A7 i→wr.heap.size≤i):=fun i q=>by
      have h0:=HU6.out.size;rcases hat7 i q with q | q
      ·exact HX6.out i q
      ·omega
     have HR7:Hid (ElO ElRow 1 84 w7 (U8B w7) A7 (k+1+(n - k)) c7 ((insB b L).map bbs)):=by
      rw [HFIN.out];have h8:∀i z,Blk w6 i 5 z→¬At A6 i:=fun i z hb=>ho6.ne_blk hb (by decide)
      have h1:=elRows_upd HC6.out hu7 h8;have h2:=h1.take k;have h3:=h1.drop k
      have hx:ElRow w7 (U8B w7) [.slice BA m bc] (bbs b):=by
       have hm:(bbs b).length=m:=by unfold bbs;rw [List.length_map,HM.out]
       refine ⟨BA,bc,by rw [hm],by rw [hm];exact HBC.out,?_⟩;rw [←b8s_u8s];exact ((HB6.out.mono (G:=fun i=>U8B w6 i∧i<w6.heap.size) (fun i hi q=>⟨q,hi⟩)).upd hu7 (fun i _ q=>by obtain ⟨⟨z,hb⟩,_⟩:=q;exact h8 i z hb)).mono (fun i _ q=>q.1.upd hu7 (by obtain ⟨⟨z,hb⟩,_⟩:=q;exact h8 i z hb))
      have h4:=(h2.snoc elRow hx).app h3;rw [Nat.one_mul] at h4
      have h5:(L.map bbs).take k++[bbs b]++(L.map bbs).drop k=(L.take k++b::L.drop k).map bbs:=by
       rw [List.map_append,List.map_cons,List.map_take,List.map_drop];simp
      rw [h5] at h4;refine elO_of ?_ h4 ?_
      ·simpa using ho7
      ·rw [List.length_map,List.length_append,List.length_cons,List.length_take,List.length_drop,←HNL.out];omega
     clear ho7 hu7 hat7;go_wp2_with fail
     go_ret;exact ⟨A7,_,c7,rfl,HR7.out,fun i q=>.inr (HX7.out i q),by omega,HU7.out⟩
end Go.Proofs.YtifhejahbbnkiaaGreat
