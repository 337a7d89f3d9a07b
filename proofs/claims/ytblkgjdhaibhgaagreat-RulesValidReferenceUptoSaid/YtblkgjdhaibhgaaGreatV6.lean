/-
  Lemmas and walks that the claim rests on, part 6 (packed by a program).
-/
import Derived.Test.YtblkgjdhaibhgaaGreatV1
import Derived.Test.YtblkgjdhaibhgaaGreatV5
import Derived.Lib.AppendStr
import Derived.Test.YtblkgjdhaibhgaaGreatV3
import Derived.Laws.ResultCell
import Derived.Laws.Rows
namespace Go.Proofs.YtblkgjdhaibhgaaGreat
open Go.RowKit
set_option maxRecDepth 100000 in
set_option maxHeartbeats 4000000 in
theorem rlVC1_c (n:Int) (b:Nat) (ss:List Int) (A:Option Addr) (c:Nat) (F:Nat→Prop) (w:World) (hb:w.cell? ⟨b,0,none⟩=some (.slice A ss.length c)) (hs:Ints w F A ss) :
  Calls Tryz.prog 87 #[.int .i64 n,.pointer (some ⟨b,0,none⟩)] w fun e w'=>e=.returned (.bool (isValF ss n))∧w=w':=by
 obtain ⟨l,Hl⟩:=nm ss.length;obtain ⟨R,HR⟩:=nm (isValF ss n);have HD:Hid (R=decide (1≤n∧n<(l:Int)∧ss.getD n.toNat 0=1)):=by show _=_;rw [←HR.out,←Hl.out];rfl
 rw [Hl.out] at hb;rw [HR.out];by_cases h1:1≤n
 ·have f1:decide ((1:Int)≤n)=true:=dT_ h1;by_cases h2:n<(l:Int)
  ·have f2:decide (n<(l:Int))=true:=dT_ h2;obtain ⟨j,rfl⟩:∃j:Nat,n=(j:Int):=Int.eq_ofNat_of_zero_le (by omega);have hj:j<ss.length:=by rw [Hl.out];omega
   obtain ⟨g,o,rfl,_,_,hx⟩:=hs.at_ hj;have HE:Hid (R=decide (ss[j]=1)):=by show _=_;rw [HD.out,Int.toNat_natCast,getD_of hj];simp [h1,h2]
   generalize ss[j]=x at *;clear h1;go_enter Tryz.func87,Tryz.ntmps87;go_wp2_with fail
   go_ret;refine ⟨?_,rfl⟩;rw [HE.out];show Ending.returned (Value.bool _)=_
   congr 2
  ·have f2:decide (n<(l:Int))=false:=dF_ h2;have HE:Hid (R=false):=by show _=_;rw [HD.out];exact dF_ (fun q=>h2 q.2.1)
   clear h1 h2;go_enter Tryz.func87,Tryz.ntmps87;go_wp2_with fail
   go_ret;exact ⟨by rw [HE.out];rfl,rfl⟩
 ·have f1:decide ((1:Int)≤n)=false:=dF_ h1;have HE:Hid (R=false):=by show _=_;rw [HD.out];exact dF_ (fun q=>h1 q.1)
  clear h1;go_enter Tryz.func87,Tryz.ntmps87;go_wp2_with fail
  go_ret;exact ⟨by rw [HE.out];rfl,rfl⟩
set_option maxRecDepth 100000 in
set_option maxHeartbeats 4000000 in
theorem rlVC2_c (n m:Int) (b:Nat) (w:World) (hb:w.cell? ⟨b,0,none⟩=some (.int .i64 m)) :
  Calls Tryz.prog 88 #[.int .i64 n,.pointer (some ⟨b,0,none⟩)] w fun e w'=>e=.returned (.bool (isImmF m n))∧w=w':=by
 obtain ⟨R,HR⟩:=nm (isImmF m n);have HD:Hid (R=decide (1≤n∧n≤m)):=by show _=_;rw [←HR.out];rfl
 rw [HR.out];by_cases h1:1≤n
 ·have f1:decide ((1:Int)≤n)=true:=dT_ h1;have HE:Hid (R=decide (n≤m)):=by show _=_;rw [HD.out];simp [h1]
  clear h1;go_enter Tryz.func88,Tryz.ntmps88;go_wp2_with fail
  go_ret;exact ⟨by rw [HE.out];rfl,rfl⟩
 ·have f1:decide ((1:Int)≤n)=false:=dF_ h1;have HE:Hid (R=false):=by show _=_;rw [HD.out];exact dF_ (fun q=>h1 q.1)
  clear h1;go_enter Tryz.func88,Tryz.ntmps88;go_wp2_with fail
  go_ret;exact ⟨by rw [HE.out];rfl,rfl⟩
set_option maxRecDepth 100000 in
set_option maxHeartbeats 4000000 in
theorem rlValidCond_c (x:Cd) (ss:List Int) (m:Int) (A:Option Addr) (c:Nat) (F:Nat→Prop) (w:World) (hs:Ints w F A ss) :
  Calls Tryz.prog 48 #[.agg #[.int .i64 x.kind,.int .i64 x.a,.int .i64 x.b,.int .i64 x.n],.slice A ss.length c,.int .i64 m] w fun e w'=>e=.returned (.bool (condF x ss m))∧Upd Non w w':=by
 obtain ⟨k,a,b,n⟩:=x;dsimp only;obtain ⟨W1,HW1⟩:=nm (w.alloc (.cells #[.int .i64 k,.int .i64 a,.int .i64 b,.int .i64 n] 69));obtain ⟨W2,HW2⟩:=nm (W1.alloc (.cells #[.slice A ss.length c] 22));obtain ⟨W3,HW3⟩:=nm (W2.alloc (.cells #[.int .i64 m] 3));have u1:Upd Non w W1:=by rw [←HW1.out];exact Upd.refl.alloc _
 have u2:Upd Non W1 W2:=by rw [←HW2.out];exact Upd.refl.alloc _
 have u3:Upd Non W2 W3:=by rw [←HW3.out];exact Upd.refl.alloc _
 have s1:W1.heap.size=w.heap.size+1:=by rw [←HW1.out];simp
 have s2:W2.heap.size=w.heap.size+2:=by rw [←HW2.out];simp [s1]
 have b1:Blk W1 w.heap.size 69 #[.int .i64 k,.int .i64 a,.int .i64 b,.int .i64 n]:=by rw [←HW1.out];exact Blk.new _ _ _
 have b2:Blk W2 (w.heap.size+1) 22 #[.slice A ss.length c]:=by rw [←HW2.out,←s1];exact Blk.new _ _ _
 have b3:Blk W3 (w.heap.size+2) 3 #[.int .i64 m]:=by rw [←HW3.out,←s2];exact Blk.new _ _ _
 have b2:=b2.upd u3 (fun f=>f);have b1:=(b1.upd u2 (fun f=>f)).upd u3 (fun f=>f);have e1:=HW1.out;have e2:=HW2.out;have e3:=HW3.out;have U:Upd Non w W3:=(u1.then_non u2).then_non u3;have hs:=hs.upd U (fun _ _ _ f=>f);have CV:=h_ (fun n=>rlVC1_c n (w.heap.size+1) ss A c F W3 (b2.cell 0) hs);have CM:=h_ (fun n=>rlVC2_c n m (w.heap.size+2) W3 (b3.cell 0));have c0:=b1.cell 0;have c1:=b1.cell 1;have c2:=b1.cell 2;have c3:=b1.cell 3;have hmf:∀(fn:Fn) (first cap:Array Value) (w:World),(Instr.makeFunc fn first cap).run Tryz.prog w=.ok (.func fn first cap) w:=fun _ _ _ _=>rfl
 obtain ⟨l,Hl⟩:=nm ss.length;rw [Hl.out] at e2;rw [Hl.out];obtain ⟨R,HR⟩:=nm (condF ⟨k,a,b,n⟩ ss m);rw [HR.out];have HR1:Hid (R=condF ⟨k,a,b,n⟩ ss m):=HR.out.symm;unfold condF at HR1;dsimp only at HR1;obtain ⟨va,Hva⟩:=nm (isValF ss a);obtain ⟨vb,Hvb⟩:=nm (isValF ss b);obtain ⟨ia,Hia⟩:=nm (isImmF m a);obtain ⟨ib,Hib⟩:=nm (isImmF m b);have CVa:=h_ (CV.out a);have CVb:=h_ (CV.out b);have CMa:=h_ (CM.out a);have CMb:=h_ (CM.out b);rw [Hva.out] at HR1 CVa;rw [Hvb.out] at HR1 CVb;rw [Hia.out] at HR1 CMa;rw [Hib.out] at HR1 CMb;clear CV CM b1 b2 b3 hs HR u1 u2 u3;obtain ⟨tb,ftb⟩:∃t,(b==0)=t:=⟨_,rfl⟩;obtain ⟨tn,ftn⟩:∃t,(n==0)=t:=⟨_,rfl⟩;obtain ⟨tab,ftab⟩:∃t,(a != b)=t:=⟨_,rfl⟩;have gtb:decide (b=0)=tb:=by rw [←ftb,Bool.eq_iff_iff];simp
 have gtn:decide (n=0)=tn:=by rw [←ftn,Bool.eq_iff_iff];simp
 have gtab:decide (a≠b)=tab:=by rw [←ftab,Bool.eq_iff_iff];simp
 rw [gtb,gtn,gtab] at HR1;clear gtb gtn gtab;by_cases h1:k=1
 ·subst h1;have HE0:Hid (R=(va&&tb&&tn)):=HR1.out;go_enter Tryz.func48,Tryz.ntmps48;go_wp2_with fail
  refine CVa.out.mono ?_;rintro e w5 ⟨rfl,rfl⟩
  cases va with
  | false =>
   have HE:Hid (R=false):=HE0.out;go_wp2_with fail
   go_ret;exact ⟨by rw [HE.out];rfl,U⟩
  | true =>
   cases tb with
   | false =>
    have HE:Hid (R=false):=HE0.out;go_wp2_with fail
    go_ret;exact ⟨by rw [HE.out];rfl,U⟩
   | true =>
    have HE:Hid (R=tn):=HE0.out;go_wp2_with fail
    go_ret;exact ⟨by rw [HE.out];rfl,U⟩
 ·by_cases h2:k=2∨k=3
  ·have HE0:Hid (R=(va&&tb)):=by have:=HR1.out;rw [if_neg h1,if_pos h2] at this;exact this
   rcases h2 with rfl | rfl
   ·go_enter Tryz.func48,Tryz.ntmps48;go_wp2_with fail
    refine CVa.out.mono ?_;rintro e w5 ⟨rfl,rfl⟩
    cases va with
    | false =>
     have HE:Hid (R=false):=HE0.out;go_wp2_with fail
     go_ret;exact ⟨by rw [HE.out];rfl,U⟩
    | true =>
     have HE:Hid (R=tb):=HE0.out;go_wp2_with fail
     go_ret;exact ⟨by rw [HE.out];rfl,U⟩
   ·go_enter Tryz.func48,Tryz.ntmps48;go_wp2_with fail
    refine CVa.out.mono ?_;rintro e w5 ⟨rfl,rfl⟩
    cases va with
    | false =>
     have HE:Hid (R=false):=HE0.out;go_wp2_with fail
     go_ret;exact ⟨by rw [HE.out];rfl,U⟩
    | true =>
     have HE:Hid (R=tb):=HE0.out;go_wp2_with fail
     go_ret;exact ⟨by rw [HE.out];rfl,U⟩
  ·have HR2:=HR1.out;rw [if_neg h1,if_neg h2] at HR2;have t1:(k==1)=false:=by simpa using h1
   have t2:(k==2)=false:=by simp;omega
   have t3:(k==3)=false:=by simp;omega
   have HR1:=h_ HR2;clear HR2 h1 h2;by_cases h4:k=4
   ·subst h4;have HE0:Hid (R=(va&&vb&&tab&&tn)):=HR1.out;go_enter Tryz.func48,Tryz.ntmps48;go_wp2_with fail
    refine CVa.out.mono ?_;rintro e w5 ⟨rfl,rfl⟩
    cases va with
    | false =>
     have HE:Hid (R=false):=HE0.out;go_wp2_with fail
     go_ret;exact ⟨by rw [HE.out];rfl,U⟩
    | true =>
     go_wp2_with fail
     refine CVb.out.mono ?_;rintro e w5 ⟨rfl,rfl⟩
     cases vb with
     | false =>
      have HE:Hid (R=false):=HE0.out;go_wp2_with fail
      go_ret;exact ⟨by rw [HE.out];rfl,U⟩
     | true =>
      cases tab with
      | false =>
       have HE:Hid (R=false):=HE0.out;go_wp2_with fail
       go_ret;exact ⟨by rw [HE.out];rfl,U⟩
      | true =>
       have HE:Hid (R=tn):=HE0.out;go_wp2_with fail
       go_ret;exact ⟨by rw [HE.out];rfl,U⟩
   ·have HR2:=HR1.out;rw [if_neg h4] at HR2;have t4:(k==4)=false:=by simpa using h4
    have HR1:=h_ HR2;clear HR2 h4;by_cases h5:k=5
    ·subst h5;have HE0:Hid (R=(va&&ib&&tn)):=HR1.out;go_enter Tryz.func48,Tryz.ntmps48;go_wp2_with fail
     refine CVa.out.mono ?_;rintro e w5 ⟨rfl,rfl⟩
     cases va with
     | false =>
      have HE:Hid (R=false):=HE0.out;go_wp2_with fail
      go_ret;exact ⟨by rw [HE.out];rfl,U⟩
     | true =>
      go_wp2_with fail
      refine CMb.out.mono ?_;rintro e w5 ⟨rfl,rfl⟩
      cases ib with
      | false =>
       have HE:Hid (R=false):=HE0.out;go_wp2_with fail
       go_ret;exact ⟨by rw [HE.out];rfl,U⟩
      | true =>
       have HE:Hid (R=tn):=HE0.out;go_wp2_with fail
       go_ret;exact ⟨by rw [HE.out];rfl,U⟩
    ·have HR2:=HR1.out;rw [if_neg h5] at HR2;have t5:(k==5)=false:=by simpa using h5
     have HR1:=h_ HR2;clear HR2 h5;by_cases h6:k=6
     ·subst h6;have HE0:Hid (R=(ia&&ib&&tab&&tn)):=HR1.out;go_enter Tryz.func48,Tryz.ntmps48;go_wp2_with fail
      refine CMa.out.mono ?_;rintro e w5 ⟨rfl,rfl⟩
      cases ia with
      | false =>
       have HE:Hid (R=false):=HE0.out;go_wp2_with fail
       go_ret;exact ⟨by rw [HE.out];rfl,U⟩
      | true =>
       go_wp2_with fail
       refine CMb.out.mono ?_;rintro e w5 ⟨rfl,rfl⟩
       cases ib with
       | false =>
        have HE:Hid (R=false):=HE0.out;go_wp2_with fail
        go_ret;exact ⟨by rw [HE.out];rfl,U⟩
       | true =>
        cases tab with
        | false =>
         have HE:Hid (R=false):=HE0.out;go_wp2_with fail
         go_ret;exact ⟨by rw [HE.out];rfl,U⟩
        | true =>
         have HE:Hid (R=tn):=HE0.out;go_wp2_with fail
         go_ret;exact ⟨by rw [HE.out];rfl,U⟩
     ·have HR2:=HR1.out;rw [if_neg h6] at HR2;have t6:(k==6)=false:=by simpa using h6
      have HE:=h_ HR2;clear HR2 h6;go_enter Tryz.func48,Tryz.ntmps48;go_wp2_with fail
      go_ret;exact ⟨by rw [HE.out];rfl,U⟩
theorem rl_cells {w:World} {b:Nat} {t:TypeId} {r:Rl} {a:RlA} (h:Blk w b t (rlCells r a)) :
  w.cell? ⟨b,0,none⟩=some (.string r.name)∧w.cell? ⟨b,1,none⟩=some (.int .i64 r.l.v)∧w.cell? ⟨b,2,none⟩=some (.int .i64 r.l.op)∧w.cell? ⟨b,3,none⟩=some (.int .i64 r.l.imm)∧w.cell? ⟨b,4,none⟩=some (.int .i64 r.l.iv)∧w.cell? ⟨b,5,none⟩=some (.slice a.la r.l.kids.length a.lc) ∧
  w.cell? ⟨b,6,none⟩=some (.int .i64 r.r.v)∧w.cell? ⟨b,7,none⟩=some (.int .i64 r.r.op)∧w.cell? ⟨b,8,none⟩=some (.int .i64 r.r.imm)∧w.cell? ⟨b,9,none⟩=some (.int .i64 r.r.iv)∧w.cell? ⟨b,10,none⟩=some (.slice a.ra r.r.kids.length a.rc) ∧
  w.cell? ⟨b,11,none⟩=some (.slice a.ca r.conds.length a.cc)∧w.cell? ⟨b,12,none⟩=some (.int .i64 r.vars)∧w.cell? ⟨b,13,none⟩=some (.int .i64 r.imms):=by
 refine ⟨?_,?_,?_,?_,?_,?_,?_,?_,?_,?_,?_,?_,?_,?_⟩ <;> (rw [h.cell];rfl)
theorem VBlk.ints {w:World} {g:Nat} {vs:List Int} (h:VBlk w g vs):Ints w (fun _=>True) (some ⟨g,0,none⟩) vs:=by
 have:=Sl.of_blk (F:=fun _=>True) trivial h vs.length;unfold Ints
 have e:(icells vs).toArray.toList.take vs.length=icells vs:=by
  rw [List.take_of_length_le (by simp [icells])]
 rw [e] at this;exact this
structure RlSz (x:Rl):Prop where
 l:x.l.size≤1000000000000
 r:x.r.size≤1000000000000
 c:x.conds.length≤1000000000000
 n:x.name.size≤1000000000000000
theorem VBlk.new (w:World) (n:Nat):VBlk (w.alloc (.cells (Array.replicate n (.int .i64 0)) 3)) w.heap.size (List.replicate n 0):=by
 unfold VBlk;rw [show (icells (List.replicate n 0)).toArray=Array.replicate n (.int .i64 0) by simp [icells]];exact Blk.new _ _ _
set_option maxRecDepth 100000 in
set_option maxHeartbeats 4000000 in
theorem rlValid_c (r:Rl) (a:RlA) (F:Nat→Prop) (w:World) (hk:RlK w F r a) (hz:RlSz r) :
  Calls Tryz.prog 21 #[rlv r a] w fun e w'=>e=.returned (.bool (implF r))∧Upd Non w w':=by
 obtain ⟨W,HW⟩:=nm (w.alloc (.cells (rlCells r a) 43));have hU:Upd Non w W:=by rw [←HW.out];exact Upd.refl.alloc _
 have hb:Blk W w.heap.size 43 (rlCells r a):=by rw [←HW.out];exact Blk.new _ _ _
 have hsz:W.heap.size=w.heap.size+1:=by rw [←HW.out];simp
 have e0:=HW.out;have hK:=(hk.mono (G:=fun k=>k<w.heap.size) (fun _ h _=>h)).upd hU (fun _ _ _ f=>f);have HC:=h_ (fun (w':World) (u:Upd Non W w')=>rl_cells (hb.upd u (fun f=>f)));obtain ⟨c0,c1,c2,c3,c4,c5,c6,c7,c8,c9,c10,c11,c12,c13⟩:=HC.out W Upd.refl;have CL:=h_ (ptValid_c r.l W _ a.la a.lc r.vars r.imms hK.l hz.l);have CR:=h_ (fun (w':World) (u:Upd Non W w')=>ptValid_c r.r w' _ a.ra a.rc r.vars r.imms (PtK.upd u (fun _ _ _ f=>f) _ _ _ hK.r) hz.r);have CN:=h_ (fun w'=>rlValidName_c r.name w' hz.n);have HZ:=h_ hz;have HK:=h_ hK;unfold pv at CL CR;unfold rlv;unfold rlCells at e0 ⊢;obtain ⟨R,HR⟩:=nm (implF r);rw [HR.out];have HR1:Hid (R=(decide (r.l.v=0)&&validF r.l r.vars r.imms&&validF r.r r.vars r.imms&&nameF r.name&&decide (r.conds.length≤6)&&implG r)):=HR.out.symm
 have HVL:Hid (∀b,validF r.l r.vars r.imms=b→validF r.l r.vars r.imms=b):=fun _ h=>h
 obtain ⟨vl,Hvl⟩:=nm (validF r.l r.vars r.imms);obtain ⟨vr,Hvr⟩:=nm (validF r.r r.vars r.imms);obtain ⟨vn,Hvn⟩:=nm (nameF r.name);rw [Hvl.out] at CL HR1;rw [Hvr.out] at CR HR1;rw [Hvn.out] at CN HR1;clear hk hz hK HR HVL hb;by_cases hv:r.l.v=0
 ·have t1:(r.l.v != 0)=false:=by simp [hv]
  have HR2:Hid (R=(vl&&vr&&vn&&decide (r.conds.length≤6)&&implG r)):=by show _=_;rw [HR1.out,dT_ hv];simp
  have HLV:=h_ hv;clear hv HR1;go_enter Tryz.func21,Tryz.ntmps21;go_wp2_with fail
  refine CL.out.mono ?_;rintro e w1 ⟨rfl,u1⟩;have HU:=hU.then_non u1;obtain ⟨c0,c1,c2,c3,c4,c5,c6,c7,c8,c9,c10,c11,c12,c13⟩:=HC.out _ u1
  cases vl with
  | false =>
   have HF:Hid (R=false):=HR2.out;go_wp2_with fail
   go_ret;exact ⟨by rw [HF.out];rfl,HU⟩
  | true =>
   go_wp2_with fail
   refine (CR.out _ u1).mono ?_;rintro e w2 ⟨rfl,u2'⟩;have u2:=u1.then_non u2';have HU:=hU.then_non u2;obtain ⟨c0,c1,c2,c3,c4,c5,c6,c7,c8,c9,c10,c11,c12,c13⟩:=HC.out _ u2
   cases vr with
   | false =>
    have HF:Hid (R=false):=HR2.out;go_wp2_with fail
    go_ret;exact ⟨by rw [HF.out];rfl,HU⟩
   | true =>
    go_wp2_with fail
    refine (CN.out _).mono ?_;rintro e w3 ⟨rfl,q3,rfl⟩;have u3:Upd Non W (w2.drewN q3):=u2.drewN _;have HU:=hU.then_non u3;obtain ⟨w3,Hw3⟩:=nm (w2.drewN q3);rw [Hw3.out] at u3 HU ⊢;obtain ⟨c0,c1,c2,c3,c4,c5,c6,c7,c8,c9,c10,c11,c12,c13⟩:=HC.out _ u3
    cases vn with
    | false =>
     have HF:Hid (R=false):=HR2.out;go_wp2_with fail
     go_ret;exact ⟨by rw [HF.out];rfl,HU⟩
    | true =>
     by_cases h6:r.conds.length≤6
     ·have t2:decide ((6:Int)<(r.conds.length:Int))=false:=dF_ (by omega);have HR3:Hid (R=implG r):=by show _=_;rw [HR2.out,dT_ h6];rfl
      have H6:=h_ h6;clear h6 HR2 CL CR CN
      obtain ⟨hvl,hshl⟩:(0≤r.vars∧r.vars≤6∧0≤r.imms∧r.imms≤6)∧shp r.l 0 r.imms r.vars.toNat=true:=by
       have h:=Hvl.out;unfold validF at h;simp only [Bool.and_eq_true,decide_eq_true_eq] at h;obtain ⟨v1,a1,_⟩:=vPt_fst.1 h.2;rw [List.length_replicate] at a1;exact ⟨by omega,a1⟩
      have hshr:shp r.r 0 r.imms r.vars.toNat=true:=by
       have h:=Hvr.out;unfold validF at h;simp only [Bool.and_eq_true,decide_eq_true_eq] at h;obtain ⟨v1,a1,_⟩:=vPt_fst.1 h.2;rw [List.length_replicate] at a1;exact a1
      have HSL:=h_ hshl;have HSR:=h_ hshr;obtain ⟨n,Hn⟩:∃n:Nat,Hid (r.vars=(n:Int)):=Int.eq_ofNat_of_zero_le hvl.1;obtain ⟨m,Hm⟩:∃m:Nat,Hid (r.imms=(m:Int)):=Int.eq_ofNat_of_zero_le hvl.2.2.1;have hn6:n≤6:=by have:=Hn.out;omega
      have hm6:m≤6:=by have:=Hm.out;omega
      obtain ⟨N,HN⟩:=nm (n+1);obtain ⟨M,HM⟩:=nm (m+1);have hN7:N≤7:=by rw [←HN.out];omega
      have hM7:M≤7:=by rw [←HM.out];omega
      have hwN:IntKind.i64.wrap ((n:Int)+1)=(N:Int):=by rw [i64w_of (by unfold I64;omega),←HN.out];omega
      have hwM:IntKind.i64.wrap ((m:Int)+1)=(M:Int):=by rw [i64w_of (by unfold I64;omega),←HM.out];omega
      have mkN:=run_mk T_ints' zero_int_ rfl N (by omega) (by omega);have mkM:=run_mk T_ints' zero_int_ rfl M (by omega) (by omega);rw [Hn.out] at c12;rw [Hm.out] at c13;clear hvl hshl hshr
      go_upto_region 3 with fail
      go_cut [3,4] (fun v i wx=>∃gv gi:Nat,v=.slice (some ⟨gv,0,none⟩) N N∧i=.slice (some ⟨gi,0,none⟩) M M∧VBlk wx gv (List.replicate N 0)∧VBlk wx gi (List.replicate M 0)∧gv≠gi∧W.heap.size≤gv∧W.heap.size≤gi∧Upd Non W wx)
      case first =>
       obtain ⟨wD,HwD⟩:=nm w3.drew;have uD:Upd Non w3 wD:=by rw [←HwD.out];exact Upd.refl.drew
       have vD:=u3.then_non uD;have hsD:=vD.size;refine wp_region_held_drew (S:=fun w'=>w'.cell? ⟨w.heap.size,12,none⟩=some (.int .i64 n)∧w'.cell? ⟨w.heap.size,13,none⟩=some (.int .i64 m)) (by kernel_rfl) (by rw [HwD.out];exact ⟨u_ c12 uD (fun f=>f),u_ c13 uD (fun f=>f)⟩) (fun hHeld=>?_)
       rw [HwD.out] at hHeld ⊢;refine wpT 0 ?_;(try simp only [y_,z_]);refine wpT 1 ?_;(try simp only [y_,z_]);refine wpT 2 ?_;(try simp only [y_,z_]);refine wpT 4 ?_;(try simp only [y_,z_]);refine wpT 5 ?_;(try simp only [y_,z_]);refine wpT 6 ?_;(try simp only [y_,z_]);refine aR_ (rs:=[3,7]) (by kernel_rfl) (by simp) ?_;refine aC_ rfl (fun K hK=>?_) (aC_ rfl (fun K hK=>?_) aN_)
       ·go_simp;have uA:Upd Non wD (wD.alloc (.cells (Array.replicate N (.int .i64 0)) 3)):=Upd.refl.alloc _;refine hK.out _ _ ?_ (fun hHeld=>?_)
        ·exact ⟨u_ c12 (uD.then_non uA) (fun f=>f),u_ c13 (uD.then_non uA) (fun f=>f)⟩
        clear hK K;(try simp only [y_,z_]);have hA:=VBlk.new wD N;have hAs:(wD.alloc (.cells (Array.replicate N (.int .i64 0)) 3)).heap.size=wD.heap.size+1:=by simp
        obtain ⟨wA,HwA⟩:=nm (wD.alloc (.cells (Array.replicate N (.int .i64 0)) 3));rw [HwA.out] at uA hA hAs hHeld ⊢;refine wpT 8 ?_;(try simp only [y_,z_]);refine aR_ (rs:=[7]) (by kernel_rfl) (by simp) ?_;refine aC_ rfl (fun K hK=>?_) aN_;go_simp;have uB:Upd Non wA (wA.alloc (.cells (Array.replicate M (.int .i64 0)) 3)):=Upd.refl.alloc _;have uC:=(uD.then_non uA).then_non uB;refine hK.out _ _ ?_ (fun hHeld=>?_)
        ·exact ⟨u_ c12 uC (fun f=>f),u_ c13 uC (fun f=>f)⟩
        clear hK K;(try simp only [y_,z_]);refine wpT 9 ?_;(try simp only [y_,z_]);refine aD_ (by kernel_rfl) ?_ _;go_wp2_with fail
        go_meet
        case rel=>exact ⟨wD.heap.size,wD.heap.size+1,rfl,rfl,Blk.upd hA uB (fun f=>f),by rw [←hAs];exact VBlk.new wA M,by omega,by omega,by omega,u3.then_non uC⟩
       ·go_simp;have uA:Upd Non wD (wD.alloc (.cells (Array.replicate M (.int .i64 0)) 3)):=Upd.refl.alloc _;refine hK.out _ _ ?_ (fun hHeld=>?_)
        ·exact ⟨u_ c12 (uD.then_non uA) (fun f=>f),u_ c13 (uD.then_non uA) (fun f=>f)⟩
        clear hK K;(try simp only [y_,z_]);have hA:=VBlk.new wD M;have hAs:(wD.alloc (.cells (Array.replicate M (.int .i64 0)) 3)).heap.size=wD.heap.size+1:=by simp
        obtain ⟨wA,HwA⟩:=nm (wD.alloc (.cells (Array.replicate M (.int .i64 0)) 3));rw [HwA.out] at uA hA hAs hHeld ⊢;refine aR_ (rs:=[3]) (by kernel_rfl) (by simp) ?_;refine aC_ rfl (fun K hK=>?_) aN_;go_simp;have uB:Upd Non wA (wA.alloc (.cells (Array.replicate N (.int .i64 0)) 3)):=Upd.refl.alloc _;have uC:=(uD.then_non uA).then_non uB;refine hK.out _ _ ?_ (fun hHeld=>?_)
        ·exact ⟨u_ c12 uC (fun f=>f),u_ c13 uC (fun f=>f)⟩
        clear hK K;(try simp only [y_,z_]);refine wpT 8 ?_;(try simp only [y_,z_]);refine wpT 9 ?_;(try simp only [y_,z_]);refine aD_ (by kernel_rfl) ?_ _;go_wp2_with fail
        go_meet
        case rel=>exact ⟨wD.heap.size+1,wD.heap.size,rfl,rfl,by rw [←hAs];exact VBlk.new wA N,Blk.upd hA uB (fun f=>f),by omega,by omega,by omega,u3.then_non uC⟩
      case rest =>
       obtain ⟨gv,gi,rfl,rfl,hgv,hgi,hne,hv1,hi1,u4⟩:=hcut;have hFv:¬(fun k=>k<w.heap.size) gv:=by show ¬gv<w.heap.size;omega
       have hFi:¬(fun k=>k<w.heap.size) gi:=by show ¬gi<w.heap.size;omega
       obtain ⟨c0,c1,c2,c3,c4,c5,c6,c7,c8,c9,c10,c11,c12,c13⟩:=HC.out _ u4;have CS:=h_ (fun op w=>rlSorts_c op w);unfold implG at HR3;rw [show r.vars.toNat+1=N by rw [Hn.out,←HN.out];rfl,show r.imms.toNat+1=M by rw [Hm.out,←HM.out];rfl] at HR3;have HVN:Hid (r.vars.toNat=n):=by show _=_;rw [Hn.out];rfl
       rw [HVN.out] at HSL HSR;rw [Hm.out] at HSL HSR HR3;rw [Hn.out] at c12;rw [Hm.out] at c13;have CCL:=h_ (fun (w':World) (gv' gi':Nat) (own:Int) (u:Upd Non W w') h1 h2 h3 h4 h5=>rlCollect_c r.l w' _ a.la a.lc gv' N gi' M own 0 m n (List.replicate N 0) (List.replicate M 0) (PtK.upd u (fun _ _ _ f=>f) _ _ _ HK.out.l) h1 h2 h3 h4 h5 HSL.out (by rw [List.length_replicate,HN.out]) (by rw [List.length_replicate,HM.out]) (by omega) (by omega))
       rw [List.length_replicate,List.length_replicate] at CCL;obtain ⟨own,Hown⟩:=nm (rsF r.l.op).2;rw [Hown.out] at HR3;obtain ⟨V1,HV1⟩:=nm (colV (occ r.l own) (List.replicate N 0));obtain ⟨I1,HI1⟩:=nm (colI (occI r.l) (List.replicate M 0));rw [HV1.out,HI1.out] at HR3
       have HVL1:Hid (V1.length=n+1∧V1.length=N):=by
        show _∧_;rw [←HV1.out,colV_len,List.length_replicate,HN.out];exact ⟨rfl,rfl⟩
       have HIL1:Hid (I1.length=m+1∧I1.length=M):=by
        show _∧_;rw [←HI1.out,colI_len,List.length_replicate,HM.out];exact ⟨rfl,rfl⟩
       have C1:=h_ (CS.out r.l.op wc);rw [Hown.out] at C1;go_wp2_with fail
       refine C1.out.mono ?_;rintro e w5 ⟨rfl,u5⟩;obtain ⟨x0,Hx0⟩:=nm ((rsF r.l.op).1.getD 0 0);obtain ⟨x1,Hx1⟩:=nm ((rsF r.l.op).1.getD 1 0);obtain ⟨x2,Hx2⟩:=nm ((rsF r.l.op).1.getD 2 0);rw [Hx0.out,Hx1.out,Hx2.out];obtain ⟨W6,HW6⟩:=nm (w5.alloc (.cells #[.int .i64 x0,.int .i64 x1,.int .i64 x2] 93));have e6:=HW6.out;have u6:Upd Non w5 W6:=by rw [←e6];exact Upd.refl.alloc _
       have u56:=u5.then_non u6;have u7:=u4.then_non u56;have hs7:=u4.size;obtain ⟨c0,c1,c2,c3,c4,c5,c6,c7,c8,c9,c10,c11,c12,c13⟩:=HC.out _ u7;have C2:=h_ (CCL.out W6 gv gi own u7 hFv hFi hne (Blk.upd hgv u56 (fun f=>f)) (Blk.upd hgi u56 (fun f=>f)));rw [HV1.out,HI1.out] at C2;unfold pv at C2;rw [Hn.out] at c12;rw [Hm.out] at c13;clear C1 CCL hgv hgi;go_wp2_with fail
       refine C2.out.mono ?_;rintro e w8 ⟨rfl,hgv,hgi,u8⟩;have HU8:Upd Non W w8:=u7.trans u8 (fun i hi h=>by omega);have u89:=u8;obtain ⟨c0,c1,c2,c3,c4,c5,c6,c7,c8,c9,c10,c11,c12,c13⟩:=HC.out _ HU8;rw [Hn.out] at c12;rw [Hm.out] at c13
       have HB1:Hid (((V1.drop 1).all fun x=>decide (x≠0))=true↔∀i:Nat,1≤i→i≤n→V1.getD i 0≠0):=by
        show _↔_;rw [all_drop (d:=0) HVL1.out.1];simp only [decide_eq_true_eq]
       have HB2:Hid (((I1.drop 1).all fun x=>decide (x≠0))=true↔∀i:Nat,1≤i→i≤m→I1.getD i 0≠0):=by
        show _↔_;rw [all_drop (d:=0) HIL1.out.1];simp only [decide_eq_true_eq]
       obtain ⟨b1,Hb1⟩:=nm ((V1.drop 1).all fun x=>decide (x≠0));obtain ⟨b2,Hb2⟩:=nm ((I1.drop 1).all fun x=>decide (x≠0));rw [Hb1.out] at HB1 HR3;rw [Hb2.out] at HB2 HR3;have hNn:N=n+1:=HN.out.symm;have hMm:M=m+1:=HM.out.symm;have HNn:=h_ hNn;have HMm:=h_ hMm;have HU:=hU.then_non HU8;clear C2 hNn hMm mkN mkM u8 u5 u6 u56;go_wp2_with fail
       go_loopg [7] n (fun g i wr=>∃k:Nat,Hid (g=n+1 - k)∧1≤k∧k≤n+1∧i=.int .i64 k∧Hid (∀j:Nat,1≤j→j<k→V1.getD j 0≠0)∧w8=wr)
       case atStart=>exact ⟨1,by show _=_;omega,by omega,by omega,rfl,fun j h1 h2=>by omega,rfl⟩
       case round =>
        obtain ⟨k,Hg,hk1,hk2,rfl,HA,rfl⟩:=hrel;by_cases hlt:k≤n
        ·have t3:decide (k≤n)=true:=dT_ (by omega);have hkN:(k:Int)<(N:Int):=by have:=HNn.out;omega
         have hk0:(0:Int)≤(k:Int):=by omega
         have x1:=VBlk.cell hgv (i:=k) (by rw [HVL1.out.1];omega);obtain ⟨z,Hz⟩:=nm (V1.getD k 0);rw [Hz.out] at x1;by_cases h0:z=0
         ·subst h0
          have hb:b1=false:=by
           rw [Bool.eq_false_iff];intro q;exact HB1.out.1 q k hk1 hlt Hz.out
          have HF:Hid (R=false):=by show _=_;rw [HR3.out,hb];rfl
          clear hb;go_wp2_with fail
          go_ret;exact ⟨by rw [HF.out];rfl,HU⟩
         ·have t4:(z==0)=false:=by simpa using h0
          have HA2:Hid (∀j:Nat,1≤j→j<k+1→V1.getD j 0≠0):=by
           intro j j1 j2;by_cases e:j=k
           ·rw [e,Hz.out];exact h0
           ·exact HA.out j j1 (by omega)
          clear h0;go_wp2_with fail
          go_roundg (n+1 - (k+1))
          case measure=>rw [Hg.out];omega
          case rel=>exact ⟨k+1,rfl,by omega,by omega,by go_num,HA2,rfl⟩
        ·have t3:decide (k≤n)=false:=dF_ (by omega);have hb1:b1=true:=HB1.out.2 (fun i i1 i2=>HA.out i i1 (by omega));subst hb1;have HR4:Hid (R=(b2&&(decide (r.r.v≠0) || decide ((rsF r.r.op).2=own))&&((colV (occ r.r own) V1).drop 1).all (fun x=>decide (x≠3))&&r.conds.all fun c=>condF c (colV (occ r.r own) V1) (m:Int))):=by show _=_;rw [HR3.out];simp
         clear HA Hg hk1 hk2 hlt HR3;go_wp2_with fail
         go_loopg [8] m (fun g i wr=>∃k:Nat,Hid (g=m+1 - k)∧1≤k∧k≤m+1∧i=.int .i64 k∧Hid (∀j:Nat,1≤j→j<k→I1.getD j 0≠0)∧w8=wr)
         case atStart=>exact ⟨1,by show _=_;omega,by omega,by omega,rfl,fun j h1 h2=>by omega,rfl⟩
         case round =>
          obtain ⟨k,Hg,hk1,hk2,rfl,HA,rfl⟩:=hrel;by_cases hlt:k≤m
          ·have t3:decide (k≤m)=true:=dT_ (by omega);have hkN:(k:Int)<(M:Int):=by have:=HMm.out;omega
           have hk0:(0:Int)≤(k:Int):=by omega
           have x1:=VBlk.cell hgi (i:=k) (by rw [HIL1.out.1];omega);obtain ⟨z,Hz⟩:=nm (I1.getD k 0);rw [Hz.out] at x1;by_cases h0:z=0
           ·subst h0
            have hb:b2=false:=by
             rw [Bool.eq_false_iff];intro q;exact HB2.out.1 q k hk1 hlt Hz.out
            have HF:Hid (R=false):=by show _=_;rw [HR4.out,hb];rfl
            clear hb;go_wp2_with fail
            go_ret;exact ⟨by rw [HF.out];rfl,HU⟩
           ·have t4:(z==0)=false:=by simpa using h0
            have HA2:Hid (∀j:Nat,1≤j→j<k+1→I1.getD j 0≠0):=by
             intro j j1 j2;by_cases e:j=k
             ·rw [e,Hz.out];exact h0
             ·exact HA.out j j1 (by omega)
            clear h0;go_wp2_with fail
            go_roundg (m+1 - (k+1))
            case measure=>rw [Hg.out];omega
            case rel=>exact ⟨k+1,rfl,by omega,by omega,by go_num,HA2,rfl⟩
          ·have t3:decide (k≤m)=false:=dF_ (by omega);have hb2:b2=true:=HB2.out.2 (fun i i1 i2=>HA.out i i1 (by omega));subst hb2;have HR5:Hid (R=((decide (r.r.v≠0) || decide ((rsF r.r.op).2=own))&&((colV (occ r.r own) V1).drop 1).all (fun x=>decide (x≠3))&&r.conds.all fun c=>condF c (colV (occ r.r own) V1) (m:Int))):=by show _=_;rw [HR4.out];simp
           clear HA Hg hk1 hk2 hlt HR4;have C1:=h_ (CS.out r.r.op w8);obtain ⟨sR,HsR⟩:=nm (rsF r.r.op).2;rw [HsR.out] at C1 HR5;go_wp2_with fail
           refine C1.out.mono ?_;rintro e w9 ⟨rfl,u9⟩;obtain ⟨y0,Hy0⟩:=nm ((rsF r.r.op).1.getD 0 0);obtain ⟨y1,Hy1⟩:=nm ((rsF r.r.op).1.getD 1 0);obtain ⟨y2,Hy2⟩:=nm ((rsF r.r.op).1.getD 2 0);rw [Hy0.out,Hy1.out,Hy2.out];obtain ⟨WA,HWA⟩:=nm (w9.alloc (.cells #[.int .i64 y0,.int .i64 y1,.int .i64 y2] 93));have eA:=HWA.out;have uA:Upd Non w9 WA:=by rw [←eA];exact Upd.refl.alloc _
           have u9A:=u9.then_non uA;have HUA:=HU8.then_non u9A;have hgvA:VBlk WA gv V1:=Blk.upd hgv u9A (fun f=>f);have hgiA:VBlk WA gi I1:=Blk.upd hgi u9A (fun f=>f);obtain ⟨c0,c1,c2,c3,c4,c5,c6,c7,c8,c9,c10,c11,c12,c13⟩:=HC.out _ HUA;rw [Hn.out] at c12;rw [Hm.out] at c13;have HU:=hU.then_non HUA;have C2:=h_ (rlCollect_c r.r WA _ a.ra a.rc gv N gi M own 0 m n V1 I1 (PtK.upd HUA (fun _ _ _ f=>f) _ _ _ HK.out.r) hFv hFi hne hgvA hgiA HSR.out HVL1.out.1 HIL1.out.1 (by omega) (by omega))
           rw [HVL1.out.2,HIL1.out.2] at C2
           have HVL2:Hid ((colV (occ r.r own) V1).length=n+1∧(colV (occ r.r own) V1).length=N):=by
            show _∧_;rw [colV_len];exact HVL1.out
           obtain ⟨V2,HV2⟩:=nm (colV (occ r.r own) V1);rw [HV2.out] at C2 HR5 HVL2;unfold pv at C2;clear C1 hgv hgi hgvA hgiA c0 c1 c2 c3 c4 c5;by_cases hv:r.r.v=0
           ·have t5:(r.r.v==0)=true:=by simp [hv]
            by_cases hs:sR=own
            ·have t6:(sR != own)=false:=by simp [hs]
             have HR6:Hid (R=(((V2.drop 1).all fun x=>decide (x≠3))&&r.conds.all fun c=>condF c V2 (m:Int))):=by show _=_;rw [HR5.out,dT_ hs];simp
             clear hv hs HR5;go_wp2_with fail
             refine C2.out.mono ?_;rintro e w10 ⟨rfl,hgv,hgi,u10⟩;have hsA:=HU8.size;have HUB:Upd Non W w10:=HUA.trans u10 (fun i hi h=>by omega);have HU:=hU.then_non HUB;obtain ⟨c0,c1,c2,c3,c4,c5,c6,c7,c8,c9,c10,c11,c12,c13⟩:=HC.out _ HUB;rw [Hn.out] at c12;rw [Hm.out] at c13
             have HB4:Hid (((V2.drop 1).all fun x=>decide (x≠3))=true↔∀i:Nat,1≤i→i≤n→V2.getD i 0≠3):=by
              show _↔_;rw [all_drop (d:=0) HVL2.out.1];simp only [decide_eq_true_eq]
             obtain ⟨b4,Hb4⟩:=nm ((V2.drop 1).all fun x=>decide (x≠3));rw [Hb4.out] at HB4 HR6;clear C2 hgi u10 HUA;go_wp2_with fail
             go_loopg [11] n (fun g i wr=>∃k:Nat,Hid (g=n+1 - k)∧1≤k∧k≤n+1∧i=.int .i64 k∧Hid (∀j:Nat,1≤j→j<k→V2.getD j 0≠3)∧w10=wr)
             case atStart=>exact ⟨1,by show _=_;omega,by omega,by omega,rfl,fun j h1 h2=>by omega,rfl⟩
             case round =>
              obtain ⟨k,Hg,hk1,hk2,rfl,HA,rfl⟩:=hrel;by_cases hlt:k≤n
              ·have t3:decide (k≤n)=true:=dT_ (by omega);have hkN:(k:Int)<(N:Int):=by have:=HNn.out;omega
               have hk0:(0:Int)≤(k:Int):=by omega
               have x1:=VBlk.cell hgv (i:=k) (by rw [HVL2.out.1];omega);obtain ⟨z,Hz⟩:=nm (V2.getD k 0);rw [Hz.out] at x1;by_cases h0:z=3
               ·subst h0
                have hb:b4=false:=by
                 rw [Bool.eq_false_iff];intro q;exact HB4.out.1 q k hk1 hlt Hz.out
                have HF:Hid (R=false):=by show _=_;rw [HR6.out,hb];rfl
                clear hb;go_wp2_with fail
                go_ret;exact ⟨by rw [HF.out];rfl,HU⟩
               ·have t4:(z==3)=false:=by simpa using h0
                have HA2:Hid (∀j:Nat,1≤j→j<k+1→V2.getD j 0≠3):=by
                 intro j j1 j2;by_cases e:j=k
                 ·rw [e,Hz.out];exact h0
                 ·exact HA.out j j1 (by omega)
                clear h0;go_wp2_with fail
                go_roundg (n+1 - (k+1))
                case measure=>rw [Hg.out];omega
                case rel=>exact ⟨k+1,rfl,by omega,by omega,by go_num,HA2,rfl⟩
              ·have t3:decide (k≤n)=false:=dF_ (by omega);have hb4:b4=true:=HB4.out.2 (fun i i1 i2=>HA.out i i1 (by omega));subst hb4;have HR7:Hid (R=r.conds.all fun c=>condF c V2 (m:Int)):=by show _=_;rw [HR6.out];simp
               have HI2:=h_ hgv.ints;obtain ⟨cn,Hcn⟩:=nm r.conds.length;have hcn:=H6.out;rw [Hcn.out] at c11 hcn;clear HA Hg hk1 hk2 hlt HR6;go_wp2_with fail
               go_loopg [13,129] cn (fun g _ i wr=>∃q:Nat,Hid (g=cn - q)∧q≤cn∧i=.int .i64 q∧Hid (∀j (h:j<r.conds.length),j<q→condF r.conds[j] V2 (m:Int)=true)∧Upd Non w10 wr)
               case atStart=>exact ⟨0,rfl,by omega,rfl,fun j h1 h2=>by omega,Upd.refl⟩
               case round =>
                obtain ⟨q,Hg,hq,rfl,HA,hu⟩:=hrel;have HUC:=HUB.then_non hu;by_cases hlt:q<cn
                ·have hql:q<r.conds.length:=by rw [Hcn.out];exact hlt
                 have hcv:=HK.out.c.upd HUC (fun _ _ _ f=>f);obtain ⟨cb,co,ecA,hF,hcb,k0,k1,k2,k3⟩:=hcv.at_ hql
                 have hcond:Hid (∀b,condF r.conds[q] V2 (m:Int)=b→(b=false→R=false)∧(b=true→∀j (h:j<r.conds.length),j<q+1→condF r.conds[j] V2 (m:Int)=true)):=by
                  intro b hb;refine ⟨fun h=>?_,fun h j hj1 hj2=>?_⟩
                  ·rw [HR7.out,Bool.eq_false_iff];intro h2;rw [List.all_eq_true] at h2;have:=h2 _ (List.getElem_mem hql);rw [hb,h] at this;cases this
                  ·by_cases e:j=q
                   ·subst e;rw [hb,h]
                   ·exact HA.out j hj1 (by omega)
                 generalize r.conds[q]=x at *;obtain ⟨d0,d1,d2,d3,d4,d5,d6,d7,d8,d9,d10,d11,d12,d13⟩:=HC.out _ HUC;rw [ecA,Hcn.out] at d11;rw [Hm.out] at d13;obtain ⟨WX,HWX⟩:=nm (wr.alloc (.cells #[.int .i64 x.kind,.int .i64 x.a,.int .i64 x.b,.int .i64 x.n] 69));have eX:=HWX.out;have uX:Upd Non wr WX:=by rw [←eX];exact Upd.refl.alloc _
                 have bX:Blk WX wr.heap.size 69 #[.int .i64 x.kind,.int .i64 x.a,.int .i64 x.b,.int .i64 x.n]:=by rw [←eX];exact Blk.new _ _ _
                 have f0:=bX.cell 0;have f1:=bX.cell 1;have f2:=bX.cell 2;have f3:=bX.cell 3;have f13:=u_ d13 uX (fun f=>f);have CC:=h_ (rlValidCond_c x V2 (m:Int) (some ⟨gv,0,none⟩) N _ WX ((HI2.out.upd hu (fun _ _ _ f=>f)).upd uX (fun _ _ _ f=>f)));rw [HVL2.out.2] at CC;obtain ⟨cr,Hcr⟩:=nm (condF x V2 (m:Int));rw [Hcr.out] at CC hcond;have HCD:=h_ (hcond.out cr rfl);simp only [ecA];clear hcv hcond bX;go_wp2_with fail
                 refine CC.out.mono ?_;rintro e w11 ⟨rfl,u11⟩;have HU11:=(hu.then_non uX).then_non u11;have HU:=HU.then_non HU11
                 cases cr with
                 | false =>
                  have HF:Hid (R=false):=HCD.out.1 rfl;go_wp2_with fail
                  go_ret;exact ⟨by rw [HF.out];rfl,HU⟩
                 | true =>
                  have HA2:=h_ (HCD.out.2 rfl);go_wp2_with fail
                  simp only [←ecA]
                  go_roundg (cn - (q+1))
                  case measure=>rw [Hg.out];omega
                  case rel=>exact ⟨q+1,rfl,by omega,by go_num,HA2.out,HU11⟩
                ·obtain rfl:cn=q:=by omega
                 have HF:Hid (R=true):=by
                  show _=_;rw [HR7.out,List.all_eq_true];intro c hc;obtain ⟨j,hj,rfl⟩:=List.mem_iff_getElem.1 hc;exact HA.out j hj (by rw [←Hcn.out];exact hj)
                 have HU:=HU.then_non hu;go_wp2_with fail
                 go_ret;exact ⟨by rw [HF.out];rfl,HU⟩
            ·have t6:(sR != own)=true:=by simp [hs]
             have HF:Hid (R=false):=by show _=_;rw [HR5.out,dF_ hs,dF_ (fun q=>q hv)];rfl
             clear hv hs;go_wp2_with fail
             go_ret;exact ⟨by rw [HF.out];rfl,HU⟩
           ·have t5:(r.r.v==0)=false:=by simp [hv]
            have HR6:Hid (R=(((V2.drop 1).all fun x=>decide (x≠3))&&r.conds.all fun c=>condF c V2 (m:Int))):=by show _=_;rw [HR5.out,dT_ (show r.r.v≠0 from hv)];simp
            clear hv HR5;go_wp2_with fail
            refine C2.out.mono ?_;rintro e w10 ⟨rfl,hgv,hgi,u10⟩;have hsA:=HU8.size;have HUB:Upd Non W w10:=HUA.trans u10 (fun i hi h=>by omega);have HU:=hU.then_non HUB;obtain ⟨c0,c1,c2,c3,c4,c5,c6,c7,c8,c9,c10,c11,c12,c13⟩:=HC.out _ HUB;rw [Hn.out] at c12;rw [Hm.out] at c13
            have HB4:Hid (((V2.drop 1).all fun x=>decide (x≠3))=true↔∀i:Nat,1≤i→i≤n→V2.getD i 0≠3):=by
             show _↔_;rw [all_drop (d:=0) HVL2.out.1];simp only [decide_eq_true_eq]
            obtain ⟨b4,Hb4⟩:=nm ((V2.drop 1).all fun x=>decide (x≠3));rw [Hb4.out] at HB4 HR6;clear C2 hgi u10 HUA;go_wp2_with fail
            go_loopg [11] n (fun g i wr=>∃k:Nat,Hid (g=n+1 - k)∧1≤k∧k≤n+1∧i=.int .i64 k∧Hid (∀j:Nat,1≤j→j<k→V2.getD j 0≠3)∧w10=wr)
            case atStart=>exact ⟨1,by show _=_;omega,by omega,by omega,rfl,fun j h1 h2=>by omega,rfl⟩
            case round =>
             obtain ⟨k,Hg,hk1,hk2,rfl,HA,rfl⟩:=hrel;by_cases hlt:k≤n
             ·have t3:decide (k≤n)=true:=dT_ (by omega);have hkN:(k:Int)<(N:Int):=by have:=HNn.out;omega
              have hk0:(0:Int)≤(k:Int):=by omega
              have x1:=VBlk.cell hgv (i:=k) (by rw [HVL2.out.1];omega);obtain ⟨z,Hz⟩:=nm (V2.getD k 0);rw [Hz.out] at x1;by_cases h0:z=3
              ·subst h0
               have hb:b4=false:=by
                rw [Bool.eq_false_iff];intro q;exact HB4.out.1 q k hk1 hlt Hz.out
               have HF:Hid (R=false):=by show _=_;rw [HR6.out,hb];rfl
               clear hb;go_wp2_with fail
               go_ret;exact ⟨by rw [HF.out];rfl,HU⟩
              ·have t4:(z==3)=false:=by simpa using h0
               have HA2:Hid (∀j:Nat,1≤j→j<k+1→V2.getD j 0≠3):=by
                intro j j1 j2;by_cases e:j=k
                ·rw [e,Hz.out];exact h0
                ·exact HA.out j j1 (by omega)
               clear h0;go_wp2_with fail
               go_roundg (n+1 - (k+1))
               case measure=>rw [Hg.out];omega
               case rel=>exact ⟨k+1,rfl,by omega,by omega,by go_num,HA2,rfl⟩
             ·have t3:decide (k≤n)=false:=dF_ (by omega);have hb4:b4=true:=HB4.out.2 (fun i i1 i2=>HA.out i i1 (by omega));subst hb4;have HR7:Hid (R=r.conds.all fun c=>condF c V2 (m:Int)):=by show _=_;rw [HR6.out];simp
              have HI2:=h_ hgv.ints;obtain ⟨cn,Hcn⟩:=nm r.conds.length;have hcn:=H6.out;rw [Hcn.out] at c11 hcn;clear HA Hg hk1 hk2 hlt HR6;go_wp2_with fail
              go_loopg [13,129] cn (fun g _ i wr=>∃q:Nat,Hid (g=cn - q)∧q≤cn∧i=.int .i64 q∧Hid (∀j (h:j<r.conds.length),j<q→condF r.conds[j] V2 (m:Int)=true)∧Upd Non w10 wr)
              case atStart=>exact ⟨0,rfl,by omega,rfl,fun j h1 h2=>by omega,Upd.refl⟩
              case round =>
               obtain ⟨q,Hg,hq,rfl,HA,hu⟩:=hrel;have HUC:=HUB.then_non hu;by_cases hlt:q<cn
               ·have hql:q<r.conds.length:=by rw [Hcn.out];exact hlt
                have hcv:=HK.out.c.upd HUC (fun _ _ _ f=>f);obtain ⟨cb,co,ecA,hF,hcb,k0,k1,k2,k3⟩:=hcv.at_ hql
                have hcond:Hid (∀b,condF r.conds[q] V2 (m:Int)=b→(b=false→R=false)∧(b=true→∀j (h:j<r.conds.length),j<q+1→condF r.conds[j] V2 (m:Int)=true)):=by
                 intro b hb;refine ⟨fun h=>?_,fun h j hj1 hj2=>?_⟩
                 ·rw [HR7.out,Bool.eq_false_iff];intro h2;rw [List.all_eq_true] at h2;have:=h2 _ (List.getElem_mem hql);rw [hb,h] at this;cases this
                 ·by_cases e:j=q
                  ·subst e;rw [hb,h]
                  ·exact HA.out j hj1 (by omega)
                generalize r.conds[q]=x at *;obtain ⟨d0,d1,d2,d3,d4,d5,d6,d7,d8,d9,d10,d11,d12,d13⟩:=HC.out _ HUC;rw [ecA,Hcn.out] at d11;rw [Hm.out] at d13;obtain ⟨WX,HWX⟩:=nm (wr.alloc (.cells #[.int .i64 x.kind,.int .i64 x.a,.int .i64 x.b,.int .i64 x.n] 69));have eX:=HWX.out;have uX:Upd Non wr WX:=by rw [←eX];exact Upd.refl.alloc _
                have bX:Blk WX wr.heap.size 69 #[.int .i64 x.kind,.int .i64 x.a,.int .i64 x.b,.int .i64 x.n]:=by rw [←eX];exact Blk.new _ _ _
                have f0:=bX.cell 0;have f1:=bX.cell 1;have f2:=bX.cell 2;have f3:=bX.cell 3;have f13:=u_ d13 uX (fun f=>f);have CC:=h_ (rlValidCond_c x V2 (m:Int) (some ⟨gv,0,none⟩) N _ WX ((HI2.out.upd hu (fun _ _ _ f=>f)).upd uX (fun _ _ _ f=>f)));rw [HVL2.out.2] at CC;obtain ⟨cr,Hcr⟩:=nm (condF x V2 (m:Int));rw [Hcr.out] at CC hcond;have HCD:=h_ (hcond.out cr rfl);simp only [ecA];clear hcv hcond bX;go_wp2_with fail
                refine CC.out.mono ?_;rintro e w11 ⟨rfl,u11⟩;have HU11:=(hu.then_non uX).then_non u11;have HU:=HU.then_non HU11
                cases cr with
                | false =>
                 have HF:Hid (R=false):=HCD.out.1 rfl;go_wp2_with fail
                 go_ret;exact ⟨by rw [HF.out];rfl,HU⟩
                | true =>
                 have HA2:=h_ (HCD.out.2 rfl);go_wp2_with fail
                 simp only [←ecA]
                 go_roundg (cn - (q+1))
                 case measure=>rw [Hg.out];omega
                 case rel=>exact ⟨q+1,rfl,by omega,by go_num,HA2.out,HU11⟩
               ·obtain rfl:cn=q:=by omega
                have HF:Hid (R=true):=by
                 show _=_;rw [HR7.out,List.all_eq_true];intro c hc;obtain ⟨j,hj,rfl⟩:=List.mem_iff_getElem.1 hc;exact HA.out j hj (by rw [←Hcn.out];exact hj)
                have HU:=HU.then_non hu;go_wp2_with fail
                go_ret;exact ⟨by rw [HF.out];rfl,HU⟩
     ·have t2:decide ((6:Int)<(r.conds.length:Int))=true:=dT_ (by omega);have HF:Hid (R=false):=by show _=_;rw [HR2.out,dF_ h6];rfl
      clear h6;go_wp2_with fail
      go_ret;exact ⟨by rw [HF.out];rfl,HU⟩
 ·have t1:(r.l.v != 0)=true:=by simp [hv]
  have HF:Hid (R=false):=by show _=_;rw [HR1.out,dF_ hv];rfl
  have HU:=hU;clear hv;go_enter Tryz.func21,Tryz.ntmps21;go_wp2_with fail
  go_ret;exact ⟨by rw [HF.out];rfl,HU⟩
def RlAt (w:World) (b o:Nat) (r:Rl) (a:RlA):Prop :=
  w.cell? ⟨b,o,none⟩=some (.string r.name)∧w.cell? ⟨b,o+1,none⟩=some (.int .i64 r.l.v)∧w.cell? ⟨b,o+2,none⟩=some (.int .i64 r.l.op)∧w.cell? ⟨b,o+3,none⟩=some (.int .i64 r.l.imm)∧w.cell? ⟨b,o+4,none⟩=some (.int .i64 r.l.iv)∧w.cell? ⟨b,o+5,none⟩=some (.slice a.la r.l.kids.length a.lc) ∧
  w.cell? ⟨b,o+6,none⟩=some (.int .i64 r.r.v)∧w.cell? ⟨b,o+7,none⟩=some (.int .i64 r.r.op)∧w.cell? ⟨b,o+8,none⟩=some (.int .i64 r.r.imm)∧w.cell? ⟨b,o+9,none⟩=some (.int .i64 r.r.iv)∧w.cell? ⟨b,o+10,none⟩=some (.slice a.ra r.r.kids.length a.rc) ∧
  w.cell? ⟨b,o+11,none⟩=some (.slice a.ca r.conds.length a.cc)∧w.cell? ⟨b,o+12,none⟩=some (.int .i64 r.vars)∧w.cell? ⟨b,o+13,none⟩=some (.int .i64 r.imms)
theorem RlAt.upd {w w':World} {b o:Nat} {r:Rl} {a:RlA} {S:Nat→Prop} (h:RlAt w b o r a) (u:Upd S w w') (hb:¬S b):RlAt w' b o r a:=by
 obtain ⟨c0,c1,c2,c3,c4,c5,c6,c7,c8,c9,c10,c11,c12,c13⟩:=h;exact ⟨u_ c0 u hb,u_ c1 u hb,u_ c2 u hb,u_ c3 u hb,u_ c4 u hb,u_ c5 u hb,u_ c6 u hb,u_ c7 u hb,u_ c8 u hb,u_ c9 u hb,u_ c10 u hb,u_ c11 u hb,u_ c12 u hb,u_ c13 u hb⟩
def RlsV (w:World) (F:Nat→Prop) (A:Option Addr) (L:List Rl):Prop :=
 L=[]∨∃b o,A=some ⟨b,o,none⟩∧F b∧∀i (h:i<L.length),∃a,RlAt w b (o+i * 14) L[i] a∧RlK w F L[i] a
theorem RlsV.upd {w w':World} {F S:Nat→Prop} {A:Option Addr} {L:List Rl} (h:RlsV w F A L) (u:Upd S w w') (d:∀k,k<w.heap.size→F k→¬S k):RlsV w' F A L:=by
 rcases h with h | ⟨b,o,e,hF,h⟩
 ·exact .inl h
 ·refine .inr ⟨b,o,e,hF,fun i hi=>?_⟩;obtain ⟨a,ha,hk⟩:=h i hi;exact ⟨a,ha.upd u (d b (World.block_lt_of_cell? _ _ ha.1) hF),hk.upd u d⟩
theorem RlsV.at_ {w:World} {F:Nat→Prop} {A:Option Addr} {L:List Rl} (h:RlsV w F A L) {i:Nat} (hi:i<L.length):∃b o a,A=some ⟨b,o,none⟩∧F b∧b<w.heap.size∧RlAt w b (o+i * 14) L[i] a∧RlK w F L[i] a:=by
 rcases h with h | ⟨b,o,e,hF,h⟩
 ·subst h;simp at hi
 ·obtain ⟨a,ha,hk⟩:=h i hi;exact ⟨b,o,a,e,hF,World.block_lt_of_cell? _ _ ha.1,ha,hk⟩
theorem RlsV.mono {w:World} {F G:Nat→Prop} {A:Option Addr} {L:List Rl} (h:RlsV w F A L) (g:∀k,k<w.heap.size→F k→G k):RlsV w G A L:=by
 rcases h with h | ⟨b,o,e,hF,h⟩
 ·exact .inl h
 ·by_cases hn:L=[]
  ·exact .inl hn
  ·obtain ⟨a,ha,_⟩:=h 0 (List.length_pos_iff.2 hn);refine .inr ⟨b,o,e,g b (World.block_lt_of_cell? _ _ ha.1) hF,fun i hi=>?_⟩;obtain ⟨a,ha,hk⟩:=h i hi;exact ⟨a,ha,hk.mono g⟩
theorem T_rules:SlT Tryz.prog 28 43 14 168:=by
 obtain ⟨i,h1,h2,h3,h4⟩:=info_parts (show (Tryz.prog.info? 43).map (fun i=>(i.zero,i.size,i.bytes))=some (some (.agg #[.string ⟨#[]⟩,.int .i64 0,.int .i64 0,.int .i64 0,.int .i64 0,.slice none 0 0,.int .i64 0,.int .i64 0,.int .i64 0,.int .i64 0,.slice none 0 0,.slice none 0 0,.int .i64 0,.int .i64 0]),14,168) from by kernel_rfl)
 exact ⟨Tryz.underlying28,⟨i,_,h1,h2,h3,h4,rfl⟩,by omega⟩
section
variable {w w':World} {F G G' S:Nat→Prop} {A:Option Addr} {L:List Rl} {n c:Nat}
def RsCells (w:World) (K:Nat→Prop) (cs:List Value) (L:List Rl):Prop :=
 cs.length=14 * L.length∧∀i (h:i<L.length),∃a,(∀j,j<14→cs[14 * i+j]?=(rlCells L[i] a).toList[j]?)∧RlK w K L[i] a
theorem RsCells.nil {K:Nat→Prop}:RsCells w K [] []:=⟨rfl,fun i h=>by simp at h⟩
theorem RsCells.mono {K K' S:Nat→Prop} {cs:List Value} (h:RsCells w K cs L) (u:Upd S w w') (d:∀k,k<w.heap.size→K k→¬S k) (hK:∀k,k<w.heap.size→K k→K' k):RsCells w' K' cs L:=by
 refine ⟨h.1,fun i hi=>?_⟩;obtain ⟨a,h1,h5⟩:=h.2 i hi;refine ⟨a,h1,?_⟩;have h6:RlK w (fun k=>K' k∧K k) L[i] a:=h5.mono (fun k hk hK0=>⟨hK k hk hK0,hK0⟩);exact (h6.upd u (fun k hk hk'=>d k hk hk'.2)).mono (fun _ _ h=>h.1)
theorem RsCells.snoc {K:Nat→Prop} {cs:List Value} (h:RsCells w K cs L) {r:Rl} {a:RlA} (hk:RlK w K r a) :
  RsCells w K (cs++(rlCells r a).toList) (L++[r]):=by
 refine ⟨by simp [h.1,rlCells];omega,fun i hi=>?_⟩;have hl:=h.1;by_cases hlt:i<L.length
 ·obtain ⟨a,h1,h5⟩:=h.2 i hlt;refine ⟨a,fun j hj=>?_,?_⟩
  ·rw [List.getElem?_append_left (by omega),List.getElem_append_left hlt];exact h1 j hj
  ·rw [List.getElem_append_left hlt];exact h5
 ·have he:i=L.length:=by simp at hi;omega
  subst he;refine ⟨a,fun j hj=>?_,?_⟩
  ·rw [List.getElem?_append_right (by omega),hl];simp
  ·simpa using hk
def RlO (w:World) (G:Nat→Prop) (A:Option Addr) (n c:Nat) (L:List Rl):Prop :=
 n=L.length∧∃cs,Own w 43 14 A n c cs∧RsCells w (fun k=>G k∧¬At A k) cs L
theorem RlO.none_:RlO w G none 0 0 []:=⟨rfl,[],Own.none_,RsCells.nil⟩
theorem RlO.upd (h:RlO w G A n c L) (u:Upd S w w') (dA:∀k,At A k→¬S k) (dG:∀k,k<w.heap.size→G k→¬S k):RlO w' G A n c L:=by
 obtain ⟨h1,cs,h2,h3⟩:=h;exact ⟨h1,cs,h2.upd u dA,h3.mono u (fun k hk hg=>dG k hk hg.1) (fun _ _ h=>h)⟩
theorem RlO.mono (h:RlO w G A n c L) (hG:∀k,k<w.heap.size→G k→G' k):RlO w G' A n c L:=by
 obtain ⟨h1,cs,h2,h3⟩:=h;exact ⟨h1,cs,h2,h3.mono (Upd.refl (S:=Non)) (fun _ _ _ f=>f) (fun k hk hg=>⟨hG k hk hg.1,hg.2⟩)⟩
theorem RlO.le (h:RlO w G A n c L):n≤c:=by obtain ⟨_,_,h2,_⟩:=h;exact h2.le
theorem RlO.lt (h:RlO w G A n c L) {k:Nat} (hk:At A k):k<w.heap.size:=by obtain ⟨_,_,h2,_⟩:=h;exact h2.lt hk
theorem RlO.view (h:RlO w G A n c L) (hA:∀k,At A k→F k) (hG:∀k,k<w.heap.size→G k→F k):RlsV w F A L:=by
 obtain ⟨rfl,cs,h2,h3⟩:=h;rcases h2.cases with ⟨_,h0,_,_⟩ | ⟨g,cur,rfl,hb,_,_,_,ht⟩
 ·exact .inl (List.eq_nil_of_length_eq_zero h0)
 ·refine .inr ⟨g,0,rfl,hA g (At.some_.2 rfl),fun i hi=>?_⟩;have hl:=h3.1;obtain ⟨a,c1,c5⟩:=h3.2 i hi
  have hcell:∀j u,cs[j]?=some u→w.cell? ⟨g,j,none⟩=some u:=by
   intro j u hj;rw [hb.cell];rw [←ht] at hj;rw [List.getElem?_take] at hj
   split at hj
   ·simpa using hj
   ·cases hj
  have e:0+i * 14=14 * i:=by omega
  refine ⟨a,?_,c5.mono (fun k hk hg=>hG k hk hg.1)⟩;rw [e];exact ⟨hcell _ _ (c1 0 (by omega)),hcell _ _ (c1 1 (by omega)),hcell _ _ (c1 2 (by omega)),hcell _ _ (c1 3 (by omega)),hcell _ _ (c1 4 (by omega)),hcell _ _ (c1 5 (by omega)),hcell _ _ (c1 6 (by omega)),hcell _ _ (c1 7 (by omega)),hcell _ _ (c1 8 (by omega)),hcell _ _ (c1 9 (by omega)),hcell _ _ (c1 10 (by omega)),hcell _ _ (c1 11 (by omega)),hcell _ _ (c1 12 (by omega)),hcell _ _ (c1 13 (by omega))⟩
theorem RlO.snoc {cs:List Value} (hn:n=L.length) (hc:RsCells w (fun k=>G k∧¬At A k) cs L) {r:Rl} {a:RlA} (hk:RlK w (fun k=>G k∧¬At A k) r a)
  {A':Option Addr} {c':Nat} (ho:Own w' 43 14 A' (n+1) c' (cs++(rlCells r a).toList)) (hu:Upd (At A) w w') (hat:∀k,At A' k→At A k∨k=w.heap.size) (hG:∀k,k<w.heap.size→G k→G' k) :
  RlO w' G' A' (n+1) c' (L++[r]):=by
 refine ⟨by simp [hn],_,ho,?_⟩;refine (hc.snoc hk).mono hu (fun k _ hg=>hg.2) (fun k hk hg=>⟨hG k hk hg.1,fun hA=>?_⟩);rcases hat k hA with h | h
 ·exact hg.2 h
 ·omega
end
def nmV (L:List Rl) (s:ByteArray):Option Value:=if L.any (fun q=>decide (q.name=s)) then some (.bool true) else none
theorem nmV_nil:nmV []=fun _=>none:=rfl
theorem nmV_get (L:List Rl) (s:ByteArray):(nmV L s).getD (.bool false)=.bool (L.any (fun q=>decide (q.name=s))):=by
 unfold nmV;cases L.any (fun q=>decide (q.name=s)) <;> rfl
theorem nmV_snoc (L:List Rl) (r:Rl):(fun x=>if x=r.name then some (Value.bool true) else nmV L x)=nmV (L++[r]):=by
 funext x
 unfold nmV;rw [List.any_append];by_cases h:x=r.name
 ·rw [if_pos h,if_pos];rw [Bool.or_eq_true];exact .inr (by simp [h])
 ·rw [if_neg h];have : [r].any (fun q=>decide (q.name=x))=false:=by simpa using fun e=>h e.symm
  rw [this,Bool.or_false]
section
variable {T:List (Bs×Nat)} {fin:Nat} {L:List Tok}
theorem atomF_kids {left:Bool} {s:Bs} {x y:PS} {q:Pt} (h:atomF left s x=some (q,y)):q.kids=[]:=by
 unfold atomF at h
 split at h
 ·injection h with h;injection h with h _;subst h;rfl
 ·split at h
  ·injection h with h;injection h with h _;subst h;rfl
  ·split at h
   ·injection h with h;injection h with h _;subst h;rfl
   ·cases h
theorem kidsF_size {g:PS→Except Er (Pt×PS)} (hg:∀x y q,g x=.ok (q,y)→q.size+x.i≤y.i):∀{n:Nat} {x y:PS} {l:List Pt},kidsF g n x=.ok (l,y)→Pt.sizeL l+x.i≤y.i
 | 0,x,y,l,h=>by simp only [kidsF] at h;injection h with h;injection h with h1 h;subst h;subst h1;simp [Pt.sizeL]
 | n+1,x,y,l,h=>by
  rw [kidsF] at h
  split at h
  ·cases h
  ·rename_i q z hq
   split at h
   ·cases h
   ·rename_i l2 z2 hk;injection h with h;injection h with h1 h;subst h;subst h1
    have e1:=hg _ _ _ hq;have e2:=kidsF_size hg hk;simp only [Pt.sizeL];omega
theorem termF_size {left:Bool}:∀(f:Nat) (x y:PS) (q:Pt),termF T fin left f x=.ok (q,y)→q.size+x.i≤y.i
 | 0,x,y,q,h=>by unfold termF at h;cases h
 | f+1,x,y,q,h=>by
  rw [termF_succ] at h
  split at h
  ·unfold appF at h
   split at h
   ·cases h
   ·rename_i q1 y1 h1
    split at h
    ·cases h
    ·rename_i l z h2
     split at h
     ·cases h
     ·rename_i u h3;injection h with h;injection h with h4 h;subst h;subst h4
      have e1:y1.i=x.i+1+1:=wrdF_i h1;have e2:=kidsF_size (termF_size f) h2;have e3:=expF_i h3;rw [Pt.size_eq];show 1+Pt.sizeL l+x.i≤u.i;omega
  ·have e1:=wrdF_i h
   have hk:q.kids=[]:=by
    rw [wrd_eq] at h
    split at h
    ·split at h
     ·rename_i h2;injection h with h;injection h with h _;subst h;exact atomF_kids h2
     ·cases h
    ·cases h
   rw [size_leaf' hk];omega
theorem condsF_len:∀(f:Nat) (x y:PS) (l:List Cd),condsF T fin f x=.ok (l,y)→l.length+x.i≤y.i
 | 0,x,y,l,h=>by unfold condsF at h;injection h with h;injection h with h1 h;subst h;subst h1;simp
 | f+1,x,y,l,h=>by
  rw [condsF_succ] at h
  split at h
  ·split at h
   ·cases h
   ·rename_i c y1 h1;have e1:x.i+1≤y1.i:=pcondF_i h1
    split at h
    ·cases h
    ·rename_i l2 z h2;have e2:=condsF_len f _ _ _ h2;injection h with h;injection h with h3 h;subst h;subst h3
     rw [List.length_cons];omega
  ·injection h with h;injection h with h1 h;subst h;subst h1;simp
theorem ifF_len {f:Nat} {x y:PS} {l:List Cd} (h:ifF T fin f x=.ok (l,y)):l.length+x.i≤y.i:=by
 unfold ifF at h
 split at h
 ·split at h
  ·cases h
  ·rename_i c y1 h1;have e1:x.i+1≤y1.i:=pcondF_i h1
   split at h
   ·cases h
   ·rename_i l2 z h2;have e2:=condsF_len f _ _ _ h2;injection h with h;injection h with h3 h;subst h;subst h3
    rw [List.length_cons];omega
 ·injection h with h;injection h with h1 h;subst h;subst h1;simp
theorem expF_lt {s:Bs} {x y:PS} (h:expF T fin s x=.ok y):y.i≤T.length:=by
 have e:=expF_i h;unfold expF at h
 split at h
 ·rename_i q;have:=tkF_lt q;omega
 ·cases h
theorem ruleF_sz (hL:LOk L T fin) {x y:PS} {r:Rl} (h:ruleF T fin x=.ok (r,y)):RlSz r:=by
 have hTl:=hL.lt;have hTn:=hL.len;unfold ruleF at h
 split at h
 ·cases h
 ·rename_i s x1 h1;have e1:x1.i=x.i+1:=wrdF_i (x:={ x with vs:=[],ms:=[] }) h1
  have hs:s.length≤20000:=by
   unfold anyF at h1;rw [wrd_eq] at h1
   split at h1
   ·rename_i s2 hw
    have hi:({ x with vs:=[],ms:=[] }:PS).i<L.length:=by
     unfold wkF at hw
     split at hw
     ·rename_i q;have:=tkF_lt q;omega
     ·cases hw
    have:=(hL.at_ hi hw).2.2.2.1;injection h1 with h1;injection h1 with h1 _;subst h1;exact this
   ·cases h1
  split at h
  ·cases h
  ·rename_i x2 h2;have e2:=expF_i h2
   split at h
   ·cases h
   ·rename_i l x3 h3;have e3:=termF_size _ _ _ _ h3
    split at h
    ·cases h
    ·rename_i x4 h4;have e4:=expF_i h4
     split at h
     ·cases h
     ·rename_i r5 x5 h5;have e5:=termF_size _ _ _ _ h5
      split at h
      ·cases h
      ·rename_i cs x6 h6;have e6:=ifF_len h6
       split at h
       ·cases h
       ·rename_i x7 h7;have e7:=expF_i h7;have e8:=expF_lt h7;injection h with h;injection h with h _;subst h
        refine ⟨?_,?_,?_,?_⟩
        ·show l.size≤_;omega
        ·show r5.size≤_;omega
        ·show cs.length≤_;omega
        ·show (ByteArray.mk s.toArray).size≤_;have : (ByteArray.mk s.toArray).size=s.length:=by show s.toArray.size=_;simp
         omega
theorem itemF_sz (hL:LOk L T fin) {ax:Bs→Option Rl} (hax:∀s r,ax s=some r→RlSz r) {x y:PS} {r:Rl} {n:Nat} (h:itemF T fin ax x=.ok ((some r,n),y)):RlSz r:=by
 unfold itemF at h
 split at h
 ·split at h
  ·cases h
  ·rename_i s y1 h1
   split at h
   ·cases h
   ·rename_i z h2;injection h with h;injection h with h _;injection h with h _
    exact hax _ _ h
 ·split at h
  ·cases h
  ·rename_i y1 h1
   split at h
   ·cases h
   ·rename_i r2 z h2;injection h with h;injection h with h _;injection h with h _;injection h with h;subst h
    exact ruleF_sz hL h2
theorem bindE_err {α β:Type} {r:Except Er α} {g:α→Except Er β} (hr:∀e,r=.error e→e.1≠0) (hg:∀v e,g v=.error e→e.1≠0) {e:Er} (h:bindE r g=.error e):e.1≠0:=by
 unfold bindE at h
 cases r with
 | error e2=>injection h with h;subst h;exact hr _ rfl
 | ok v=>exact hg _ _ h
theorem ruleF_err {x:PS} {e:Er} (h:ruleF T fin x=.error e):e.1≠0:=by
 rw [ruleF_eq] at h;refine bindE_err (fun e=>wrdF_err) (fun v e h=>?_) h;refine bindE_err (fun e=>expF_err) (fun v e h=>?_) h;refine bindE_err (fun e=>termF_err _ _ e) (fun v e h=>?_) h;refine bindE_err (fun e=>expF_err) (fun v e h=>?_) h;refine bindE_err (fun e=>termF_err _ _ e) (fun v e h=>?_) h;refine bindE_err (fun e=>ifF_err) (fun v e h=>?_) h;exact bindE_err (fun e=>expF_err) (fun v e h=>by cases h) h
theorem itemF_err {ax:Bs→Option Rl} {x:PS} {e:Er} (h:itemF T fin ax x=.error e):e.1≠0:=by
 unfold itemF at h
 split at h
 ·split at h
  ·rename_i e' he;injection h with h;subst h;exact wrdF_err he
  ·split at h
   ·rename_i e' he;injection h with h;subst h;exact expF_err he
   ·cases h
 ·split at h
  ·rename_i e' he;injection h with h;subst h;exact expF_err he
  ·split at h
   ·rename_i e' he;injection h with h;subst h
    exact ruleF_err he
   ·cases h
end
def LpR (T:List (Bs×Nat)) (fin:Nat) (ax:Bs→Option Rl) (n:Nat) (R:Except Er (List Rl)) (y:St) (Q:List Rl) (fu:Nat):Prop :=
 (y.why=0→T.length<fu+y.i∧Q.length≤160∧loopF T fin ax n fu (psOf y) Q=R)∧(y.why≠0→R=.error (y.why,y.ea))
section
variable {T:List (Bs×Nat)} {fin:Nat} {ax:Bs→Option Rl} {n:Nat} {R:Except Er (List Rl)} {y y':St} {Q:List Rl} {fu:Nat}
theorem LpR.exit (h:LpR T fin ax n R y Q fu) (hg:y.i≤T.length) (hD:(y.why==0&&decide (offF T fin y.i<n))=false):(y.why=0→R=.ok Q)∧(y.why≠0→R=.error (y.why,y.ea)):=by
 refine ⟨fun h0=>?_,h.2⟩;obtain ⟨h1,_,h2⟩:=h.1 h0;have hd:¬offF T fin y.i<n:=by simpa [h0] using hD
 match fu with
 | 0=>omega
 | f+1 =>
  unfold loopF at h2;rw [show (psOf y).i=y.i from rfl,if_neg hd] at h2;exact h2.symm
def RndR (T:List (Bs×Nat)) (fin:Nat) (ax:Bs→Option Rl) (n:Nat) (R:Except Er (List Rl)) (y:St) (Q:List Rl) (fu:Nat) (rl:Rl) (tp:Nat) (b:Bool):Prop :=
 (y.why≠0→R=.error (y.why,y.ea))∧(y.why=0→Q.length≤160∧(b=false→R=.error (3,tp))∧(b=true→RlSz rl∧(implF rl=false→R=.error (1,tp))∧(implF rl=true →
  (Q.any (fun q=>decide (q.name=rl.name))=true→R=.error (4,tp))∧(Q.any (fun q=>decide (q.name=rl.name))=false→(Q.length=160→R=.error (6,tp))∧(Q.length≠160→LpR T fin ax n R y (Q++[rl]) fu)))))
theorem LpR.item {L:List Tok} (hL:LOk L T fin) (hax:∀s r,ax s=some r→RlSz r) (h:LpR T fin ax n R y Q fu) (hg:y.i≤T.length) (h0:y.why=0) (hD:offF T fin y.i<n) {rl:Rl} {tp:Nat} {b:Bool}
  (hr:ResS y y' (itemF T fin ax (psOf y)) (fun v=>v.2=tp∧(b=true→v.1=some rl)∧(b=false→v.1=none))):0<fu∧RndR T fin ax n R y' Q (fu - 1) rl tp b:=by
 obtain ⟨h1,hq,h2⟩:=h.1 h0;have h3:=hr.1 h0
 match fu with
 | 0=>omega
 | f+1 =>
  refine ⟨by omega,?_⟩;rw [show f+1 - 1=f from rfl];unfold loopF at h2;rw [show (psOf y).i=y.i from rfl,if_pos hD] at h2
  cases hi:itemF T fin ax (psOf y) with
  | error e =>
   rw [hi] at h2 h3;have hn:=itemF_err hi;refine ⟨fun _=>?_,fun q=>absurd (h3.1 ▸ q) hn⟩;rw [h3.1,h3.2];exact h2.symm
  | ok v =>
   obtain ⟨⟨o,pos⟩,s⟩:=v;rw [hi] at h2 h3;obtain ⟨k0,rfl,rfl,k3,k4⟩:=h3;have him:=itemF_i hi;refine ⟨fun q=>absurd k0 q,fun _=>⟨hq,fun hb=>?_,fun hb=>?_⟩⟩
   ·have e:=k4 hb;dsimp only at e;subst e;exact h2.symm
   ·have e:=k3 hb;dsimp only at e;subst e;dsimp only at h2;refine ⟨itemF_sz hL hax hi,fun hv=>?_,fun hv=>⟨fun hm=>?_,fun hm=>⟨fun hl=>?_,fun hl=>?_⟩⟩⟩
    ·rw [if_pos hv] at h2;exact h2.symm
    ·rw [if_neg (by simp [hv]),if_pos hm] at h2;exact h2.symm
    ·rw [if_neg (by simp [hv]),if_neg (by simp [hm]),if_pos hl] at h2;exact h2.symm
    ·rw [if_neg (by simp [hv]),if_neg (by simp [hm]),if_neg hl] at h2;refine ⟨fun _=>⟨?_,by rw [List.length_append,List.length_singleton];omega,h2⟩,fun q=>absurd k0 q⟩;have : y.i+1≤y'.i:=him;omega
theorem RndR.err {k:Int} {tp:Nat} (h:y.why=0) (hk:k≠0) (hR:R=.error (k,(tp:Int))) {Q':List Rl}:LpR T fin ax n R (y.fail k tp) Q' fu:=by
 rw [fail_zero h];exact ⟨fun q=>absurd q hk,fun _=>hR⟩
end
end Go.Proofs.YtblkgjdhaibhgaaGreat
namespace Go.Proofs.YtblkgjdhaibhgaaGreat
open Go.RowKit
theorem results_tmp_cell {P:Program} {fn:Func} {p u:Tmp} {ty:TypeId} (h:fn.results=#[.tmp u,.cell p ty]) (tmps:Array Value) (w:World) (g:Nat) (t:TypeId) (cs:Array Value) (fr:Nat×Nat) (d:TypeDesc)
  (hp:tmps.getD p undef=.pointer (some ⟨g,0,none⟩)) (hg:w.heap[g]?=some (.cells cs t fr))
  (hu:P.underlying ty=some d) (hd:(match d with | .struct _ | .array _ _=>true | _=>false)=true) (hi:(P.info? ty).map (·.size)=some cs.size) :
  (results fn tmps).run P w=.ok (.tuple #[tmps.getD u undef,.agg cs]) w:=by
 have hp':tmps[p]?.getD undef=.pointer (some ⟨g,0,none⟩):=by simpa using hp
 simp [results,h,hp',asAddr,run_loadVar_row w g t ty cs fr d hg hu hd hi,Result.andThen]
theorem zeroBoolP (w:World):(zeroValue 4).run Tryz.prog w=.ok (.bool false) w:=by
 have h:(Tryz.prog.info? 4).bind (·.zero)=some (.bool false):=by kernel_rfl
 cases hi:Tryz.prog.info? 4 with
 | none=>rw [hi] at h;cases h
 | some i=>rw [hi] at h;simp at h;simp [zeroValue,typeInfo,hi,h]
def setE2 (w:World) (g:Nat) (a b:Value):World:=(w.setCell ⟨g,0,none⟩ a).setCell ⟨g,1,none⟩ b
theorem setE2_eq (w:World) (g:Nat) (a b:Value):(w.setCell ⟨g,0,none⟩ a).setCell ⟨g,1,none⟩ b=setE2 w g a b:=rfl
theorem setE2_blk {w:World} {g:Nat} {t:TypeId} {x0 x1:Value} (h:Blk w g t #[x0,x1]) (a b:Value):Blk (setE2 w g a b) g t #[a,b]:=by
 unfold setE2;simpa using (h.set_ 0 a).set_ 1 b
theorem setE2_upd (w:World) (g:Nat) (a b:Value):Upd (·=g) w (setE2 w g a b) :=
 (updCell w g 0 a).trans (updCell _ g 1 b) (fun _ _ h=>h)
def ParseP (r:Except Er (List Rl)) (w:World) (e:Ending) (w':World):Prop :=
 Upd Non w w'∧((∃er,r=.error er∧e=.returned (.tuple #[.slice none 0 0,.agg #[.int .i64 er.1,.int .i64 er.2]])) ∨
  (∃(Q:List Rl) (A:Option Addr) (c:Nat),r=.ok Q∧e=.returned (.tuple #[.slice A Q.length c,.agg #[.int .i64 0,.int .i64 0]])∧RlsV w' (fun k=>w.heap.size≤k) A Q∧Q.length≤c))
structure PaS (w0 w:World) (p mb:Nat) (A:Option Addr) (c:Nat) (L:List Tok) (y:St) (OA:Option Addr) (oc:Nat) (Q:List Rl):Prop where
 rd:RdS w p A c L y
 er:Blk w w0.heap.size 31 #[.int .i64 0,.int .i64 0]
 out:RlO w (fun k=>w0.heap.size<k∧¬y.own p k∧k≠mb) OA Q.length oc Q
 map:SMap w mb (nmV Q)
 own:∀k,y.own p k→p≤k∧k≠mb
 oat:∀k,At OA k→mb<k
 lt:w0.heap.size<p∧p<mb
 upd:Upd Non w0 w
section
variable {w0 w w':World} {p mb:Nat} {A:Option Addr} {c:Nat} {L:List Tok} {y y':St} {OA:Option Addr} {oc:Nat} {Q:List Rl}
theorem RdS.own_ne2 {n:Nat} {cs:List Value} (h:RdS w p A c L y) (o:Own w 43 14 OA n oc cs):∀k,At OA k→¬y.own p k:=fun k hk q=>by
 rcases q with rfl | q | q
 ·exact o.ne_blk h.blk (by decide) hk
 ·exact o.ne_type h.v (by decide) hk q
 ·exact o.ne_type h.m (by decide) hk q
theorem PaS.call (h:PaS w0 w p mb A c L y OA oc Q) (hr:RdS w' p A c L y') (ho:∀k,y'.own p k→y.own p k∨w.heap.size≤k) (u:Upd (y.own p) w w'):PaS w0 w' p mb A c L y' OA oc Q:=by
 obtain ⟨_,cs,hown,_⟩:=id h.out;have hne:=h.rd.own_ne2 hown;have hmb:=h.map.lt;have hlt:=h.lt;refine ⟨hr,h.er.upd u (fun q=>by have:=(h.own _ q).1;omega),?_,h.map.upd u (fun q=>(h.own _ q).2 rfl),fun k q=>?_,h.oat,h.lt,h.upd.trans u (fun k hk q=>by have:=(h.own _ q).1;omega)⟩
 ·have g1:RlO w (fun k=>(w0.heap.size<k∧¬y.own p k∧k≠mb)∧k<w.heap.size) OA Q.length oc Q:=h.out.mono (fun k hk q=>⟨q,hk⟩);refine (g1.upd u hne (fun k _ q=>q.1.2.1)).mono (fun k _ q=>⟨q.1.1,fun r=>?_,q.1.2.2⟩);rcases ho k r with r | r
  ·exact q.1.2.1 r
  ·exact Nat.lt_irrefl _ (Nat.lt_of_lt_of_le q.2 r)
 ·rcases ho k q with r | r
  ·exact h.own k r
  ·exact ⟨by omega,by omega⟩
theorem PaS.non (h:PaS w0 w p mb A c L y OA oc Q) (u:Upd Non w w'):PaS w0 w' p mb A c L y OA oc Q :=
 h.call (h.rd.non u) (fun _ q=>.inl q) (u.mono (fun _ _ f=>f.elim))
theorem PaS.app (h:PaS w0 w p mb A c L y OA oc Q) {rl:Rl} {a:RlA} {m:Nat} (hk:RlK w (fun k=>m≤k∧¬y.own p k) rl a) (hm:mb<m) (hA:∀k,At OA k→k<m) {cs:List Value} (hc:RsCells w (fun k=>(w0.heap.size<k∧¬y.own p k∧k≠mb)∧¬At OA k) cs Q) {w2 w3 w4:World} (hs:SMap w2 mb (nmV (Q++[rl]))) (u1:Upd (·=mb) w w2) (u2:Upd Non w2 w3) {OB:Option Addr} {ob:Nat} (ho:Own w4 43 14 OB (Q.length+1) ob (cs++(rlCells rl a).toList)) (u3:Upd (At OA) w3 w4) (hat:∀k,At OB k→At OA k∨k=w3.heap.size):PaS w0 w4 p mb A c L y OB ob (Q++[rl]):=by
 obtain ⟨hn,cs0,hown,_⟩:=id h.out;have hne:=h.rd.own_ne2 hown;have hlt:=h.lt;have hmb:=h.map.lt;have s1:=u1.size;have s2:=u2.size;have uu:Upd (fun k=>k=mb∨At OA k) w w4:=((u1.mono (fun _ _ q=>.inl q)).trans (u2.mono (fun _ _ f=>f.elim)) (fun _ _ q=>q)).trans (u3.mono (fun _ _ q=>.inr q)) (fun _ _ q=>q)
 have hE:∀k,At OA k→k≠w0.heap.size:=fun k q=>by have:=h.oat k q;omega
 refine ⟨h.rd.upd uu (fun k hk q=>?_),h.er.upd uu (fun q=>?_),?_,?_,h.own,fun k q=>?_,h.lt,h.upd.trans uu (fun k hk q=>?_)⟩
 ·rcases q with q | q
  ·subst q;exact ⟨hlt.2,fun r=>(h.own _ (.inr (.inl r))).2 rfl,fun r=>(h.own _ (.inr (.inr r))).2 rfl⟩
  ·exact ⟨by have:=h.oat k q;omega,fun r=>hne k q (.inr (.inl r)),fun r=>hne k q (.inr (.inr r))⟩
 ·rcases q with q | q
  ·omega
  ·exact hE _ q rfl
 ·have hc3:RsCells w3 (fun k=>(w0.heap.size<k∧¬y.own p k∧k≠mb)∧¬At OA k) cs Q:=(hc.mono u1 (fun k _ q=>q.1.2.2) (fun _ _ q=>q)).mono u2 (fun _ _ _ f=>f) (fun _ _ q=>q)
  have hk3:RlK w3 (fun k=>(w0.heap.size<k∧¬y.own p k∧k≠mb)∧¬At OA k) rl a:=by
   have:=(hk.upd u1 (fun k _ q e=>by have:=q.1;omega)).upd u2 (fun _ _ _ f=>f);refine this.mono (fun k _ q=>⟨⟨by have:=q.1;omega,q.2,by have:=q.1;omega⟩,fun r=>by have:=hA k r;have:=q.1;omega⟩)
  have:=RlO.snoc (G':=fun k=>w0.heap.size<k∧¬y.own p k∧k≠mb) rfl hc3 hk3 ho u3 hat (fun _ _ q=>q);rw [List.length_append,List.length_singleton];exact this
 ·exact (hs.upd u2 (fun f=>f)).upd u3 (fun q=>by have:=h.oat _ q;omega)
 ·rcases hat k q with r | r
  ·exact h.oat k r
  ·omega
 ·rcases q with q | q
  ·omega
  ·have:=h.oat k q;omega
theorem PaS.res (h:PaS w0 w p mb A c L y OA oc Q) (a b:Value):Blk (setE2 w w0.heap.size a b) w0.heap.size 31 #[a,b]∧Upd Non w0 (setE2 w w0.heap.size a b)∧Blk (setE2 w w0.heap.size a b) p 59 (rcells A L.length c y)∧RlsV (setE2 w w0.heap.size a b) (fun k=>w0.heap.size≤k) OA Q:=by
 have u:=setE2_upd w w0.heap.size a b;have hlt:=h.lt;refine ⟨setE2_blk h.er a b,h.upd.trans u (fun k hk e=>by omega),h.rd.blk.upd u (by omega),?_⟩
 ·have hv:RlsV w (fun k=>w0.heap.size<k) OA Q:=h.out.view (fun k q=>by have:=h.oat k q;omega) (fun k _ q=>q.1);exact (hv.upd u (fun k _ q e=>by omega)).mono (fun k _ q=>Nat.le_of_lt q)
end
def PI (p:Pt):Prop:=∀q∈nodes p,I64 q.imm
structure RlI (R:Rl):Prop where
 l:PI R.l
 r:PI R.r
 c:∀x∈R.conds,I64 x.n
theorem nodes_self (p:Pt):p∈nodes p:=by cases p;simp [nodes]
theorem nodesL_mem {q k:Pt}:∀{ks:List Pt},k∈ks→q∈nodes k→q∈nodesL ks
 | x::ks,hk,hq=>by
  simp only [nodesL,List.mem_append];rcases List.mem_cons.1 hk with rfl | hk
  ·exact .inl hq
  ·exact .inr (nodesL_mem hk hq)
theorem PI.kid {p k:Pt} (h:PI p) (hk:k∈p.kids):PI k:=fun q hq=>h q (by
 cases p
 simp only [nodes,List.mem_cons]
 exact .inr (nodesL_mem hk hq))
theorem oS_ops {op:Int} (h:(oSortsF op).2.2=true):op=1∨(4≤op∧op<32):=by
 rw [←allowed_ok] at h;simp only [allowedF,decide_eq_true_iff] at h;omega
theorem shp_fm (p:Pt):∀(s m:Int) (n:Nat),shp p s m n=true→m≤6→n≤6→PI p→FmOk p:=by
 induction p using Pt.ind with
 | h p ih =>
  intro s m n hs hm hn hi;by_cases hv:p.v=0
  ·rw [shp_op hv,Bool.and_eq_true,decide_eq_true_iff] at hs;obtain ⟨⟨h1,h2,_,h4⟩,h5⟩:=hs;have hI:=hi p (nodes_self p)
   have hiv:p.iv≤100:=by
    unfold pImmF at h4
    split at h4
    ·simp only [Bool.and_eq_true,decide_eq_true_iff] at h4;omega
    ·omega
   have hks:∀k∈p.kids,FmOk k:=fun k hk=>by
    obtain ⟨i,hi2,rfl⟩:=List.mem_iff_getElem.1 hk;exact ih _ hk _ m n (shpL_at hi2 h5) hm hn (hi.kid hk)
   cases p with
   | mk v op imm iv ks =>
    dsimp only [Pt.v,Pt.op,Pt.imm,Pt.iv,Pt.kids] at *;rcases oS_ops h1 with rfl | ⟨a,b⟩
    ·exact .cst (by omega) hI.1 hI.2 hiv
    ·exact .app (by omega) a b hI.1 hI.2 hiv hks
  ·rw [shp_var hv,decide_eq_true_iff] at hs
   cases p with
   | mk v op imm iv ks =>
    dsimp only [Pt.v,Pt.op,Pt.imm,Pt.iv,Pt.kids] at *;exact .var (by omega) (by omega)
theorem cond_fm {c:Cd} {ss:List Int} {m:Int} (h:condF c ss m=true) (hs:ss.length≤7) (hm:m≤6) (hn:I64 c.n):CdFm c:=by
 unfold condF at h
 split at h
 ·simp only [isValF,Bool.and_eq_true,decide_eq_true_iff] at h;exact ⟨by omega,by omega,by omega,by omega,by omega,by omega,hn.1,hn.2⟩
 ·split at h
  ·simp only [isValF,Bool.and_eq_true,decide_eq_true_iff] at h;exact ⟨by omega,by omega,by omega,by omega,by omega,by omega,hn.1,hn.2⟩
  ·split at h
   ·simp only [isValF,Bool.and_eq_true,decide_eq_true_iff] at h;exact ⟨by omega,by omega,by omega,by omega,by omega,by omega,hn.1,hn.2⟩
   ·split at h
    ·simp only [isValF,isImmF,Bool.and_eq_true,decide_eq_true_iff] at h;exact ⟨by omega,by omega,by omega,by omega,by omega,by omega,hn.1,hn.2⟩
    ·split at h
     ·simp only [isImmF,Bool.and_eq_true,decide_eq_true_iff] at h;exact ⟨by omega,by omega,by omega,by omega,by omega,by omega,hn.1,hn.2⟩
     ·cases h
structure FmR (R:Rl):Prop where
 l:FmOk R.l
 r:FmOk R.r
 c:∀x∈R.conds,CdFm x
 few:R.conds.length≤6
 ls:R.l.size≤24
 rs:R.r.size≤24
 n:R.name.size≤16
theorem impl_fm {r:Rl} (h:implF r=true) (hi:RlI r):FmR r:=by
 have k:=imp_ok h;have hv:=k.vars;refine ⟨shp_fm _ _ _ _ k.shl k.imms.2 (by omega) hi.l,shp_fm _ _ _ _ k.shr k.imms.2 (by omega) hi.r,fun x hx=>cond_fm (k.cnd x hx) (by simp;omega) k.imms.2 (hi.c x hx),k.few,k.sizes.1,k.sizes.2,?_⟩
 have:=k.name;simp only [nameF,Bool.and_eq_true,decide_eq_true_iff] at this;exact this.2.2
theorem fmtCs_len:∀{cs:List Cd} {b:Bool},(∀x∈cs,CdFm x)→(fmtCs cs b).length≤44 * cs.length
 | [],b,_=>by simp [fmtCs]
 | c::cs,b,h=>by
  have e1:=fmtC_len (h c List.mem_cons_self);have e2:=fmtCs_len (cs:=cs) (b:=false) (fun x hx=>h x (List.mem_cons_of_mem _ hx));simp only [fmtCs,List.length_append,List.length_cons];have : (if b=true then [32,105,102,32] else ([44,32]:Bs)).length≤4:=by split <;> simp
  omega
theorem fmtCs_snoc (c:Cd):∀(cs:List Cd) (b:Bool),fmtCs (cs++[c]) b=fmtCs cs b++((if b&&cs.isEmpty then [32,105,102,32] else [44,32])++fmtC c)
 | [],b=>by simp [fmtCs]
 | x::cs,b=>by simp [fmtCs,fmtCs_snoc c cs]
theorem fmtR_len {r:Rl} (h:FmR r):(fmtR r).length≤2000:=by
 have e1:=fmtF_len _ h.l;have e2:=fmtF_len _ h.r;have e3:=fmtCs_len (b:=true) h.c;have e4:=h.few;have e5:=h.ls;have e6:=h.rs;have e7:(kx r.name).length≤16:=by rw [kx_len];exact h.n
 unfold fmtR;simp only [List.length_append,List.length_cons,List.length_nil];omega
theorem fmtRs_snoc (r:Rl):∀L:List Rl,fmtRs (L++[r])=fmtRs L++fmtR r
 | []=>by simp [fmtRs]
 | x::L=>by simp [fmtRs,fmtRs_snoc r L]
theorem fmtRs_len:∀{L:List Rl},(∀r∈L,FmR r)→(fmtRs L).length≤2000 * L.length
 | [],_=>by simp [fmtRs]
 | r::L,h=>by
  have e1:=fmtR_len (h r List.mem_cons_self);have e2:=fmtRs_len (L:=L) (fun x hx=>h x (List.mem_cons_of_mem _ hx));simp only [fmtRs,List.length_append,List.length_cons];omega
end Go.Proofs.YtblkgjdhaibhgaaGreat
namespace Go.Proofs.YtblkgjdhaibhgaaGreat
open Go.RowKit
theorem strCells_u8 (s:ByteArray):Lib.strCells s=u8s (kx s):=rfl
theorem run_apps {w:World} {A:Option Addr} {n c:Nat} {bs:Bs} (h:Own w 5 1 A n c (u8s bs)) {b0:Nat} (hA:∀k,At A k→b0≤k) (hb0:b0≤w.heap.size) (s:ByteArray) (hs:n+s.size≤100000000000000) (ty:TypeId) :
  ∃A' c' w',(Builtin.append_ #[57,9] ty #[.slice A n c,.string s]).run Tryz.prog w=.ok (.slice A' (n+s.size) c') w'∧Own w' 5 1 A' (n+s.size) c' (u8s (bs++kx s))∧Upd (At A) w w'∧(∀k,At A' k→b0≤k):=by
 obtain ⟨i,h1,h2,h3,h4⟩:=info_parts (show (Tryz.prog.info? 5).map (fun i=>(i.zero,i.size,i.bytes))=some (some (.int .u8 0),1,1) from by kernel_rfl)
 have hown:w.ownsRow b0 5 1 (.slice A n c) n (u8s bs):=by
  refine ⟨h.1,?_⟩;rcases h.2 with q | ⟨g,cap,cur,hv,_,r⟩
  ·exact .inl q
  ·injection hv with hv e2 e3
   subst hv e3;exact .inr ⟨g,c,cur,rfl,hA g (At.some_.2 rfl),r⟩
 obtain ⟨v',w',hr,h5,h6,h7⟩:=Lib.run_append_own_string (P:=Tryz.prog) w b0 57 9 ty 5 i Tryz.underlying57 Tryz.underlying9 h1 h2 h3 h4 (.slice A n c) n (u8s bs) hown s (by simp only [maxLen];omega) (by omega) hb0
 rw [strCells_u8] at h5
 have hu:Upd (At A) w w':=(Upd.of_grown h6).mono (fun k _ hk=>by
  cases A with
  | none=>simp [Value.ownBlock] at hk
  | some a=>exact ⟨a.off,a.spot,by simp [Value.ownBlock] at hk;subst hk;rfl⟩)
 have hcat:u8s bs++u8s (kx s)=u8s (bs++kx s):=by simp [u8s]
 rw [hcat] at h5;rcases h5.2 with ⟨rfl,h0⟩ | ⟨g,cap,cur,rfl,hbg,r⟩
 ·refine ⟨none,0,w',?_,?_,hu,fun k hk=>(At.none_ hk).elim⟩
  ·rw [h0];exact hr
  ·refine ⟨h5.1,.inl ⟨?_,h0⟩⟩;rw [h0]
 ·exact ⟨some ⟨g,0,none⟩,cap,w',hr,⟨h5.1,.inr ⟨g,cap,cur,rfl,Nat.zero_le _,r⟩⟩,hu,fun k hk=>by rw [At.some_] at hk;subst hk;exact hbg⟩
theorem wp_apps {w:World} {o:Oper} {a:Act} {K:Act→World→Prop} {Q:Exit→Act→World→Prop} {s x:Operand}
  (ho:o.op=.call { callee:=.builtin .append,args:=#[s,x],argTypes:=#[57,9] }) {A:Option Addr} {n c:Nat} {bs:Bs} (hs:a.eval s=.slice A n c) (h:Own w 5 1 A n c (u8s bs)) {b0:Nat} (hA:∀k,At A k→b0≤k) (hb0:b0≤w.heap.size) {str:ByteArray} (hx:a.eval x=.string str) (hn:n+str.size≤100000000000000)
  (k:∀A' c' w',Own w' 5 1 A' (n+str.size) c' (u8s (bs++kx str))→Upd (At A) w w'→(∀k,At A' k→b0≤k)→K (a.put o.dst (.slice A' (n+str.size) c')) w'):o.wp Tryz.prog a w K Q:=by
 obtain ⟨A',c',w',hrun,h2,h3,h4⟩:=run_apps h hA hb0 str hn o.type;unfold Oper.wp execOp;simp only [ho,resolve,invoke,builtin,Sem.run_bind,Sem.run_pure,Result.andThen_ok,List.map_toArray,List.map_cons,List.map_nil,hs,hx,hrun];exact k A' c' w' h2 h3 h4
theorem step_apps {w:World} {ops:Array Oper} {o:Oper} {a:Act} {K:Act→World→Prop} {Q:Exit→Act→World→Prop} {E:Prop} (hgd:o.guard=none) {s x:Operand}
  (ho:o.op=.call { callee:=.builtin .append,args:=#[s,x],argTypes:=#[57,9] }) {A:Option Addr} {n c:Nat} {bs:Bs} (hs:a.eval s=.slice A n c) (h:Own w 5 1 A n c (u8s bs)) {b0:Nat} (hA:∀k,At A k→b0≤k) (hb0:b0≤w.heap.size) {str:ByteArray} (hx:a.eval x=.string str) (hn:n+str.size≤100000000000000)
  (k:∀A' c' w',Own w' 5 1 A' (n+str.size) c' (u8s (bs++kx str))→Upd (At A) w w'→(∀k,At A' k→b0≤k)→K (a.put o.dst (.slice A' (n+str.size) c')) w') :
  if Region.wanted o (yielded ops a.tmps)=true then Oper.wp Tryz.prog o a w K Q else E:=by
 have hw:Region.wanted o (yielded ops a.tmps)=true:=by simp [Region.wanted,hgd]
 rw [if_pos hw];exact wp_apps ho hs h hA hb0 hx hn k
theorem wpList_apps {w:World} {ops:Array Oper} {rest:List Oper} {o:Oper} {a:Act} {Q:Exit→Act→World→Prop} (hgd:o.guard=none) {s x:Operand}
  (ho:o.op=.call { callee:=.builtin .append,args:=#[s,x],argTypes:=#[57,9] }) {A:Option Addr} {n c:Nat} {bs:Bs} (hs:a.eval s=.slice A n c) (h:Own w 5 1 A n c (u8s bs)) {b0:Nat} (hA:∀k,At A k→b0≤k) (hb0:b0≤w.heap.size) {str:ByteArray} (hx:a.eval x=.string str) (hn:n+str.size≤100000000000000)
  (k:∀A' c' w',Own w' 5 1 A' (n+str.size) c' (u8s (bs++kx str))→Upd (At A) w w'→(∀k,At A' k→b0≤k)→wpList Tryz.prog ops Q rest (a.put o.dst (.slice A' (n+str.size) c')) w'):wpList Tryz.prog ops Q (o::rest) a w :=
 wpList_plain hgd fun _ hK=>wp_apps ho hs h hA hb0 hx hn fun A' c' w' h2 h3 h4=>hK _ _ (k A' c' w' h2 h3 h4)
theorem conv_own {w:World} {A:Option Addr} {n c:Nat} {bs:Bs} (h:Own w 5 1 A n c (u8s bs)) (hn:n=bs.length):(convert 57 9 (.slice A n c)).run Tryz.prog w=.ok (.string (kstr bs)) w:=by
 have hs:Sl w (At A) A ((bs.map fun b=>(b.toNat:Int)).map fun x=>Value.int .u8 x):=by
  have:=Own.sl h;rw [show (bs.map fun b=>(b.toNat:Int)).map (fun x=>Value.int .u8 x)=u8s bs by simp [u8s]];exact this
 have:=run_str (P:=Tryz.prog) (src:=57) (dst:=9) Tryz.underlying57 Tryz.underlying5 Tryz.underlying9 (n:=n) (c:=c) hs (by simpa using hn);rw [bstr_ub] at this;exact this
section
variable {T1 T:List (Bs×Nat)} {fin fin' k:Nat}
end
section
variable {T:List (Bs×Nat)} {fin n:Nat} {ax:Bs→Option Rl}
end
inductive Fm6:Pt→Prop
 | var {v:Int}:0<v→v≤6→Fm6 (.mk v 0 0 0 [])
 | cst {imm:Int}:I64 imm→Fm6 (.mk 0 1 imm 0 [])
 | cim {iv:Int}:0<iv→iv≤6→Fm6 (.mk 0 1 0 iv [])
 | app {op imm iv:Int} {ks:List Pt}:4≤op→op<32→arF op=some ks.length→I64 imm→0≤iv→iv≤6→(iv≠0→imm=0)→(immOp op=false→imm=0∧iv=0)→(∀k∈ks,Fm6 k)→Fm6 (.mk 0 op imm iv ks)
structure Cd6 (c:Cd):Prop where
 k0:1≤c.kind
 k1:c.kind≤6
 a0:0<c.a
 a1:c.a≤6
 b0:4≤c.kind→0<c.b∧c.b≤6
 b1:c.kind≤3→c.b=0
 n0:c.kind≠2→c.kind≠3→c.n=0
 n1:I64 c.n
structure Rt6 (R:Rl):Prop where
 n:nameF R.name=true
 l:Fm6 R.l
 r:Fm6 R.r
 c:∀x∈R.conds,Cd6 x
def cnI (iv:Int) (n:Nat):Option Nat:=if 0<iv then (if iv≤n then some n else if iv=n+1 then some (n+1) else none) else some n
mutual
def cn:Pt→Nat→Nat→Option (Nat×Nat)
 | .mk v _ _ iv ks,m,n =>
  if 0<v then (if v≤m then some (m,n) else if v=m+1 then some (m+1,n) else none)
  else match cnI iv n with
   | none=>none
   | some n2=>cnL ks m n2
def cnL:List Pt→Nat→Nat→Option (Nat×Nat)
 | [],m,n=>some (m,n)
 | k::ks,m,n=>match cn k m n with
  | none=>none
  | some s=>cnL ks s.1 s.2
end
section
variable {T:List (Bs×Nat)} {fin:Nat}
end
structure CdIn (m n:Nat) (c:Cd):Prop where
 a1:c.kind≤5→c.a≤m
 a2:c.kind=6→c.a≤n
 b1:c.kind=4→c.b≤m
 b2:5≤c.kind→c.b≤n
section
variable {T:List (Bs×Nat)} {fin:Nat}
end
structure Rt (r:Rl) (m n:Nat):Prop where
 t:Rt6 r
 vs:r.vars=(m:Int)
 is:r.imms=(n:Int)
 m6:m≤6
 n6:n≤6
 cl:cn r.l 0 0=some (m,n)
 cr:cn r.r m n=some (m,n)
 ci:∀c∈r.conds,CdIn m n c
theorem oS_ar {op:Int} (h:(oSortsF op).2.2=true) (h4:4≤op):arF op=some (oSortsF op).1.length:=by
 have h32:op<32:=by rcases oS_ops h with q | q <;> omega
 obtain ⟨i,hi⟩:∃i:Fin 28,op=4+(i.val:Int):=⟨⟨(op - 4).toNat,by omega⟩,by show op=4+((op - 4).toNat:Int);omega⟩;have key:∀i:Fin 28,(oSortsF (4+(i.val:Int))).2.2=true→arF (4+(i.val:Int))=some (oSortsF (4+(i.val:Int))).1.length:=by decide +kernel
 subst hi;exact key i h
theorem shp_fm6 (p:Pt):∀(s m:Int) (n:Nat),shp p s m n=true→m≤6→n≤6→PI p→Fm6 p:=by
 induction p using Pt.ind with
 | h p ih =>
  intro s m n hs hm hn hi;by_cases hv:p.v=0
  ·rw [shp_op hv,Bool.and_eq_true,decide_eq_true_iff] at hs;obtain ⟨⟨h1,h2,_,h4⟩,h5⟩:=hs;have hI:=hi p (nodes_self p)
   have hks:∀k∈p.kids,Fm6 k:=fun k hk=>by
    obtain ⟨i,hi2,rfl⟩:=List.mem_iff_getElem.1 hk;exact ih _ hk _ m n (shpL_at hi2 h5) hm hn (hi.kid hk)
   have hiv:0≤p.iv∧p.iv≤6∧(p.iv≠0→p.imm=0∧hasImmF p.op=true):=by
    unfold pImmF at h4
    split at h4
    ·simp only [Bool.and_eq_true,decide_eq_true_iff] at h4;exact ⟨by omega,by omega,fun _=>⟨h4.2.1,h4.1⟩⟩
    ·rename_i q;exact ⟨by omega,by omega,fun q2=>absurd q2 q⟩
   cases p with
   | mk v op imm iv ks =>
    dsimp only [Pt.v,Pt.op,Pt.imm,Pt.iv,Pt.kids] at *;subst hv;rcases oS_ops h1 with rfl | ⟨a,b⟩
    ·have hk0:ks=[]:=List.length_eq_zero_iff.1 (by rw [h2];rfl);subst hk0;by_cases q:iv=0
     ·subst q;exact .cst hI
     ·have:=(hiv.2.2 q).1;subst this;exact .cim (by omega) hiv.2.1
    ·refine .app a b (by rw [oS_ar h1 a,h2]) hI hiv.1 hiv.2.1 (fun q=>(hiv.2.2 q).1) (fun q=>?_) hks
     have q1:¬(op=1∨op=23∨op=27∨op=28):=by
      simp only [immOp,decide_eq_false_iff_not] at q;omega
     have e0:iv=0:=by
      by_cases q2:iv=0
      ·exact q2
      ·have:=(hiv.2.2 q2).2;simp only [hasImmF,decide_eq_true_eq] at this;exact absurd this q1
     refine ⟨?_,e0⟩;unfold pImmF at h4
     split at h4
     ·rename_i q2;exact absurd e0 q2
     ·split at h4
      ·rename_i q2;dsimp only [Pt.op] at q2;exact absurd q2 (by omega)
      ·split at h4
       ·rename_i q2;dsimp only [Pt.op] at q2;exact absurd q2 (by omega)
       ·rw [decide_eq_true_eq] at h4;dsimp only [Pt.op,Pt.imm] at h4;omega
  ·rw [shp_var hv,decide_eq_true_iff] at hs
   cases p with
   | mk v op imm iv ks =>
    dsimp only [Pt.v,Pt.op,Pt.imm,Pt.iv,Pt.kids] at *;obtain ⟨rfl,rfl,rfl,hk⟩:op=0∧imm=0∧iv=0∧ks.length=0:=by omega
    obtain rfl:=List.length_eq_zero_iff.1 hk;exact .var (by omega) (by omega)
theorem cn_full (p:Pt):∀(s m:Int) (n:Nat),shp p s m n=true→cn p n m.toNat=some (n,m.toNat):=by
 induction p using Pt.ind with
 | h p ih =>
  intro s m n hs;by_cases hv:p.v=0
  ·rw [shp_op hv,Bool.and_eq_true,decide_eq_true_iff] at hs;obtain ⟨⟨h1,h2,_,h4⟩,h5⟩:=hs
   have hiv:cnI p.iv m.toNat=some m.toNat:=by
    unfold cnI;unfold pImmF at h4
    split at h4
    ·simp only [Bool.and_eq_true,decide_eq_true_iff] at h4;rw [if_pos (by omega),if_pos (by omega)]
    ·rename_i q;rw [if_neg (by omega)]
   have hks:cnL p.kids n m.toNat=some (n,m.toNat):=by
    have key:∀ks:List Pt,(∀k∈ks,cn k n m.toNat=some (n,m.toNat))→cnL ks n m.toNat=some (n,m.toNat):=by
     intro ks
     induction ks with
     | nil=>intro _;simp [cnL]
     | cons k ks ihk =>
      intro hh;rw [cnL,hh k List.mem_cons_self];exact ihk fun q hq=>hh q (List.mem_cons_of_mem _ hq)
    refine key _ fun k hk=>?_
    obtain ⟨i,hi2,rfl⟩:=List.mem_iff_getElem.1 hk;exact ih _ hk _ m n (shpL_at hi2 h5)
   cases p with
   | mk v op imm iv ks =>
    dsimp only [Pt.v,Pt.op,Pt.imm,Pt.iv,Pt.kids] at *;rw [cn,if_neg (by omega),hiv];exact hks
  ·rw [shp_var hv,decide_eq_true_iff] at hs
   cases p with
   | mk v op imm iv ks =>
    dsimp only [Pt.v,Pt.op,Pt.imm,Pt.iv,Pt.kids] at *;rw [cn,if_pos (by omega),if_pos (by omega)]
theorem cond_6 {c:Cd} {ss:List Int} {m:Int} {n:Nat} (h:condF c ss m=true) (hs:ss.length=n+1) (hn6:n≤6) (hm:0≤m∧m≤6) (hn:I64 c.n):Cd6 c∧CdIn n m.toNat c:=by
 unfold condF at h
 split at h
 ·simp only [isValF,Bool.and_eq_true,decide_eq_true_iff] at h;exact ⟨⟨by omega,by omega,by omega,by omega,by omega,by omega,by omega,hn⟩,⟨by omega,by omega,by omega,by omega⟩⟩
 ·split at h
  ·simp only [isValF,Bool.and_eq_true,decide_eq_true_iff] at h;exact ⟨⟨by omega,by omega,by omega,by omega,by omega,by omega,by omega,hn⟩,⟨by omega,by omega,by omega,by omega⟩⟩
  ·split at h
   ·simp only [isValF,Bool.and_eq_true,decide_eq_true_iff] at h;exact ⟨⟨by omega,by omega,by omega,by omega,by omega,by omega,by omega,hn⟩,⟨by omega,by omega,by omega,by omega⟩⟩
   ·split at h
    ·simp only [isValF,isImmF,Bool.and_eq_true,decide_eq_true_iff] at h;exact ⟨⟨by omega,by omega,by omega,by omega,by omega,by omega,by omega,hn⟩,⟨by omega,by omega,by omega,by omega⟩⟩
    ·split at h
     ·simp only [isImmF,Bool.and_eq_true,decide_eq_true_iff] at h;exact ⟨⟨by omega,by omega,by omega,by omega,by omega,by omega,by omega,hn⟩,⟨by omega,by omega,by omega,by omega⟩⟩
     ·cases h
theorem rt_of {r:Rl} (h:implF r=true) (hi:RlI r) (hc:cn r.l 0 0=some (r.vars.toNat,r.imms.toNat)):Rt r r.vars.toNat r.imms.toNat:=by
 have k:=imp_ok h;have hv:=k.vars;have him:=k.imms;have kc:=fun x hx=>cond_6 (n:=r.vars.toNat) (k.cnd x hx) (by simp) (by omega) him (hi.c x hx)
 exact ⟨⟨k.name,shp_fm6 _ _ _ _ k.shl him.2 (by omega) hi.l,shp_fm6 _ _ _ _ k.shr him.2 (by omega) hi.r,fun x hx=>(kc x hx).1⟩,by omega,by omega,by omega,by omega,hc,cn_full _ _ _ _ k.shr,fun x hx=>(kc x hx).2⟩
theorem results_cell_row_tmps {P:Program} {fn:Func} {p u v:Tmp} {ty:TypeId} (h:fn.results=#[.cell p ty,.tmp u,.tmp v]) (tmps:Array Value) (w:World) (g:Nat) (t:TypeId) (cs:Array Value) (fr:Nat×Nat) (d:TypeDesc)
  (hp:tmps.getD p undef=.pointer (some ⟨g,0,none⟩)) (hg:w.heap[g]?=some (.cells cs t fr))
  (hu:P.underlying ty=some d) (hd:(match d with | .struct _ | .array _ _=>true | _=>false)=true) (hi:(P.info? ty).map (·.size)=some cs.size) :
  (results fn tmps).run P w=.ok (.tuple #[.agg cs,tmps.getD u undef,tmps.getD v undef]) w:=by
 have hp':tmps[p]?.getD undef=.pointer (some ⟨g,0,none⟩):=by simpa using hp
 simp [results,h,hp',asAddr,run_loadVar_row w g t ty cs fr d hg hu hd hi,Result.andThen]
theorem PtK.swap {w:World} {F:Nat→Prop} {p:Pt} {KA:Option Addr} {kc:Nat} (h:PtK w F p KA kc) (a b c d:Int):PtK w F (.mk a b c d p.kids) KA kc:=by
 rw [PtK.iff] at h ⊢;exact h
def NS (w:World) (A:Option Addr) (c:Nat) (vs:List Int) (B:Option Addr) (d:Nat) (ms:List Int):Prop :=
 Own w 3 1 A vs.length c (icells vs)∧Own w 3 1 B ms.length d (icells ms)∧∀k,At A k→¬At B k
theorem NS.upd {w w':World} {S:Nat→Prop} {A B:Option Addr} {c d:Nat} {vs ms:List Int} (h:NS w A c vs B d ms) (u:Upd S w w') (hA:∀k,At A k→¬S k) (hB:∀k,At B k→¬S k):NS w' A c vs B d ms:=⟨h.1.upd u hA,h.2.1.upd u hB,h.2.2⟩
theorem findG_drop {vs:List Int} {k:Nat} (h:k<vs.length) (x:Int):findG (vs.drop k) x k=if vs[k]=x then some k else findG (vs.drop (k+1)) x (k+1):=by
 rw [List.drop_eq_getElem_cons h];rfl
theorem lastG_drop {vs:List Int} {k:Nat} (h:k<vs.length) (x a:Int):lastG (vs.drop k) x k a=lastG (vs.drop (k+1)) x (k+1) (if vs[k]=x then (k:Int) else a):=by
 rw [List.drop_eq_getElem_cons h];rfl
theorem Ints.cellA {w:World} {F:Nat→Prop} {A:Option Addr} {xs:List Int} (h:Ints w F A xs) {j:Nat} (hj:j<xs.length):∃b o,A=some ⟨b,o,none⟩∧F b∧b<w.heap.size∧w.cell? ⟨b,o+j,none⟩=some (.int .i64 xs[j]):=by
 obtain ⟨b,o,h1,h2,h3,h4⟩:=Sl.at_ (k:=j) h (by simpa using hj);exact ⟨b,o,h1,h2,h3,by simpa using h4⟩
def NumPost (w:World) (F:Nat→Prop) (A B:Option Addr) (r:Pt×List Int×List Int) (e:Ending) (w':World):Prop :=
 ∃(KA':Option Addr) (kc':Nat) (A':Option Addr) (c':Nat) (B':Option Addr) (d':Nat),
  e=.returned (.tuple #[pv r.1 KA' kc',.slice A' r.2.1.length c',.slice B' r.2.2.length d']) ∧
  PtK w' (fun k=>(F k∨w.heap.size≤k)∧¬At A' k∧¬At B' k) r.1 KA' kc'∧NS w' A' c' r.2.1 B' d' r.2.2 ∧
  (∀k,At A' k→At A k∨w.heap.size≤k)∧(∀k,At B' k→At B k∨w.heap.size≤k)∧Upd (fun k=>At A k∨At B k) w w'
set_option maxRecDepth 100000 in
set_option maxHeartbeats 4000000 in
theorem numbered_c (p:Pt):∀(w:World) (F:Nat→Prop) (KA:Option Addr) (kc:Nat) (A:Option Addr) (c:Nat) (B:Option Addr) (d:Nat) (vs ms:List Int),PtK w F p KA kc→(∀k,F k→¬At A k∧¬At B k)→NS w A c vs B d ms→vs.length+p.size≤1000000→ms.length+p.size≤1000000 →
  Calls Tryz.prog 78 #[pv p KA kc,.slice A vs.length c,.slice B ms.length d] w fun e w'=>NumPost w F A B (numF p vs ms) e w':=by
 induction p using Pt.ind with
 | h p ih =>
  intro w F KA kc A c B d vs ms hp0 hF0 hns hsv hsm;have HI:=h_ ih;have hp1:=PtK.mono (G:=fun k=>F k∧k<w.heap.size) (fun k hk h=>⟨h,hk⟩) p KA kc hp0;obtain ⟨W,HW⟩:=nm (w.alloc (.cells #[.int .i64 p.v,.int .i64 p.op,.int .i64 p.imm,.int .i64 p.iv,.slice KA p.kids.length kc] 40));have hU:Upd Non w W:=by rw [←HW.out];exact Upd.refl.alloc _
  have hb:Blk W w.heap.size 40 #[.int .i64 p.v,.int .i64 p.op,.int .i64 p.imm,.int .i64 p.iv,.slice KA p.kids.length kc]:=by rw [←HW.out];exact Blk.new _ _ _
  have hsW:W.heap.size=w.heap.size+1:=by rw [←HW.out];simp
  obtain ⟨W2,HW2⟩:=nm (W.alloc (.cells #[.int .i64 0,.int .i64 0,.int .i64 0,.int .i64 0,.slice none 0 0] 40));have hU2:Upd Non W W2:=by rw [←HW2.out];exact Upd.refl.alloc _
  have hb2:Blk W2 (w.heap.size+1) 40 #[.int .i64 0,.int .i64 0,.int .i64 0,.int .i64 0,.slice none 0 0]:=by rw [←HW2.out,←hsW];exact Blk.new _ _ _
  have hsW2:W2.heap.size=w.heap.size+2:=by rw [←HW2.out];simp [hsW]
  have hb:=hb.upd hU2 (fun f=>f);have hU0:=hU.then_non hU2;have e0:=HW.out;have e2:=HW2.out;have hpW:=PtK.upd hU0 (fun _ _ _ f=>f) p KA kc hp1;have hnsW:=hns.upd hU0 (fun _ _ f=>f) (fun _ _ f=>f);have hAlt:∀k,At A k→k<w.heap.size:=fun k h=>hns.1.lt h
  have hBlt:∀k,At B k→k<w.heap.size:=fun k h=>hns.2.1.lt h
  have HS:=h_ (Pt.size_eq p);have hkl:p.kids.length≤1000000:=by have h1:=Pt.len_le p.kids;have h2:=HS.out;omega
  have HF0:=h_ hF0;have HAL:=h_ hAlt;have HBL:=h_ hBlt;have HNV:=h_ (@numF_var p);have HNO:=h_ (@numF_op p);have hps:1≤p.size:=by have:=HS.out;omega
  obtain ⟨R,HR⟩:=nm (numF p vs ms);rw [HR.out];have c0:=hb.cell 0;have c3:=hb.cell 3;unfold pv;obtain ⟨v,Hv⟩:=nm p.v;obtain ⟨op,Hop⟩:=nm p.op;obtain ⟨imm,Himm⟩:=nm p.imm;obtain ⟨iv,Hiv⟩:=nm p.iv;obtain ⟨k,Hk⟩:=nm p.kids.length;rw [Hv.out] at c0 e0 hb HNV HNO;rw [Hop.out] at e0 hb HNV HNO;rw [Himm.out] at e0 hb HNV HNO;rw [Hiv.out] at c3 e0 hb HNV HNO;rw [Hk.out] at e0 hb hkl;rw [Hv.out,Hop.out,Himm.out,Hiv.out,Hk.out];obtain ⟨nv,Hnv⟩:=nm vs.length;obtain ⟨nm_,Hnm⟩:=nm ms.length;rw [Hnv.out] at hsv ⊢;rw [Hnm.out] at hsm ⊢;clear ih hp0 hF0 hns hp1 hAlt hBlt hU hU2;by_cases hv:0<v
  ·have hR:=HNV.out hv vs ms;rw [HR.out] at hR;have hiV:=hnsW.1.ints;have HIV:=h_ hiV;have HNS:=h_ hnsW;have HR2:=h_ hR;have tv:decide (0<v)=true:=dT_ hv;have HV0:=h_ hv;clear HNV HNO hnsW hR hiV hv c3;go_enter Tryz.func78,Tryz.ntmps78;go_wp2_with fail
   go_loopg [9] nv (fun g i wr=>∃j:Nat,Hid (g=nv - j)∧j≤nv∧i=.int .i64 j∧Hid (findG vs v 0=findG (vs.drop j) v j)∧Upd Non W2 wr)
   case atStart=>exact ⟨0,rfl,by omega,rfl,rfl,Upd.refl⟩
   case round =>
    obtain ⟨j,Hg,hj,rfl,HFD,hu⟩:=hrel;have hbr:=hb.upd hu (fun f=>f);have hbR:=hb2.upd hu (fun f=>f);have d0:=hbr.cell 0;have g0:=hbr.frozen 0;by_cases hlt:j<nv
    ·have hjl:j<vs.length:=by rw [Hnv.out];exact hlt
     obtain ⟨ba,oa,hA,_,_,z⟩:=(HIV.out.upd hu (fun _ _ _ f=>f)).cellA hjl;have HFJ:Hid (findG vs v 0=if vs[j]=v then some j else findG (vs.drop (j+1)) v (j+1)):=by show _=_;rw [HFD.out];exact findG_drop hjl v
     generalize vs[j]=y at *;have t1:decide (j<nv)=true:=dT_ hlt;have hj0:(0:Int)≤(j:Int):=by omega
     have hjn:(j:Int)<(nv:Int):=by omega
     subst hA;obtain ⟨wD,HwD⟩:=nm wr.drew;have uD:Upd Non wr wD:=by rw [←HwD.out];exact Upd.refl.drew
     have dD0:=u_ d0 uD (fun f=>f);have zD:=u_ z uD (fun f=>f);have HFL:=h_ hlt;clear hlt;go_wp2_with fail
     refine wp_region_held_drew (S:=fun w'=>w'.cell? ⟨w.heap.size,0,none⟩=some (.int .i64 v)∧w'.cell? ⟨ba,oa+j,none⟩=some (.int .i64 y)) (by kernel_rfl) (by rw [HwD.out];exact ⟨dD0,zD⟩) (fun hHeld=>?_)
     rw [HwD.out] at hHeld ⊢;by_cases hy:y=v
     ·subst hy;refine wpT 0 ?_;(try simp only [y_,z_]);refine wpT 1 ?_;(try simp only [y_,z_]);refine wpT 2 ?_;(try simp only [y_,z_]);refine wpT 3 ?_;(try simp only [y_,z_]);refine wpT 4 ?_;(try simp only [y_,z_]);refine wpT 5 ?_;(try simp only [y_,z_]);refine wpT 6 ?_;(try simp only [y_,z_]);refine aD_ (by kernel_rfl) ?_ _;have hbD:=hbr.upd uD (fun f=>f);have hbRD:=hbR.upd uD (fun f=>f);have hE:findG vs y 0=some j:=by rw [HFJ.out,if_pos rfl]
      have g0:=hbD.frozen 0;obtain ⟨X1,HX1⟩:=nm (wD.setCell ⟨w.heap.size,0,none⟩ (.int .i64 ((j:Int)+1)));have x1:=HX1.out;have hx1:Blk X1 w.heap.size 40 #[.int .i64 ((j:Int)+1),.int .i64 op,.int .i64 imm,.int .i64 iv,.slice KA k kc]:=by rw [←x1];simpa using hbD.set_ 0 (.int .i64 ((j:Int)+1))
      have v1:Upd (·=w.heap.size) wD X1:=by rw [←x1];exact updCell _ _ _ _
      have hxR:=hbRD.upd v1 (by omega);have k0:=hx1.cell 0;have k1:=hx1.cell 1;have k2:=hx1.cell 2;have k3:=hx1.cell 3;have k4:=hx1.cell 4;have r0:=hxR.cell 0;have r1:=hxR.cell 1;have r2:=hxR.cell 2;have r3:=hxR.cell 3;have r4:=hxR.cell 4;have rf:=hxR.frozen;have HE:=h_ hE;have UX:Upd (·=w.heap.size) W2 X1:=((hu.then_non uD).mono (fun _ _ f=>f.elim)).trans v1 (fun _ _ h=>h);have HXR:=h_ hxR;clear hE z zD;go_wp2_with fail
      rw [set5_eq];refine bodyPost_ret (results_cell_row_tmps rfl _ _ (w.heap.size+1) 40 _ (0,0) _ rfl (set5_blk HXR.out _ _ _ _ _) Tryz.underlying40 rfl (by kernel_rfl)) rfl ?_
      have uS:=set5_upd X1 (w.heap.size+1) (.int .i64 ((j:Int)+1)) (.int .i64 op) (.int .i64 imm) (.int .i64 iv) (.slice KA k kc);have UF:Upd (fun i=>i=w.heap.size∨i=w.heap.size+1) W2 (set5 X1 (w.heap.size+1) (.int .i64 ((j:Int)+1)) (.int .i64 op) (.int .i64 imm) (.int .i64 iv) (.slice KA k kc)):=(UX.mono (fun _ _ h=>.inl h)).trans uS (fun _ _ h=>.inr h)
      have hRe:R=(.mk ((j:Int)+1) op imm iv p.kids,vs,ms):=by rw [HR2.out];unfold numV;rw [HE.out]
      rw [hRe];have hkk:=Hk.out;refine ⟨KA,kc,_,c,B,d,?_,?_,HNS.out.upd UF (fun k h e=>by have:=HAL.out k h;omega) (fun k h e=>by have:=HBL.out k h;omega),fun k h=>.inl h,fun k h=>.inl h,(hU0.mono (fun _ _ f=>f.elim)).trans UF (fun i hi h=>by omega)⟩
      ·show _=Ending.returned (.tuple #[.agg #[_,_,_,_,.slice KA p.kids.length kc],.slice _ vs.length c,.slice B ms.length d]);rw [Hnv.out,Hnm.out,Hk.out];rfl
      ·exact PtK.swap (PtK.mono (fun i _ h=>⟨.inl h.1,HF0.out i h.1⟩) _ _ _ (PtK.upd UF (fun i hi h e=>by have:=h.2;omega) p KA kc hpW)) _ _ _ _
     ·have ty:(y==v)=false:=by simpa using hy
      have HFN:Hid (findG vs v 0=findG (vs.drop (j+1)) v (j+1)):=by show _=_;rw [HFJ.out,if_neg hy]
      clear hy;refine wpT 0 ?_;(try simp only [y_,z_]);refine wpT 1 ?_;(try simp only [y_,z_]);refine wpT 2 ?_;(try simp only [y_,z_]);refine wpT 3 ?_;(try simp only [y_,z_]);refine wpT 4 ?_;(try simp only [y_,z_]);refine wpT 5 ?_;(try simp only [y_,z_]);refine wpT 6 ?_;(try simp only [y_,z_]);refine aD_ (by kernel_rfl) ?_ _;have hltj:=HFL.out;go_wp2_with fail
      go_roundg (nv - (j+1))
      case measure=>rw [Hg.out];omega
      case rel=>exact ⟨j+1,rfl,by omega,by go_num,HFN,hu.then_non uD⟩
    ·obtain rfl:nv=j:=by omega
     have hE:findG vs v 0=none:=by rw [HFD.out,List.drop_of_length_le (by rw [Hnv.out];exact Nat.le_refl _)];rfl
     have HE:=h_ hE;have hoR:=HNS.out.1.upd hu (fun _ _ f=>f);rw [Hnv.out] at hoR;have hltr:=hb2.lt;have hsu:=hu.size;clear hE
     go_wp2_with (at_builtin;refine wpList_app rfl rfl T_ints' rfl (hoR.alloc _) rfl (Sl.new _ _ _) rfl (by simp [Value.oneCell']) (by simp only [maxLen];omega) (by omega) ?_;intro A3 c3 w3 ho3 hu3 hat3;have hb3:=(hbr.alloc (.cells #[.int .i64 v] 3)).upd hu3 (fun h=>by have:=HAL.out _ h;omega);have hbR3:=(hbR.alloc (.cells #[.int .i64 v] 3)).upd hu3 (fun h=>by have:=HAL.out _ h;omega);have d03:=hb3.cell 0;have g03:=hb3.frozen 0;obtain ⟨X1,HX1⟩:=nm (w3.setCell ⟨w.heap.size,0,none⟩ (.int .i64 ((nv:Int)+1)));have x1:=HX1.out;have hx1:Blk X1 w.heap.size 40 #[.int .i64 ((nv:Int)+1),.int .i64 op,.int .i64 imm,.int .i64 iv,.slice KA k kc]:=(by rw [←x1];simpa using hb3.set_ 0 (.int .i64 ((nv:Int)+1)));have v1:Upd (·=w.heap.size) w3 X1:=(by rw [←x1];exact updCell _ _ _ _);have hxR:=hbR3.upd v1 (by omega);have k0:=hx1.cell 0;have k1:=hx1.cell 1;have k2:=hx1.cell 2;have k3:=hx1.cell 3;have k4:=hx1.cell 4;have r0:=hxR.cell 0;have r1:=hxR.cell 1;have r2:=hxR.cell 2;have r3:=hxR.cell 3;have r4:=hxR.cell 4;have rf:=hxR.frozen)
     rw [set5_eq];refine bodyPost_ret (results_cell_row_tmps rfl _ _ (w.heap.size+1) 40 _ (0,0) _ rfl (set5_blk hxR _ _ _ _ _) Tryz.underlying40 rfl (by kernel_rfl)) rfl ?_;have uS:=set5_upd X1 (w.heap.size+1) (.int .i64 ((nv:Int)+1)) (.int .i64 op) (.int .i64 imm) (.int .i64 iv) (.slice KA k kc);have hat4:∀i,At A3 i→At A i∨i=wr.heap.size+1:=fun i h=>by simpa using hat3 i h
     have hal:Upd Non wr (wr.alloc (.cells #[.int .i64 v] 3)):=Upd.refl.alloc _;have u3X:Upd (fun i=>i=w.heap.size∨i=w.heap.size+1) w3 (set5 X1 (w.heap.size+1) (.int .i64 ((nv:Int)+1)) (.int .i64 op) (.int .i64 imm) (.int .i64 iv) (.slice KA k kc)):=(v1.mono (fun _ _ h=>.inl h)).trans uS (fun _ _ h=>.inr h)
     have UF:Upd (fun i=>At A i∨i=w.heap.size∨i=w.heap.size+1) W2 (set5 X1 (w.heap.size+1) (.int .i64 ((nv:Int)+1)) (.int .i64 op) (.int .i64 imm) (.int .i64 iv) (.slice KA k kc)) :=
      ((((hu.then_non hal).mono (fun _ _ f=>f.elim)).trans hu3 (fun _ _ h=>.inl h))).trans u3X (fun _ _ h=>.inr h)
     have hRe:R=(.mk ((nv:Int)+1) op imm iv p.kids,vs++[v],ms):=by rw [HR2.out];unfold numV;rw [HE.out,Hnv.out]
     rw [hRe];have hoF:=ho3.upd u3X (fun i h e=>by rcases hat4 i h with h | h;have:=HAL.out i h;omega;omega);rw [←icells_snoc] at hoF;have hdis:=HNS.out.2.2
     refine ⟨KA,kc,A3,c3,B,d,?_,?_,⟨by simpa [Hnv.out] using hoF,HNS.out.2.1.upd UF (fun i h e=>by
      have h1:=HBL.out i h;rcases e with e | e
      ·exact hdis i e h
      ·omega),fun i h hB=>?_⟩,fun i h=>?_,fun i h=>.inl h,(hU0.mono (fun _ _ f=>f.elim)).trans UF (fun i hi h=>by rcases h with h | h;exact .inl h;omega)⟩
     ·show _=Ending.returned (.tuple #[.agg #[_,_,_,_,.slice KA p.kids.length kc],.slice _ (vs++[v]).length c3,.slice B ms.length d]);rw [List.length_append,Hnv.out,Hnm.out,Hk.out];rfl
     ·refine PtK.swap (PtK.mono (G:=fun i=>(F i∨w.heap.size≤i)∧¬At A3 i∧¬At B i) (fun i _ h=>⟨.inl h.1,fun h3=>?_,(HF0.out i h.1).2⟩) _ _ _ (PtK.upd UF (fun i hi h e=>by
       have h1:=HF0.out i h.1;have h2:=h.2;rcases e with e | e
       ·exact h1.1 e
       ·omega) p KA kc hpW)) _ _ _ _
      rcases hat4 i h3 with h3 | h3
      ·exact (HF0.out i h.1).1 h3
      ·have:=h.2;omega
     ·rcases hat4 i h with h | h
      ·exact hdis i h hB
      ·have:=HBL.out i hB;omega
     ·rcases hat4 i h with h | h
      ·exact .inl h
      ·exact .inr (by omega)
  ·have hR:=HNO.out hv vs ms;rw [HR.out] at hR;have HIM:=h_ hnsW.2.1.ints;have HNS:=h_ hnsW;have tv:decide (0<v)=false:=dF_ hv;have HV0:=h_ hv;obtain ⟨iv1,Hiv1⟩:=nm (numI ms iv).1;obtain ⟨msI,HmsI⟩:=nm (numI ms iv).2;rw [Hiv1.out,HmsI.out] at hR;have HNI:Hid ((iv1,msI)=numI ms iv):=by show _=_;rw [←Hiv1.out,←HmsI.out]
   unfold numI at HNI;have hIl:=numI_len ms iv;rw [HmsI.out,Hnm.out] at hIl;have HR2:=h_ hR;clear HNV HNO hnsW hR hv;go_enter Tryz.func78,Tryz.ntmps78
   go_upto_region 11 with fail
   go_cut [50] (fun t wx=>t=.bool (decide (0<iv))∧W2=wx)
   case first =>
    go_wp2_with fail
    go_meet
    case rel=>exact ⟨rfl,rfl⟩
   case rest =>
   obtain ⟨rfl,rfl⟩:=hcut;obtain ⟨tb,Htb⟩:=nm (decide (0<iv));rw [Htb.out]
   go_upto_if 50 with fail
   go_cut [2,10,11] (fun s2 _ _ wx=>∃(B1:Option Addr) (d1:Nat),s2=.slice B1 msI.length d1∧Hid (NS wx A c vs B1 d1 msI)∧Hid (∀i,At B1 i→At B i∨w.heap.size+2≤i)∧Blk wx w.heap.size 40 #[.int .i64 v,.int .i64 op,.int .i64 imm,.int .i64 iv1,.slice KA k kc]∧Upd (fun i=>At B i∨i=w.heap.size) W2 wx)
   case first =>
    by_cases hiv:0<iv
    ·have tiv:tb=true:=by rw [←Htb.out];exact dT_ hiv
     subst tiv;have hni:=HNI.out;rw [if_pos hiv] at hni;have HNI2:=h_ hni;clear hni hiv;go_wp2_with fail
     go_loopg [10,11] nm_ (fun g s i wr=>∃(j:Nat) (a:Int),Hid (g=nm_ - j)∧j≤nm_∧i=.int .i64 j∧s=.int .i64 a ∧ -1≤a∧a<nm_∧Hid (lastG ms iv 0 (-1)=lastG (ms.drop j) iv j a)∧Upd Non W2 wr)
     case atStart=>exact ⟨0,-1,rfl,by omega,rfl,rfl,by omega,by omega,rfl,Upd.refl⟩
     case round =>
      obtain ⟨j,a,Hg,hj,rfl,rfl,ha1,ha2,HFD,hu⟩:=hrel;have hbr:=hb.upd hu (fun f=>f);have d3:=hbr.cell 3;have g3:=hbr.frozen 3;by_cases hlt:j<nm_
      ·have hjl:j<ms.length:=by rw [Hnm.out];exact hlt
       obtain ⟨ba,oa,hB,_,_,z⟩:=(HIM.out.upd hu (fun _ _ _ f=>f)).cellA hjl;have HFJ:Hid (lastG ms iv 0 (-1)=lastG (ms.drop (j+1)) iv (j+1) (if ms[j]=iv then (j:Int) else a)):=by show _=_;rw [HFD.out];exact lastG_drop hjl iv a
       generalize ms[j]=y at *;have t1:decide (j<nm_)=true:=dT_ hlt;have hj0:(0:Int)≤(j:Int):=by omega
       have hjn:(j:Int)<(nm_:Int):=by omega
       subst hB;obtain ⟨wD,HwD⟩:=nm wr.drew;have uD:Upd Non wr wD:=by rw [←HwD.out];exact Upd.refl.drew
       have dD0:=u_ d3 uD (fun f=>f);have zD:=u_ z uD (fun f=>f);have HFL:=h_ hlt;have HA1:=h_ ha1;clear hlt ha1;go_wp2_with fail
       refine wp_region_held_drew (S:=fun w'=>w'.cell? ⟨w.heap.size,3,none⟩=some (.int .i64 iv)∧w'.cell? ⟨ba,oa+j,none⟩=some (.int .i64 y)) (by kernel_rfl) (by rw [HwD.out];exact ⟨dD0,zD⟩) (fun hHeld=>?_)
       rw [HwD.out] at hHeld ⊢;by_cases hy:y=iv
       ·subst hy;have HFK:Hid (lastG ms y 0 (-1)=lastG (ms.drop (j+1)) y (j+1) (j:Int)):=by show _=_;rw [HFJ.out,if_pos rfl]
        refine wpT 0 ?_;(try simp only [y_,z_]);refine wpT 1 ?_;(try simp only [y_,z_]);refine wpT 2 ?_;(try simp only [y_,z_]);refine wpT 3 ?_;(try simp only [y_,z_]);refine wpT 4 ?_;(try simp only [y_,z_]);refine wpT 5 ?_;(try simp only [y_,z_]);refine wpT 6 ?_;(try simp only [y_,z_]);refine aD_ (by kernel_rfl) ?_ _;have hltj:=HFL.out;go_wp2_with fail
        go_roundg (nm_ - (j+1))
        case measure=>rw [Hg.out];omega
        case rel=>exact ⟨j+1,j,rfl,by omega,by go_num,rfl,by omega,hjn,HFK,hu.then_non uD⟩
       ·have ty:(y==iv)=false:=by simpa using hy
        have HFK:Hid (lastG ms iv 0 (-1)=lastG (ms.drop (j+1)) iv (j+1) a):=by show _=_;rw [HFJ.out,if_neg hy]
        clear hy;refine wpT 0 ?_;(try simp only [y_,z_]);refine wpT 1 ?_;(try simp only [y_,z_]);refine wpT 2 ?_;(try simp only [y_,z_]);refine wpT 3 ?_;(try simp only [y_,z_]);refine wpT 4 ?_;(try simp only [y_,z_]);refine wpT 5 ?_;(try simp only [y_,z_]);refine wpT 6 ?_;(try simp only [y_,z_]);refine aD_ (by kernel_rfl) ?_ _;have hltj:=HFL.out;go_wp2_with fail
        go_roundg (nm_ - (j+1))
        case measure=>rw [Hg.out];omega
        case rel=>exact ⟨j+1,a,rfl,by omega,by go_num,rfl,HA1.out,ha2,HFK,hu.then_non uD⟩
      ·obtain rfl:nm_=j:=by omega
       have HE:Hid (lastG ms iv 0 (-1)=a):=by show _=_;rw [HFD.out,List.drop_of_length_le (by rw [Hnm.out];exact Nat.le_refl _)];rfl
       have t1:decide (nm_<nm_)=false:=by simp
       rw [HE.out] at HNI2;have hbm:=HNS.out.upd hu (fun _ _ f=>f) (fun _ _ f=>f);have hsu:=hu.size;by_cases h0:a<0
       ·have t2:decide (a<0)=true:=dT_ h0;have hni:=HNI2.out;rw [if_pos h0,Hnm.out] at hni;have HI1:Hid (iv1=(nm_:Int)+1):=congrArg Prod.fst hni;have HI2:Hid (msI=ms++[iv]):=congrArg Prod.snd hni;have hoR:=hbm.2.1;rw [Hnm.out] at hoR;have HBM:=h_ hbm;clear hni h0 hbm
        go_wp2_with (at_builtin;refine wpList_app rfl rfl T_ints' rfl (hoR.alloc _) rfl (Sl.new _ _ _) rfl (by simp [Value.oneCell']) (by simp only [maxLen];omega) (by omega) ?_;intro B3 d3' w3 ho3 hu3 hat3;have hb3:=(hbr.alloc (.cells #[.int .i64 iv] 3)).upd hu3 (fun h=>by have:=HBL.out _ h;omega);have d03:=hb3.cell 3;have g03:=hb3.frozen 3)
        go_meet
        case rel =>
         have v1:Upd (·=w.heap.size) w3 (w3.setCell ⟨w.heap.size,3,none⟩ (.int .i64 ((nm_:Int)+1))):=updCell _ _ _ _
         have hx1:Blk (w3.setCell ⟨w.heap.size,3,none⟩ (.int .i64 ((nm_:Int)+1))) w.heap.size 40 #[.int .i64 v,.int .i64 op,.int .i64 imm,.int .i64 iv1,.slice KA k kc]:=by
          rw [HI1.out];simpa using hb3.set_ 3 (.int .i64 ((nm_:Int)+1))
         have hat4:∀i,At B3 i→At B i∨i=wr.heap.size+1:=fun i h=>by simpa using hat3 i h
         have hal:Upd Non wr (wr.alloc (.cells #[.int .i64 iv] 3)):=Upd.refl.alloc _;have hdis:=HNS.out.2.2;refine ⟨B3,d3',by rw [HI2.out,List.length_append,Hnm.out];rfl,⟨((HBM.out.1.alloc _).upd hu3 hdis).upd v1 (fun i h e=>by have:=HAL.out i h;omega),?_,fun i h hB=>?_⟩,fun i h=>?_,hx1,((hu.then_non hal).mono (fun _ _ f=>f.elim)).trans (hu3.mono (fun _ _ h=>.inl h)) (fun _ _ h=>h) |>.trans v1 (fun _ _ h=>.inr h)⟩
         ·have h1:=ho3.upd v1 (fun i h e=>by rcases hat4 i h with h | h;have:=HBL.out i h;omega;omega);rw [←icells_snoc] at h1;rw [HI2.out];simpa [Hnm.out] using h1
         ·rcases hat4 i hB with h3 | h3
          ·exact hdis i h h3
          ·have:=HAL.out i h;omega
         ·rcases hat4 i h with h3 | h3
          ·exact .inl h3
          ·exact .inr (by omega)
       ·have t2:decide (a<0)=false:=dF_ h0;have hni:=HNI2.out;rw [if_neg h0] at hni;have HI1:Hid (iv1=a+1):=congrArg Prod.fst hni;have HI2:Hid (msI=ms):=congrArg Prod.snd hni;have HBM:=h_ hbm;have hsm0:nm_≤1000000:=by omega
        clear hni h0 hbm;go_wp2_with fail
        go_meet
        case rel =>
         have v1:Upd (·=w.heap.size) wr (wr.setCell ⟨w.heap.size,3,none⟩ (.int .i64 (a+1))):=updCell _ _ _ _
         have hx1:Blk (wr.setCell ⟨w.heap.size,3,none⟩ (.int .i64 (a+1))) w.heap.size 40 #[.int .i64 v,.int .i64 op,.int .i64 imm,.int .i64 iv1,.slice KA k kc]:=by
          rw [HI1.out];simpa using hbr.set_ 3 (.int .i64 (a+1))
         refine ⟨B,d,by rw [HI2.out,Hnm.out],?_,fun i h=>.inl h,hx1,(hu.mono (fun _ _ f=>f.elim)).trans v1 (fun _ _ h=>.inr h)⟩;rw [HI2.out];exact HBM.out.upd v1 (fun i h e=>by have:=HAL.out i h;omega) (fun i h e=>by have:=HBL.out i h;omega)
    ·have tiv:tb=false:=by rw [←Htb.out];exact dF_ hiv
     subst tiv;have hni:=HNI.out;rw [if_neg hiv] at hni;have h1:iv1=iv:=congrArg Prod.fst hni;have h2:msI=ms:=congrArg Prod.snd hni;subst h1 h2;clear hiv hni;go_wp2_with fail
     go_meet
     case rel=>exact ⟨B,d,by rw [Hnm.out],HNS,fun i h=>.inl h,hb,Upd.refl⟩
   case rest =>
   obtain ⟨B0,d0,rfl,hns0,hat0,hb0,hu0⟩:=hcut;obtain ⟨w1,rfl⟩:∃w1:World,w1=wc:=⟨_,rfl⟩;have hbR0:=hb2.upd hu0 (fun h=>by rcases h with h | h;have:=HBL.out _ h;omega;omega)
   have hpK0:=PtK.upd hu0 (fun i hi h e=>by
    have h1:=HF0.out i h.1;have h2:=h.2;rcases e with e | e
    ·exact h1.2 e
    ·omega) p KA kc hpW
   have c4:=hb0.cell 4;have hs1:=hu0.size;clear hb hb2 hpW c0 c3 e0 e2;obtain ⟨w2,Hw2⟩:=nm (w1.alloc (.cells #[] 40));have uw2:Upd Non w1 w2:=by rw [←Hw2.out];exact Upd.refl.alloc _
   have hsw2:w2.heap.size=w1.heap.size+1:=by rw [←Hw2.out];simp
   have hK0:Own w2 40 5 (some ⟨w1.heap.size,0,none⟩) 0 0 []:=Own.mk_ (cur:=#[]) (by rw [←Hw2.out];exact Blk.new _ _ _) (by omega) (by simp [maxLen]) rfl rfl
   obtain ⟨F0,HF0e⟩:∃F0:Nat→Prop,Hid (F0=fun i=>F i∧i<w.heap.size):=⟨_,rfl⟩;have HL:=h_ (fun (ks:List Pt)=>numL_lens ks vs msI);have hml:msI.length≤ms.length+1:=by rw [Hnm.out];exact hIl
   go_wp2_with fail
   rw [Hw2.out]
   go_loopg [1,2,12,13,14] k (fun g s1 s2 s12 i _ wr=>∃(j:Nat) (A1:Option Addr) (c1:Nat) (B1:Option Addr) (d1:Nat) (KS:Option Addr) (ks:Nat) (L:List Pt) (vs1 ms1:List Int),
    Hid (g=k - j)∧j≤k∧s1=.slice A1 vs1.length c1∧s2=.slice B1 ms1.length d1∧s12=.slice KS j ks∧i=.int .i64 j ∧
    Hid ((L,vs1,ms1)=numL (p.kids.take j) vs msI)∧Hid (NS wr A1 c1 vs1 B1 d1 ms1) ∧
    Hid (PtO wr (fun i=>(F0 i∨w.heap.size+2≤i)∧¬At A1 i∧¬At B1 i) KS j ks L) ∧
    Hid (∀i,At A1 i→At A i∨w1.heap.size≤i)∧Hid (∀i,At B1 i→At B0 i∨w1.heap.size≤i)∧Hid (∀i,At KS i→w1.heap.size≤i∧¬At A1 i∧¬At B1 i) ∧
    Upd (fun i=>At A i∨At B0 i) w1 wr)
   case atStart =>
    refine ⟨0,A,c,B0,d0,_,0,[],vs,msI,rfl,by omega,by rw [Hnv.out],rfl,rfl,rfl,rfl,hns0.upd uw2 (fun _ _ f=>f) (fun _ _ f=>f),⟨rfl,_,hK0,PtCells.nil⟩,fun i h=>.inl h,fun i h=>.inl h,fun i h=>?_,uw2.mono (fun _ _ f=>f.elim)⟩
    rw [At.some_] at h;subst h;refine ⟨by omega,fun hA=>?_,fun hB=>?_⟩
    ·have:=HAL.out _ hA;omega
    ·have:=hns0.2.1.lt hB;omega
   case round =>
    obtain ⟨j,A1,c1,B1,d1,KS,ks,L,vs1,ms1,Hg,hj,rfl,rfl,rfl,rfl,HN,HNS1,HPO,HA1,HB1,HKS,hu⟩:=hrel;by_cases hlt:j<k
    ·have hjk:j<p.kids.length:=by rw [Hk.out];exact hlt
     have t1:decide (j<k)=true:=dT_ hlt
     have hbr:=hb0.upd hu (fun h=>by
      rcases h with h | h
      ·have:=HAL.out _ h;omega
      ·rcases hat0.out _ h with h | h
       ·have:=HBL.out _ h;omega
       ·omega)
     have c4r:=hbr.cell 4;have hsu:=hu.size
     go_upto_region 27 with fail
     obtain ⟨w5,Hw5⟩:=nm (wr.alloc (.cells #[.int .i64 0,.int .i64 0,.int .i64 0,.int .i64 0,.slice none 0 0] 40));have u5:Upd Non wr w5:=by rw [←Hw5.out];exact Upd.refl.alloc _
     have hs5:w5.heap.size=wr.heap.size+1:=by rw [←Hw5.out];simp
     have hB5:Blk w5 wr.heap.size 40 #[.int .i64 0,.int .i64 0,.int .i64 0,.int .i64 0,.slice none 0 0]:=by rw [←Hw5.out];exact Blk.new _ _ _
     have hpk:=PtK.upd hu (fun i hi h e=>by
      have h1:=HF0.out i h.1;have h2:=h.2;rcases e with e | e
      ·exact h1.1 e
      ·rcases hat0.out _ e with e | e
       ·exact h1.2 e
       ·omega) _ _ _ hpK0
     have hpk:=PtK.upd u5 (fun _ _ _ f=>f) _ _ _ hpk;obtain ⟨bk,ok,hKA,hFk,hbw,KQ,kq,h0,h1,h2,h3,h4,hqk⟩:=hpk.at_ hjk;have HTK:Hid (p.kids.take (j+1)=p.kids.take j++[p.kids[j]]):=take_snoc_ hjk
     have hqs:p.kids[j].size≤Pt.sizeL (p.kids.take (j+1))∧Pt.sizeL (p.kids.take j)+p.kids[j].size≤Pt.sizeL p.kids:=by
      have e1:=Pt.sizeL_take p.kids j hjk;have e2:=Pt.sizeL_take_le p.kids (j+1);omega
     have CI:=HI.out p.kids[j] (List.getElem_mem hjk) w5 F0 KQ kq A1 c1 B1 d1 vs1 ms1;generalize p.kids[j]=q at *;have hll:=HL.out (p.kids.take j);rw [←HN.out] at hll;have hse:=HS.out;have hnv:=Hnv.out;have hnm:=Hnm.out;have hF0:=HF0e.out
     have hF01:∀i,F0 i→¬At A1 i∧¬At B1 i:=by
      intro i hi;rw [hF0] at hi;refine ⟨fun h=>?_,fun h=>?_⟩
      ·rcases HA1.out i h with h | h
       ·exact (HF0.out i hi.1).1 h
       ·have:=hi.2;omega
      ·rcases HB1.out i h with h | h
       ·rcases hat0.out _ h with h | h
        ·exact (HF0.out i hi.1).2 h
        ·have:=hi.2;omega
       ·have:=hi.2;omega
     have hns5:=HNS1.out.upd u5 (fun _ _ f=>f) (fun _ _ f=>f);have C1:=h_ (CI (by rw [hF0];exact hqk) hF01 hns5 (by have:=hll.1;simp only at this;omega) (by have:=hll.2.1;simp only at this;omega))
     have HNE:Hid (numL (p.kids.take (j+1)) vs msI=(L++[(numF q vs1 ms1).1],(numF q vs1 ms1).2)):=by
      show _=_;rw [HTK.out,numL_snoc,←HN.out]
     obtain ⟨Rq,HRq⟩:=nm (numF q vs1 ms1);rw [HRq.out] at C1 HNE;have HQ:=h_ hqk;have c4r:=hbr.upd u5 (fun f=>f) |>.cell 4;rw [Hw5.out];clear CI hF0 hns5 hqk hpk hll hse hqs hF01 hnv hnm;subst hKA;go_wp2_with fail
     refine C1.out.mono ?_;rintro e w7 ⟨KA',kc',A2,c2,B2,d2,rfl,hq7,hn7,ha7,hb7,u7⟩;have HQ7:=h_ hq7;have HN7:=h_ hn7;have HA7:=h_ ha7;have HB7:=h_ hb7;obtain ⟨q',Hq'⟩:=nm Rq.1;obtain ⟨vs2,Hvs2⟩:=nm Rq.2.1;obtain ⟨ms2,Hms2⟩:=nm Rq.2.2;rw [Hq'.out] at HQ7;rw [Hvs2.out,Hms2.out] at HN7;rw [Hq'.out,Hvs2.out,Hms2.out]
     have hA5:∀i,At A1 i∨At B1 i→i<wr.heap.size:=fun i h=>by
      rcases h with h | h
      ·exact HNS1.out.1.lt h
      ·exact HNS1.out.2.1.lt h
     have hB7:=hB5.upd u7 (fun h=>by have:=hA5 _ h;omega);have r0:=hB7.cell 0;have r1:=hB7.cell 1;have r2:=hB7.cell 2;have r3:=hB7.cell 3;have r4:=hB7.cell 4;have rf:=hB7.frozen;have HB7b:=h_ hB7;clear hq7 hn7 ha7 hb7 hB7 h0 h1 h2 h3 h4 c4r hbr;unfold pv
     go_upto_region 28 with fail
     rw [set5_eq];obtain ⟨w8,Hw8⟩:=nm (set5 w7 wr.heap.size (.int .i64 q'.v) (.int .i64 q'.op) (.int .i64 q'.imm) (.int .i64 q'.iv) (.slice KA' q'.kids.length kc'));have u8:Upd (·=wr.heap.size) w7 w8:=by rw [←Hw8.out];exact set5_upd _ _ _ _ _ _ _
     have b8:Blk w8 wr.heap.size 40 #[.int .i64 q'.v,.int .i64 q'.op,.int .i64 q'.imm,.int .i64 q'.iv,.slice KA' q'.kids.length kc']:=by rw [←Hw8.out];exact set5_blk HB7b.out _ _ _ _ _
     rw [Hw8.out];have s0:=b8.cell 0;have s1:=b8.cell 1;have s2:=b8.cell 2;have s3:=b8.cell 3;have s4:=b8.cell 4;have hs7:=u7.size;have hs8:=u8.size;have hKS:=HKS.out;have hKlt:∀i,At KS i→i<wr.heap.size:=fun i h=>HPO.out.lt h
     have hA2w:∀i,At A2 i→At A1 i∨w5.heap.size≤i:=HA7.out;have hB2w:∀i,At B2 i→At B1 i∨w5.heap.size≤i:=HB7.out
     have hn7l:∀i,At A2 i∨At B2 i→i<w7.heap.size:=fun i h=>by
      rcases h with h | h
      ·exact HN7.out.1.lt h
      ·exact HN7.out.2.1.lt h
     have hp0:=HPO.out.mono (G':=fun i=>(F0 i∨w.heap.size+2≤i)∧¬At A2 i∧¬At B2 i∧¬At A1 i∧¬At B1 i∧i<wr.heap.size) (fun i hi h =>
      ⟨h.1,fun f=>by rcases hA2w i f with f | f;exact h.2.1 f;omega,fun f=>by rcases hB2w i f with f | f;exact h.2.2 f;omega,h.2.1,h.2.2,hi⟩)
     have hp8:=(((hp0.upd u5 (fun _ _ f=>f) (fun _ _ _ f=>f)).upd u7 (fun i h e=>by rcases e with e | e;exact (hKS i h).2.1 e;exact (hKS i h).2.2 e) (fun i _ h e=>by
      rcases e with e | e
      ·exact h.2.2.2.1 e
      ·exact h.2.2.2.2.1 e)).upd u8 (fun i h e=>by have:=hKlt i h;omega) (fun i _ h e=>by have:=h.2.2.2.2.2;omega)).mono (G':=fun i=>(F0 i∨w.heap.size+2≤i)∧¬At A2 i∧¬At B2 i) (fun i _ h=>⟨h.1,h.2.1,h.2.2.1⟩)
     have hF0w:∀i,F0 i→i<w.heap.size:=fun i h=>by rw [HF0e.out] at h;exact h.2
     have hq8:PtK w8 (fun i=>((F0 i∨w.heap.size+2≤i)∧¬At A2 i∧¬At B2 i)∧¬At KS i) q' KA' kc' :=
      PtK.mono (fun i _ h=>⟨⟨by rcases h.1 with h | h;exact .inl h;exact .inr (by omega),h.2.1,h.2.2⟩,fun f=>by
       have h3:=(hKS i f).1;have h4:=hKlt i f;rcases h.1 with h | h
       ·have:=hF0w i h;omega
       ·omega⟩) _ _ _ (PtK.upd u8 (fun i hi h e=>by
        rcases h.1 with h | h
        ·have:=hF0w i h;omega
        ·omega) _ _ _ HQ7.out)
     have hn8:=HN7.out.upd u8 (fun i h e=>by rcases hA2w i h with h | h;have:=hA5 i (.inl h);omega;omega) (fun i h e=>by rcases hB2w i h with h | h;have:=hA5 i (.inr h);omega;omega)
     obtain ⟨hnL,cs,ho8,hc8⟩:=id hp8;have HP8:=h_ hp8;have HC8:=h_ hc8;have HQ8:=h_ hq8;have HN8:=h_ hn8;have HA2w:=h_ hA2w;have HB2w:=h_ hB2w;have HKSb:=h_ hKS;have HKlt:=h_ hKlt;have HF0w:=h_ hF0w;have HA5:=h_ hA5;have Hn7l:=h_ hn7l;clear hp0 hp8 hc8 hq8 hn8 hA2w hB2w hKS hKlt hF0w hA5 hn7l b8 hnL r0 r1 r2 r3 r4 rf
     go_wp2_with (at_builtin;refine wpList_app rfl rfl T_pats rfl (ho8.alloc _) rfl (Sl.new _ _ _) rfl (by simp [Value.oneCell']) (by simp only [maxLen];omega) (by omega) ?_;intro A9 c9 w9 ho9 hu9 hat9)
     have hal:Upd Non w8 (w8.alloc (.cells #[.int .i64 q'.v,.int .i64 q'.op,.int .i64 q'.imm,.int .i64 q'.iv,.slice KA' q'.kids.length kc'] 40)):=Upd.refl.alloc _
     have hat9b:∀i,At A9 i→At KS i∨i=w8.heap.size+1:=fun i h=>by simpa using hat9 i h
     have hpa:=HP8.out.upd hal (fun _ _ f=>f) (fun _ _ _ f=>f);have hp9:=PtO.snoc (G':=fun i=>(F0 i∨w.heap.size+2≤i)∧¬At A2 i∧¬At B2 i) hpa (HC8.out.mono hal (fun _ _ _ f=>f) (fun _ _ h=>h)) (PtK.upd hal (fun _ _ _ f=>f) _ _ _ HQ8.out) ho9 hu9 hat9 (fun _ _ h=>h)
     have hn9:=(HN8.out.upd hal (fun _ _ f=>f) (fun _ _ f=>f)).upd hu9 (fun i h e=>by
      rcases HA2w.out i h with h | h
      ·exact (HKSb.out i e).2.1 h
      ·have:=HKlt.out i e;omega) (fun i h e=>by
      rcases HB2w.out i h with h | h
      ·exact (HKSb.out i e).2.2 h
      ·have:=HKlt.out i e;omega)
     have HU9:Upd (fun i=>At A i∨At B0 i) w1 w9:=by
      refine Upd.trans (Upd.then_non (Upd.trans (Upd.trans (hu.then_non u5) u7 ?_) u8 ?_) hal) hu9 ?_
      ·intro i hi h;rcases h with h | h
       ·rcases HA1.out i h with h | h
        ·exact .inl h
        ·omega
       ·rcases HB1.out i h with h | h
        ·exact .inr h
        ·omega
      ·intro i hi h;omega
      ·intro i hi h;have:=(HKSb.out i h).1;omega
     have HN1:Hid ((L++[q'],vs2,ms2)=numL (p.kids.take (j+1)) vs msI):=by
      show _=_;rw [HNE.out,←Hq'.out,←Hvs2.out,←Hms2.out]
     have HN9:=h_ hn9;have HP9:=h_ hp9
     have HA9:Hid (∀i,At A2 i→At A i∨w1.heap.size≤i):=fun i h=>by
      rcases HA2w.out i h with h | h
      ·exact HA1.out i h
      ·exact .inr (by omega)
     have HB9:Hid (∀i,At B2 i→At B0 i∨w1.heap.size≤i):=fun i h=>by
      rcases HB2w.out i h with h | h
      ·exact HB1.out i h
      ·exact .inr (by omega)
     have HK9:Hid (∀i,At A9 i→w1.heap.size≤i∧¬At A2 i∧¬At B2 i):=fun i h=>by
      rcases hat9b i h with h | h
      ·have h1:=HKSb.out i h;have h2:=HKlt.out i h;refine ⟨h1.1,fun f=>?_,fun f=>?_⟩
       ·rcases HA2w.out i f with f | f
        ·exact h1.2.1 f
        ·omega
       ·rcases HB2w.out i f with f | f
        ·exact h1.2.2 f
        ·omega
      ·refine ⟨by omega,fun f=>?_,fun f=>?_⟩
       ·have:=Hn7l.out i (.inl f);omega
       ·have:=Hn7l.out i (.inr f);omega
     clear hn9 hp9 hpa ho9 hu9 hat9 hat9b ho8
     go_roundg (k - (j+1))
     case measure=>rw [Hg.out];omega
     case rel=>exact ⟨j+1,A2,c2,B2,d2,A9,c9,_,vs2,ms2,rfl,by omega,rfl,rfl,rfl,by go_num,HN1,HN9,HP9,HA9,HB9,HK9,HU9⟩
    ·obtain rfl:k=j:=by omega
     have HTK:Hid (p.kids.take k=p.kids):=List.take_of_length_le (by rw [Hk.out];exact Nat.le_refl _);rw [HTK.out] at HN;have t1:decide (k<k)=false:=by simp
     have hbox:∀i,At A i∨At B0 i→i≠w.heap.size∧i≠w.heap.size+1:=fun i h=>by
      rcases h with h | h
      ·have:=HAL.out _ h;omega
      ·rcases hat0.out _ h with h | h
       ·have:=HBL.out _ h;omega
       ·omega
     have hbr:=hb0.upd hu (fun h=>(hbox _ h).1 rfl);have hbR:=hbR0.upd hu (fun h=>(hbox _ h).2 rfl);have c4r:=hbr.cell 4;have f4r:=hbr.frozen 4;obtain ⟨X1,HX1⟩:=nm (wr.setCell ⟨w.heap.size,4,none⟩ (.slice KS k ks));have x1:=HX1.out;have hx1:Blk X1 w.heap.size 40 #[.int .i64 v,.int .i64 op,.int .i64 imm,.int .i64 iv1,.slice KS k ks]:=by rw [←x1];simpa using hbr.set_ 4 (.slice KS k ks)
     have v1:Upd (·=w.heap.size) wr X1:=by rw [←x1];exact updCell _ _ _ _
     have hxR:=hbR.upd v1 (by omega);have k0:=hx1.cell 0;have k1:=hx1.cell 1;have k2:=hx1.cell 2;have k3:=hx1.cell 3;have k4:=hx1.cell 4;have r0:=hxR.cell 0;have r1:=hxR.cell 1;have r2:=hxR.cell 2;have r3:=hxR.cell 3;have r4:=hxR.cell 4;have rf:=hxR.frozen;have HXR:=h_ hxR;have Hbox:=h_ hbox;clear hbox hxR hbr hbR hx1;go_wp2_with fail
     rw [set5_eq];refine bodyPost_ret (results_cell_row_tmps rfl _ _ (w.heap.size+1) 40 _ (0,0) _ rfl (set5_blk HXR.out _ _ _ _ _) Tryz.underlying40 rfl (by kernel_rfl)) rfl ?_
     have uS:=set5_upd X1 (w.heap.size+1) (.int .i64 v) (.int .i64 op) (.int .i64 imm) (.int .i64 iv1) (.slice KS k ks);obtain ⟨X2,HX2⟩:=nm (set5 X1 (w.heap.size+1) (.int .i64 v) (.int .i64 op) (.int .i64 imm) (.int .i64 iv1) (.slice KS k ks));rw [HX2.out] at uS ⊢;have UX:Upd (fun i=>i=w.heap.size∨i=w.heap.size+1) wr X2:=(v1.mono (fun _ _ h=>.inl h)).trans uS (fun _ _ h=>.inr h);have hlen:=numL_len p.kids vs msI;rw [←HN.out,Hk.out] at hlen;simp only at hlen;have hRe:R=(.mk v op imm iv1 L,vs1,ms1):=by rw [HR2.out,←HN.out]
     have hF0w:∀i,F0 i→i<w.heap.size:=fun i h=>by rw [HF0e.out] at h;exact h.2
     have hF0F:∀i,F0 i→F i:=fun i h=>by rw [HF0e.out] at h;exact h.1
     have hA1:∀i,At A1 i→i≠w.heap.size∧i≠w.heap.size+1:=fun i h=>by
      rcases HA1.out i h with h | h
      ·have:=HAL.out _ h;omega
      ·omega
     have hB1:∀i,At B1 i→(At B i∨w.heap.size+2≤i):=fun i h=>by
      rcases HB1.out i h with h | h
      ·exact hat0.out _ h
      ·exact .inr (by omega)
     have hB1n:∀i,At B1 i→i≠w.heap.size∧i≠w.heap.size+1:=fun i h=>by
      rcases hB1 i h with h | h
      ·have:=HBL.out _ h;omega
      ·omega
     have hpr:=HPO.out.mono (G':=fun i=>(F0 i∨w.heap.size+2≤i)∧¬At A1 i∧¬At B1 i) (fun _ _ h=>h)
     have hp2:=hpr.upd UX (fun i h e=>by have:=(HKS.out i h).1;omega) (fun i _ h e=>by
      rcases h.1 with h | h
      ·have:=hF0w i h;omega
      ·omega)
     rw [hRe];refine ⟨KS,ks,A1,c1,B1,d1,?_,?_,HNS1.out.upd UX (fun i h e=>by have:=hA1 i h;omega) (fun i h e=>by have:=hB1n i h;omega),fun i h=>?_,fun i h=>?_,?_⟩
     ·show _=Ending.returned (.tuple #[.agg #[_,_,_,_,.slice KS L.length ks],.slice _ vs1.length _,.slice _ ms1.length _]);rw [hlen];rfl
     ·exact hp2.view (fun i h=>⟨.inr (by have:=(HKS.out i h).1;omega),(HKS.out i h).2⟩) (fun i _ h=>⟨by
       rcases h.1 with h | h
       ·exact .inl (hF0F i h)
       ·exact .inr (by omega),h.2⟩) _ _ _ _
     ·rcases HA1.out i h with h | h
      ·exact .inl h
      ·exact .inr (by omega)
     ·rcases hB1 i h with h | h
      ·exact .inl h
      ·exact .inr (by omega)
     ·have h1:Upd (fun i=>At A i∨At B i) w w1:=(hU0.mono (fun _ _ f=>f.elim)).trans hu0 (fun i h e=>by
       rcases e with e | e
       ·exact .inr e
       ·omega)
      have h2:=h1.trans hu (fun i h e=>by
       rcases e with e | e
       ·exact .inl e
       ·rcases hat0.out i e with e | e
        ·exact .inr e
        ·omega)
      exact h2.trans UX (fun i h e=>by omega)
theorem NS.none_ (w:World):NS w none 0 [] none 0 []:=⟨Own.none_,Own.none_,fun _ h=>(At.none_ h).elim⟩
theorem Numbered_c (p:Pt) (w:World) (F:Nat→Prop) (KA:Option Addr) (kc:Nat) (hp:PtK w F p KA kc) (hs:p.size≤1000000) :
  Calls Tryz.prog 35 #[pv p KA kc] w fun e w'=>∃(KA':Option Addr) (kc':Nat),e=.returned (.tuple #[pv (numF p [] []).1 KA' kc',.int .i64 (numF p [] []).2.1.length,.int .i64 (numF p [] []).2.2.length]) ∧
   PtK w' (fun k=>F k∨w.heap.size≤k) (numF p [] []).1 KA' kc'∧Upd Non w w':=by
 have hp1:=PtK.mono (G:=fun k=>F k∧k<w.heap.size) (fun k hk h=>⟨h,hk⟩) p KA kc hp;obtain ⟨W,HW⟩:=nm (w.alloc (.cells #[.int .i64 p.v,.int .i64 p.op,.int .i64 p.imm,.int .i64 p.iv,.slice KA p.kids.length kc] 40));have hU:Upd Non w W:=by rw [←HW.out];exact Upd.refl.alloc _
 have hb:Blk W w.heap.size 40 #[.int .i64 p.v,.int .i64 p.op,.int .i64 p.imm,.int .i64 p.iv,.slice KA p.kids.length kc]:=by rw [←HW.out];exact Blk.new _ _ _
 have hsW:W.heap.size=w.heap.size+1:=by rw [←HW.out];simp
 obtain ⟨W2,HW2⟩:=nm (W.alloc (.cells #[.int .i64 0,.int .i64 0,.int .i64 0,.int .i64 0,.slice none 0 0] 40));have hU2:Upd Non W W2:=by rw [←HW2.out];exact Upd.refl.alloc _
 have hb2:Blk W2 (w.heap.size+1) 40 #[.int .i64 0,.int .i64 0,.int .i64 0,.int .i64 0,.slice none 0 0]:=by rw [←HW2.out,←hsW];exact Blk.new _ _ _
 have hsW2:W2.heap.size=w.heap.size+2:=by rw [←HW2.out];simp [hsW]
 have hb:=hb.upd hU2 (fun f=>f);have hU0:=hU.then_non hU2;have e0:=HW.out;have e2:=HW2.out;have hpW:=PtK.upd hU0 (fun _ _ _ f=>f) p KA kc hp1;have hls:=numF_len p [] [];have C:=h_ (numbered_c p W2 _ KA kc none 0 none 0 [] [] hpW (fun _ _=>⟨At.none_,At.none_⟩) (NS.none_ _) (by simpa using hs) (by simpa using hs));simp only [List.length_nil,Nat.zero_add] at hls;have c0:=hb.cell 0;have c1:=hb.cell 1;have c2:=hb.cell 2;have c3:=hb.cell 3;have c4:=hb.cell 4;have f0:=hb.frozen;unfold pv at C ⊢;go_enter Tryz.func35,Tryz.ntmps35;go_wp2_with fail
 refine C.out.mono ?_;rintro e w3 ⟨KA',kc',A',c',B',d',rfl,hp3,hn3,-,-,hu3⟩;obtain ⟨R,HR⟩:=nm (numF p [] []);rw [HR.out] at hp3 hn3 hls ⊢;unfold pv;obtain ⟨q,Hq⟩:=nm R.1;obtain ⟨a,Ha⟩:=nm R.2.1.length;obtain ⟨b,Hb⟩:=nm R.2.2.length;rw [Hq.out] at hp3 ⊢;rw [Ha.out,Hb.out];have ha:a≤1000000:=by rw [←Ha.out];omega
 have hbl:b≤1000000:=by rw [←Hb.out];omega
 have hu3s:=hu3.size;have hbx:=hb2.upd hu3 (fun h=>by rcases h with h | h <;> exact At.none_ h);clear hn3 hls c0 c1 c2 c3 c4 f0 hb2 C
 go_upto_region 2 with fail
 have hal:Upd Non w3 (w3.alloc (.cells #[.int .i64 q.v,.int .i64 q.op,.int .i64 q.imm,.int .i64 q.iv,.slice KA' q.kids.length kc'] 40)):=Upd.refl.alloc _;have b5:=Blk.new w3 40 #[.int .i64 q.v,.int .i64 q.op,.int .i64 q.imm,.int .i64 q.iv,.slice KA' q.kids.length kc'];obtain ⟨w5,Hw5⟩:=nm (w3.alloc (.cells #[.int .i64 q.v,.int .i64 q.op,.int .i64 q.imm,.int .i64 q.iv,.slice KA' q.kids.length kc'] 40));rw [Hw5.out] at hal b5 ⊢;have s4:=hal.size;have hbx:=hbx.upd hal (fun f=>f);have c0:=b5.cell 0;have c1:=b5.cell 1;have c2:=b5.cell 2;have c3:=b5.cell 3;have c4:=b5.cell 4;have r0:=hbx.cell 0;have r1:=hbx.cell 1;have r2:=hbx.cell 2;have r3:=hbx.cell 3;have r4:=hbx.cell 4;have rf:=hbx.frozen;have HB:=h_ hbx;have HP:=h_ hp3;clear hbx b5 hp3;go_wp2_with fail
 rw [set5_eq];refine bodyPost_ret (results_cell_row_tmps rfl _ _ (w.heap.size+1) 40 _ (0,0) _ rfl (set5_blk HB.out _ _ _ _ _) Tryz.underlying40 rfl (by kernel_rfl)) rfl ?_;have u6:=set5_upd w5 (w.heap.size+1) (.int .i64 q.v) (.int .i64 q.op) (.int .i64 q.imm) (.int .i64 q.iv) (.slice KA' q.kids.length kc');have s6:=u6.size;rw [HR.out,Hq.out,Ha.out,Hb.out];refine ⟨KA',kc',rfl,?_,?_⟩
 ·exact PtK.mono (fun k _ h=>by rcases h with h | h;exact .inl h.1;exact .inr (by omega)) _ _ _ (PtK.upd u6 (fun k hk h e=>by omega) _ _ _ (PtK.upd hal (fun _ _ _ f=>f) _ _ _ (PtK.mono (G:=fun k=>(F k∧k<w.heap.size)∨w.heap.size+2≤k) (fun k hk h=>by rcases h.1 with h | h;exact .inl h;exact .inr (by omega)) _ _ _ HP.out)))
 ·have h1:=(hU0.then_non (hu3.mono (fun _ _ h=>by rcases h with h | h <;> exact (At.none_ h).elim))).then_non hal;exact h1.trans u6 (fun k hk h=>by omega)
end Go.Proofs.YtblkgjdhaibhgaaGreat
