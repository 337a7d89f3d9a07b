/-
  Lemmas and walks that the claim rests on, part 4 (packed by a program).
-/
import Derived.Test.YtdbjgihnngigeaaE1
import Derived.Test.YtdbjgihnngigeaaE3
import Derived.Test.YtdbjgihnngigeaaE2
import Derived.Shelf.GgSortFunc.Whole
import Derived.Shelf.GgSortFunc.Tiny
import Derived.Lib.SortBridge
import Derived.Lib.RowBridge
namespace Go.Proofs.Ytdbjgihnngigeaa
open Go.RowKit
theorem nm_cases (x:Int):(97≤x∧x≤122)∨(48≤x∧x≤57)∨x=45∨(x<48∧x≠45)∨(57<x∧x<97)∨122<x:=by omega
theorem all_take {s:ByteArray} {k:Nat} (hk:k<s.size) (h:((kx s).take k).all nmCh=true) (c:nmCh ((kx s).getD k 0)=true):((kx s).take (k+1)).all nmCh=true:=by
 have hl:k<(kx s).length:=by rw [kx_len];exact hk
 rw [List.take_add_one,List.getElem?_eq_getElem hl,List.all_append,h];rw [getD_of hl] at c;simp [c]
theorem all_bad {s:ByteArray} {k:Nat} (hk:k<s.size) (c:nmCh ((kx s).getD k 0)=false):nameF s=false:=by
 have hl:k<(kx s).length:=by rw [kx_len];exact hk
 rw [getD_of hl] at c;unfold nameF
 have : s.data.toList.all nmCh=false:=by
  rw [Bool.eq_false_iff];intro h;rw [List.all_eq_true] at h;have:=h _ (List.getElem_mem hl);rw [c] at this;cases this
 rw [this];rfl
theorem all_ok {s:ByteArray} (h:((kx s).take s.size).all nmCh=true):nameF s=decide (1≤s.size∧s.size≤16):=by
 have hl:(kx s).length≤s.size:=by rw [kx_len];exact Nat.le_refl _
 rw [List.take_of_length_le hl] at h;unfold nameF;rw [show s.data.toList.all nmCh=true from h];rfl
set_option maxRecDepth 100000 in
set_option maxHeartbeats 4000000 in
theorem rlValidName_c (s:ByteArray) (w:World) (hs:s.size≤1000000000000000):Calls Try.prog 47 #[.string s] w fun e w'=>e=.returned (.bool (nameF s))∧∃n,w'=w.drewN n:=by
 obtain ⟨n,Hn⟩:=nm s.size;rw [Hn.out] at hs;have hsn:=Hn.out;obtain ⟨R,HR⟩:=nm (nameF s);rw [HR.out];go_enter Try.func47,Try.ntmps47;go_wp2_with fail
 go_loopg [3,4] n (fun g i _ wr=>∃k:Nat,Hid (g=n - k)∧k≤n∧i=.int .i64 k∧Hid (((kx s).take k).all nmCh=true)∧∃q,wr=w.drewN q)
 case atStart=>exact ⟨0,rfl,by omega,rfl,by show _=_;simp,0,rfl⟩
 case round =>
  obtain ⟨k,Hg,hk,rfl,HA,n1,rfl⟩:=hrel;by_cases hlt:k<n
  ·have hks:k<s.size:=by rw [Hn.out];exact hlt
   have HOK:=h_ (fun c=>all_take hks HA.out c);have HBAD:=h_ (fun c=>@all_bad s k hks c);rw [HR.out] at HBAD;have hkl:k<(kx s).length:=by rw [kx_len];exact hks
   rw [getD_of hkl,show (kx s)[k]=s[k]'hks from rfl] at HOK HBAD;have HNC:Hid (nmCh (s[k]'hks)=decide (97≤(s[k]'hks).toNat∧(s[k]'hks).toNat≤122∨48≤(s[k]'hks).toNat∧(s[k]'hks).toNat≤57∨(s[k]'hks).toNat=45)):=rfl
   obtain ⟨x,Hx⟩:=nm (((s[k]'hks).toNat:Nat):Int);have HX:=Hx.out;rcases nm_cases x with hc | hc | hc | hc | hc | hc
   ·have f1:decide ((((s[k]'hks).toNat:Nat):Int)<97)=false:=by rw [Hx.out];exact dF_ (by omega)
    have f2:decide (122<(((s[k]'hks).toNat:Nat):Int))=false:=by rw [Hx.out];exact dF_ (by omega)
    have hok:nmCh (s[k]'hks)=true:=by rw [HNC.out,decide_eq_true_eq];omega
    have HOK2:=h_ (HOK.out hok);clear hok;clear hc HX;go_wp2_with fail
    go_roundg (n - (k+1))
    case measure=>rw [Hg.out];omega
    case rel=>exact ⟨k+1,rfl,by omega,by go_num,HOK2.out,_,rfl⟩
   ·have f1:decide ((((s[k]'hks).toNat:Nat):Int)<97)=true:=by rw [Hx.out];exact dT_ (by omega)
    have f3:decide ((((s[k]'hks).toNat:Nat):Int)<48)=false:=by rw [Hx.out];exact dF_ (by omega)
    have f4:decide (57<(((s[k]'hks).toNat:Nat):Int))=false:=by rw [Hx.out];exact dF_ (by omega)
    have hok:nmCh (s[k]'hks)=true:=by rw [HNC.out,decide_eq_true_eq];omega
    have HOK2:=h_ (HOK.out hok);clear hok;clear hc HX;go_wp2_with fail
    go_roundg (n - (k+1))
    case measure=>rw [Hg.out];omega
    case rel=>exact ⟨k+1,rfl,by omega,by go_num,HOK2.out,_,rfl⟩
   ·have f1:decide ((((s[k]'hks).toNat:Nat):Int)<97)=true:=by rw [Hx.out];exact dT_ (by omega)
    have f3:decide ((((s[k]'hks).toNat:Nat):Int)<48)=true:=by rw [Hx.out];exact dT_ (by omega)
    have f5:((((s[k]'hks).toNat:Nat):Int) != 45)=false:=by rw [Hx.out];simp [hc]
    have hok:nmCh (s[k]'hks)=true:=by rw [HNC.out,decide_eq_true_eq];omega
    have HOK2:=h_ (HOK.out hok);clear hok;clear hc HX;go_wp2_with fail
    go_roundg (n - (k+1))
    case measure=>rw [Hg.out];omega
    case rel=>exact ⟨k+1,rfl,by omega,by go_num,HOK2.out,_,rfl⟩
   ·have f1:decide ((((s[k]'hks).toNat:Nat):Int)<97)=true:=by rw [Hx.out];exact dT_ (by omega)
    have f3:decide ((((s[k]'hks).toNat:Nat):Int)<48)=true:=by rw [Hx.out];exact dT_ (by omega)
    have f5:((((s[k]'hks).toNat:Nat):Int) != 45)=true:=by rw [Hx.out];simp;omega
    have hbad:nmCh (s[k]'hks)=false:=by rw [HNC.out,decide_eq_false_iff_not];omega
    have HB:=h_ (HBAD.out hbad);clear hbad;clear hc HX;go_wp2_with fail
    go_ret;exact ⟨by rw [HB.out];rfl,_,rfl⟩
   ·have f1:decide ((((s[k]'hks).toNat:Nat):Int)<97)=true:=by rw [Hx.out];exact dT_ (by omega)
    have f3:decide ((((s[k]'hks).toNat:Nat):Int)<48)=false:=by rw [Hx.out];exact dF_ (by omega)
    have f4:decide (57<(((s[k]'hks).toNat:Nat):Int))=true:=by rw [Hx.out];exact dT_ (by omega)
    have f5:((((s[k]'hks).toNat:Nat):Int) != 45)=true:=by rw [Hx.out];simp;omega
    have hbad:nmCh (s[k]'hks)=false:=by rw [HNC.out,decide_eq_false_iff_not];omega
    have HB:=h_ (HBAD.out hbad);clear hbad;clear hc HX;go_wp2_with fail
    go_ret;exact ⟨by rw [HB.out];rfl,_,rfl⟩
   ·have f1:decide ((((s[k]'hks).toNat:Nat):Int)<97)=false:=by rw [Hx.out];exact dF_ (by omega)
    have f2:decide (122<(((s[k]'hks).toNat:Nat):Int))=true:=by rw [Hx.out];exact dT_ (by omega)
    have f3:decide ((((s[k]'hks).toNat:Nat):Int)<48)=false:=by rw [Hx.out];exact dF_ (by omega)
    have f4:decide (57<(((s[k]'hks).toNat:Nat):Int))=true:=by rw [Hx.out];exact dT_ (by omega)
    have f5:((((s[k]'hks).toNat:Nat):Int) != 45)=true:=by rw [Hx.out];simp;omega
    have hbad:nmCh (s[k]'hks)=false:=by rw [HNC.out,decide_eq_false_iff_not];omega
    have HB:=h_ (HBAD.out hbad);clear hbad;clear hc HX;go_wp2_with fail
    go_ret;exact ⟨by rw [HB.out];rfl,_,rfl⟩
  ·obtain rfl:n=k:=by omega
   have HRE:Hid (R=decide (1≤n∧n≤16)):=by
    have:=HA.out;rw [←Hn.out] at this;show _=_;rw [←HR.out,all_ok this,Hn.out]
   by_cases h1:1≤n
   ·have f1:decide ((1:Int)≤(n:Int))=true:=dT_ (by omega);by_cases h2:n≤16
    ·have f2:decide ((n:Int)≤16)=true:=dT_ (by omega);have HR2:Hid (R=true):=by show _=_;rw [HRE.out];exact dT_ ⟨h1,h2⟩
     clear h1 h2;go_wp2_with fail
     go_ret;exact ⟨by rw [HR2.out];rfl,_,rfl⟩
    ·have f2:decide ((n:Int)≤16)=false:=dF_ (by omega);have HR2:Hid (R=false):=by show _=_;rw [HRE.out];exact dF_ (by omega)
     clear h1 h2;go_wp2_with fail
     go_ret;exact ⟨by rw [HR2.out];rfl,_,rfl⟩
   ·have f1:decide ((1:Int)≤(n:Int))=false:=dF_ (by omega);have HR2:Hid (R=false):=by show _=_;rw [HRE.out];exact dF_ (by omega)
    clear h1;go_wp2_with fail
    go_ret;exact ⟨by rw [HR2.out];rfl,_,rfl⟩
set_option maxRecDepth 100000 in
set_option maxHeartbeats 4000000 in
theorem rlVC1_c (n:Int) (b:Nat) (ss:List Int) (A:Option Addr) (c:Nat) (F:Nat→Prop) (w:World) (hb:w.cell? ⟨b,0,none⟩=some (.slice A ss.length c)) (hs:Ints w F A ss) :
  Calls Try.prog 76 #[.int .i64 n,.pointer (some ⟨b,0,none⟩)] w fun e w'=>e=.returned (.bool (isValF ss n))∧w=w':=by
 obtain ⟨l,Hl⟩:=nm ss.length;obtain ⟨R,HR⟩:=nm (isValF ss n);have HD:Hid (R=decide (1≤n∧n<(l:Int)∧ss.getD n.toNat 0=1)):=by show _=_;rw [←HR.out,←Hl.out];rfl
 rw [Hl.out] at hb;rw [HR.out];by_cases h1:1≤n
 ·have f1:decide ((1:Int)≤n)=true:=dT_ h1;by_cases h2:n<(l:Int)
  ·have f2:decide (n<(l:Int))=true:=dT_ h2;obtain ⟨j,rfl⟩:∃j:Nat,n=(j:Int):=Int.eq_ofNat_of_zero_le (by omega);have hj:j<ss.length:=by rw [Hl.out];omega
   obtain ⟨g,o,rfl,_,_,hx⟩:=hs.at_ hj;have HE:Hid (R=decide (ss[j]=1)):=by show _=_;rw [HD.out,Int.toNat_natCast,getD_of hj];simp [h1,h2]
   generalize ss[j]=x at *;clear h1;go_enter Try.func76,Try.ntmps76;go_wp2_with fail
   go_ret;refine ⟨?_,rfl⟩;rw [HE.out];show Ending.returned (Value.bool _)=_
   congr 2
  ·have f2:decide (n<(l:Int))=false:=dF_ h2;have HE:Hid (R=false):=by show _=_;rw [HD.out];exact dF_ (fun q=>h2 q.2.1)
   clear h1 h2;go_enter Try.func76,Try.ntmps76;go_wp2_with fail
   go_ret;exact ⟨by rw [HE.out];rfl,rfl⟩
 ·have f1:decide ((1:Int)≤n)=false:=dF_ h1;have HE:Hid (R=false):=by show _=_;rw [HD.out];exact dF_ (fun q=>h1 q.1)
  clear h1;go_enter Try.func76,Try.ntmps76;go_wp2_with fail
  go_ret;exact ⟨by rw [HE.out];rfl,rfl⟩
set_option maxRecDepth 100000 in
set_option maxHeartbeats 4000000 in
theorem rlVC2_c (n m:Int) (b:Nat) (w:World) (hb:w.cell? ⟨b,0,none⟩=some (.int .i64 m)) :
  Calls Try.prog 77 #[.int .i64 n,.pointer (some ⟨b,0,none⟩)] w fun e w'=>e=.returned (.bool (isImmF m n))∧w=w':=by
 obtain ⟨R,HR⟩:=nm (isImmF m n);have HD:Hid (R=decide (1≤n∧n≤m)):=by show _=_;rw [←HR.out];rfl
 rw [HR.out];by_cases h1:1≤n
 ·have f1:decide ((1:Int)≤n)=true:=dT_ h1;have HE:Hid (R=decide (n≤m)):=by show _=_;rw [HD.out];simp [h1]
  clear h1;go_enter Try.func77,Try.ntmps77;go_wp2_with fail
  go_ret;exact ⟨by rw [HE.out];rfl,rfl⟩
 ·have f1:decide ((1:Int)≤n)=false:=dF_ h1;have HE:Hid (R=false):=by show _=_;rw [HD.out];exact dF_ (fun q=>h1 q.1)
  clear h1;go_enter Try.func77,Try.ntmps77;go_wp2_with fail
  go_ret;exact ⟨by rw [HE.out];rfl,rfl⟩
set_option maxRecDepth 100000 in
set_option maxHeartbeats 4000000 in
theorem rlValidCond_c (x:Cd) (ss:List Int) (m:Int) (A:Option Addr) (c:Nat) (F:Nat→Prop) (w:World) (hs:Ints w F A ss) :
  Calls Try.prog 50 #[.agg #[.int .i64 x.kind,.int .i64 x.a,.int .i64 x.b,.int .i64 x.n],.slice A ss.length c,.int .i64 m] w fun e w'=>e=.returned (.bool (condF x ss m))∧Upd Non w w':=by
 obtain ⟨k,a,b,n⟩:=x;dsimp only;obtain ⟨W1,HW1⟩:=nm (w.alloc (.cells #[.int .i64 k,.int .i64 a,.int .i64 b,.int .i64 n] 75));obtain ⟨W2,HW2⟩:=nm (W1.alloc (.cells #[.slice A ss.length c] 35));obtain ⟨W3,HW3⟩:=nm (W2.alloc (.cells #[.int .i64 m] 3));have u1:Upd Non w W1:=by rw [←HW1.out];exact Upd.refl.alloc _
 have u2:Upd Non W1 W2:=by rw [←HW2.out];exact Upd.refl.alloc _
 have u3:Upd Non W2 W3:=by rw [←HW3.out];exact Upd.refl.alloc _
 have s1:W1.heap.size=w.heap.size+1:=by rw [←HW1.out];simp
 have s2:W2.heap.size=w.heap.size+2:=by rw [←HW2.out];simp [s1]
 have b1:Blk W1 w.heap.size 75 #[.int .i64 k,.int .i64 a,.int .i64 b,.int .i64 n]:=by rw [←HW1.out];exact Blk.new _ _ _
 have b2:Blk W2 (w.heap.size+1) 35 #[.slice A ss.length c]:=by rw [←HW2.out,←s1];exact Blk.new _ _ _
 have b3:Blk W3 (w.heap.size+2) 3 #[.int .i64 m]:=by rw [←HW3.out,←s2];exact Blk.new _ _ _
 have b2:=b2.upd u3 (fun f=>f);have b1:=(b1.upd u2 (fun f=>f)).upd u3 (fun f=>f);have e1:=HW1.out;have e2:=HW2.out;have e3:=HW3.out;have U:Upd Non w W3:=(u1.then_non u2).then_non u3;have hs:=hs.upd U (fun _ _ _ f=>f);have CV:=h_ (fun n=>rlVC1_c n (w.heap.size+1) ss A c F W3 (b2.cell 0) hs);have CM:=h_ (fun n=>rlVC2_c n m (w.heap.size+2) W3 (b3.cell 0));have c0:=b1.cell 0;have c1:=b1.cell 1;have c2:=b1.cell 2;have c3:=b1.cell 3;have hmf:∀(fn:Fn) (first cap:Array Value) (w:World),(Instr.makeFunc fn first cap).run Try.prog w=.ok (.func fn first cap) w:=fun _ _ _ _=>rfl
 obtain ⟨l,Hl⟩:=nm ss.length;rw [Hl.out] at e2;rw [Hl.out];obtain ⟨R,HR⟩:=nm (condF ⟨k,a,b,n⟩ ss m);rw [HR.out];have HR1:Hid (R=condF ⟨k,a,b,n⟩ ss m):=HR.out.symm;unfold condF at HR1;dsimp only at HR1;obtain ⟨va,Hva⟩:=nm (isValF ss a);obtain ⟨vb,Hvb⟩:=nm (isValF ss b);obtain ⟨ia,Hia⟩:=nm (isImmF m a);obtain ⟨ib,Hib⟩:=nm (isImmF m b);have CVa:=h_ (CV.out a);have CVb:=h_ (CV.out b);have CMa:=h_ (CM.out a);have CMb:=h_ (CM.out b);rw [Hva.out] at HR1 CVa;rw [Hvb.out] at HR1 CVb;rw [Hia.out] at HR1 CMa;rw [Hib.out] at HR1 CMb;clear CV CM b1 b2 b3 hs HR u1 u2 u3;obtain ⟨tb,ftb⟩:∃t,(b==0)=t:=⟨_,rfl⟩;obtain ⟨tn,ftn⟩:∃t,(n==0)=t:=⟨_,rfl⟩;obtain ⟨tab,ftab⟩:∃t,(a != b)=t:=⟨_,rfl⟩;have gtb:decide (b=0)=tb:=by rw [←ftb,Bool.eq_iff_iff];simp
 have gtn:decide (n=0)=tn:=by rw [←ftn,Bool.eq_iff_iff];simp
 have gtab:decide (a≠b)=tab:=by rw [←ftab,Bool.eq_iff_iff];simp
 rw [gtb,gtn,gtab] at HR1;clear gtb gtn gtab;by_cases h1:k=1
 ·subst h1;have HE0:Hid (R=(va&&tb&&tn)):=HR1.out;go_enter Try.func50,Try.ntmps50;go_wp2_with fail
  refine CVa.out.mono ?_;rintro e w5 ⟨rfl,rfl⟩
  cases va with
  | false =>
   have HE:Hid (R=false):=HE0.out;go_wp2_with fail
   go_ret;exact ⟨by rw [HE.out];rfl,U⟩
  | true =>
   cases tb with
   | false =>
    have HE:Hid (R=false):=HE0.out;go_wp2_with fail
    go_ret;exact ⟨by rw [HE.out];rfl,U⟩
   | true =>
    have HE:Hid (R=tn):=HE0.out;go_wp2_with fail
    go_ret;exact ⟨by rw [HE.out];rfl,U⟩
 ·by_cases h2:k=2∨k=3
  ·have HE0:Hid (R=(va&&tb)):=by have:=HR1.out;rw [if_neg h1,if_pos h2] at this;exact this
   rcases h2 with rfl | rfl
   ·go_enter Try.func50,Try.ntmps50;go_wp2_with fail
    refine CVa.out.mono ?_;rintro e w5 ⟨rfl,rfl⟩
    cases va with
    | false =>
     have HE:Hid (R=false):=HE0.out;go_wp2_with fail
     go_ret;exact ⟨by rw [HE.out];rfl,U⟩
    | true =>
     have HE:Hid (R=tb):=HE0.out;go_wp2_with fail
     go_ret;exact ⟨by rw [HE.out];rfl,U⟩
   ·go_enter Try.func50,Try.ntmps50;go_wp2_with fail
    refine CVa.out.mono ?_;rintro e w5 ⟨rfl,rfl⟩
    cases va with
    | false =>
     have HE:Hid (R=false):=HE0.out;go_wp2_with fail
     go_ret;exact ⟨by rw [HE.out];rfl,U⟩
    | true =>
     have HE:Hid (R=tb):=HE0.out;go_wp2_with fail
     go_ret;exact ⟨by rw [HE.out];rfl,U⟩
  ·have HR2:=HR1.out;rw [if_neg h1,if_neg h2] at HR2;have t1:(k==1)=false:=by simpa using h1
   have t2:(k==2)=false:=by simp;omega
   have t3:(k==3)=false:=by simp;omega
   have HR1:=h_ HR2;clear HR2 h1 h2;by_cases h4:k=4
   ·subst h4;have HE0:Hid (R=(va&&vb&&tab&&tn)):=HR1.out;go_enter Try.func50,Try.ntmps50;go_wp2_with fail
    refine CVa.out.mono ?_;rintro e w5 ⟨rfl,rfl⟩
    cases va with
    | false =>
     have HE:Hid (R=false):=HE0.out;go_wp2_with fail
     go_ret;exact ⟨by rw [HE.out];rfl,U⟩
    | true =>
     go_wp2_with fail
     refine CVb.out.mono ?_;rintro e w5 ⟨rfl,rfl⟩
     cases vb with
     | false =>
      have HE:Hid (R=false):=HE0.out;go_wp2_with fail
      go_ret;exact ⟨by rw [HE.out];rfl,U⟩
     | true =>
      cases tab with
      | false =>
       have HE:Hid (R=false):=HE0.out;go_wp2_with fail
       go_ret;exact ⟨by rw [HE.out];rfl,U⟩
      | true =>
       have HE:Hid (R=tn):=HE0.out;go_wp2_with fail
       go_ret;exact ⟨by rw [HE.out];rfl,U⟩
   ·have HR2:=HR1.out;rw [if_neg h4] at HR2;have t4:(k==4)=false:=by simpa using h4
    have HR1:=h_ HR2;clear HR2 h4;by_cases h5:k=5
    ·subst h5;have HE0:Hid (R=(va&&ib&&tn)):=HR1.out;go_enter Try.func50,Try.ntmps50;go_wp2_with fail
     refine CVa.out.mono ?_;rintro e w5 ⟨rfl,rfl⟩
     cases va with
     | false =>
      have HE:Hid (R=false):=HE0.out;go_wp2_with fail
      go_ret;exact ⟨by rw [HE.out];rfl,U⟩
     | true =>
      go_wp2_with fail
      refine CMb.out.mono ?_;rintro e w5 ⟨rfl,rfl⟩
      cases ib with
      | false =>
       have HE:Hid (R=false):=HE0.out;go_wp2_with fail
       go_ret;exact ⟨by rw [HE.out];rfl,U⟩
      | true =>
       have HE:Hid (R=tn):=HE0.out;go_wp2_with fail
       go_ret;exact ⟨by rw [HE.out];rfl,U⟩
    ·have HR2:=HR1.out;rw [if_neg h5] at HR2;have t5:(k==5)=false:=by simpa using h5
     have HR1:=h_ HR2;clear HR2 h5;by_cases h6:k=6
     ·subst h6;have HE0:Hid (R=(ia&&ib&&tab&&tn)):=HR1.out;go_enter Try.func50,Try.ntmps50;go_wp2_with fail
      refine CMa.out.mono ?_;rintro e w5 ⟨rfl,rfl⟩
      cases ia with
      | false =>
       have HE:Hid (R=false):=HE0.out;go_wp2_with fail
       go_ret;exact ⟨by rw [HE.out];rfl,U⟩
      | true =>
       go_wp2_with fail
       refine CMb.out.mono ?_;rintro e w5 ⟨rfl,rfl⟩
       cases ib with
       | false =>
        have HE:Hid (R=false):=HE0.out;go_wp2_with fail
        go_ret;exact ⟨by rw [HE.out];rfl,U⟩
       | true =>
        cases tab with
        | false =>
         have HE:Hid (R=false):=HE0.out;go_wp2_with fail
         go_ret;exact ⟨by rw [HE.out];rfl,U⟩
        | true =>
         have HE:Hid (R=tn):=HE0.out;go_wp2_with fail
         go_ret;exact ⟨by rw [HE.out];rfl,U⟩
     ·have HR2:=HR1.out;rw [if_neg h6] at HR2;have t6:(k==6)=false:=by simpa using h6
      have HE:=h_ HR2;clear HR2 h6;go_enter Try.func50,Try.ntmps50;go_wp2_with fail
      go_ret;exact ⟨by rw [HE.out];rfl,U⟩
theorem rl_cells {w:World} {b:Nat} {t:TypeId} {r:Rl} {a:RlA} (h:Blk w b t (rlCells r a)) :
  w.cell? ⟨b,0,none⟩=some (.string r.name)∧w.cell? ⟨b,1,none⟩=some (.int .i64 r.l.v)∧w.cell? ⟨b,2,none⟩=some (.int .i64 r.l.op)∧w.cell? ⟨b,3,none⟩=some (.int .i64 r.l.imm)∧w.cell? ⟨b,4,none⟩=some (.int .i64 r.l.iv)∧w.cell? ⟨b,5,none⟩=some (.slice a.la r.l.kids.length a.lc) ∧
  w.cell? ⟨b,6,none⟩=some (.int .i64 r.r.v)∧w.cell? ⟨b,7,none⟩=some (.int .i64 r.r.op)∧w.cell? ⟨b,8,none⟩=some (.int .i64 r.r.imm)∧w.cell? ⟨b,9,none⟩=some (.int .i64 r.r.iv)∧w.cell? ⟨b,10,none⟩=some (.slice a.ra r.r.kids.length a.rc) ∧
  w.cell? ⟨b,11,none⟩=some (.slice a.ca r.conds.length a.cc)∧w.cell? ⟨b,12,none⟩=some (.int .i64 r.vars)∧w.cell? ⟨b,13,none⟩=some (.int .i64 r.imms):=by
 refine ⟨?_,?_,?_,?_,?_,?_,?_,?_,?_,?_,?_,?_,?_,?_⟩ <;> (rw [h.cell];rfl)
theorem VBlk.ints {w:World} {g:Nat} {vs:List Int} (h:VBlk w g vs):Ints w (fun _=>True) (some ⟨g,0,none⟩) vs:=by
 have:=Sl.of_blk (F:=fun _=>True) trivial h vs.length;unfold Ints
 have e:(icells vs).toArray.toList.take vs.length=icells vs:=by
  rw [List.take_of_length_le (by simp [icells])]
 rw [e] at this;exact this
structure RlSz (x:Rl):Prop where
 l:x.l.size≤1000000000000
 r:x.r.size≤1000000000000
 c:x.conds.length≤1000000000000
 n:x.name.size≤1000000000000000
theorem VBlk.new (w:World) (n:Nat):VBlk (w.alloc (.cells (Array.replicate n (.int .i64 0)) 3)) w.heap.size (List.replicate n 0):=by
 unfold VBlk;rw [show (icells (List.replicate n 0)).toArray=Array.replicate n (.int .i64 0) by simp [icells]];exact Blk.new _ _ _
set_option maxRecDepth 100000 in
set_option maxHeartbeats 4000000 in
theorem rlValid_c (r:Rl) (a:RlA) (F:Nat→Prop) (w:World) (hk:RlK w F r a) (hz:RlSz r) :
  Calls Try.prog 30 #[rlv r a] w fun e w'=>e=.returned (.bool (implF r))∧Upd Non w w':=by
 obtain ⟨W,HW⟩:=nm (w.alloc (.cells (rlCells r a) 28));have hU:Upd Non w W:=by rw [←HW.out];exact Upd.refl.alloc _
 have hb:Blk W w.heap.size 28 (rlCells r a):=by rw [←HW.out];exact Blk.new _ _ _
 have hsz:W.heap.size=w.heap.size+1:=by rw [←HW.out];simp
 have e0:=HW.out;have hK:=(hk.mono (G:=fun k=>k<w.heap.size) (fun _ h _=>h)).upd hU (fun _ _ _ f=>f);have HC:=h_ (fun (w':World) (u:Upd Non W w')=>rl_cells (hb.upd u (fun f=>f)));obtain ⟨c0,c1,c2,c3,c4,c5,c6,c7,c8,c9,c10,c11,c12,c13⟩:=HC.out W Upd.refl;have CL:=h_ (ptValid_c r.l W _ a.la a.lc r.vars r.imms hK.l hz.l);have CR:=h_ (fun (w':World) (u:Upd Non W w')=>ptValid_c r.r w' _ a.ra a.rc r.vars r.imms (PtK.upd u (fun _ _ _ f=>f) _ _ _ hK.r) hz.r);have CN:=h_ (fun w'=>rlValidName_c r.name w' hz.n);have HZ:=h_ hz;have HK:=h_ hK;unfold pv at CL CR;unfold rlv;unfold rlCells at e0 ⊢;obtain ⟨R,HR⟩:=nm (implF r);rw [HR.out];have HR1:Hid (R=(decide (r.l.v=0)&&validF r.l r.vars r.imms&&validF r.r r.vars r.imms&&nameF r.name&&decide (r.conds.length≤6)&&implG r)):=HR.out.symm
 have HVL:Hid (∀b,validF r.l r.vars r.imms=b→validF r.l r.vars r.imms=b):=fun _ h=>h
 obtain ⟨vl,Hvl⟩:=nm (validF r.l r.vars r.imms);obtain ⟨vr,Hvr⟩:=nm (validF r.r r.vars r.imms);obtain ⟨vn,Hvn⟩:=nm (nameF r.name);rw [Hvl.out] at CL HR1;rw [Hvr.out] at CR HR1;rw [Hvn.out] at CN HR1;clear hk hz hK HR HVL hb;by_cases hv:r.l.v=0
 ·have t1:(r.l.v != 0)=false:=by simp [hv]
  have HR2:Hid (R=(vl&&vr&&vn&&decide (r.conds.length≤6)&&implG r)):=by show _=_;rw [HR1.out,dT_ hv];simp
  have HLV:=h_ hv;clear hv HR1;go_enter Try.func30,Try.ntmps30;go_wp2_with fail
  refine CL.out.mono ?_;rintro e w1 ⟨rfl,u1⟩;have HU:=hU.then_non u1;obtain ⟨c0,c1,c2,c3,c4,c5,c6,c7,c8,c9,c10,c11,c12,c13⟩:=HC.out _ u1
  cases vl with
  | false =>
   have HF:Hid (R=false):=HR2.out;go_wp2_with fail
   go_ret;exact ⟨by rw [HF.out];rfl,HU⟩
  | true =>
   go_wp2_with fail
   refine (CR.out _ u1).mono ?_;rintro e w2 ⟨rfl,u2'⟩;have u2:=u1.then_non u2';have HU:=hU.then_non u2;obtain ⟨c0,c1,c2,c3,c4,c5,c6,c7,c8,c9,c10,c11,c12,c13⟩:=HC.out _ u2
   cases vr with
   | false =>
    have HF:Hid (R=false):=HR2.out;go_wp2_with fail
    go_ret;exact ⟨by rw [HF.out];rfl,HU⟩
   | true =>
    go_wp2_with fail
    refine (CN.out _).mono ?_;rintro e w3 ⟨rfl,q3,rfl⟩;have u3:Upd Non W (w2.drewN q3):=u2.drewN _;have HU:=hU.then_non u3;obtain ⟨w3,Hw3⟩:=nm (w2.drewN q3);rw [Hw3.out] at u3 HU ⊢;obtain ⟨c0,c1,c2,c3,c4,c5,c6,c7,c8,c9,c10,c11,c12,c13⟩:=HC.out _ u3
    cases vn with
    | false =>
     have HF:Hid (R=false):=HR2.out;go_wp2_with fail
     go_ret;exact ⟨by rw [HF.out];rfl,HU⟩
    | true =>
     by_cases h6:r.conds.length≤6
     ·have t2:decide ((6:Int)<(r.conds.length:Int))=false:=dF_ (by omega);have HR3:Hid (R=implG r):=by show _=_;rw [HR2.out,dT_ h6];rfl
      have H6:=h_ h6;clear h6 HR2 CL CR CN
      obtain ⟨hvl,hshl⟩:(0≤r.vars∧r.vars≤6∧0≤r.imms∧r.imms≤6)∧shp r.l 0 r.imms r.vars.toNat=true:=by
       have h:=Hvl.out;unfold validF at h;simp only [Bool.and_eq_true,decide_eq_true_eq] at h;obtain ⟨v1,a1,_⟩:=vPt_fst.1 h.2;rw [List.length_replicate] at a1;exact ⟨by omega,a1⟩
      have hshr:shp r.r 0 r.imms r.vars.toNat=true:=by
       have h:=Hvr.out;unfold validF at h;simp only [Bool.and_eq_true,decide_eq_true_eq] at h;obtain ⟨v1,a1,_⟩:=vPt_fst.1 h.2;rw [List.length_replicate] at a1;exact a1
      have HSL:=h_ hshl;have HSR:=h_ hshr;obtain ⟨n,Hn⟩:∃n:Nat,Hid (r.vars=(n:Int)):=Int.eq_ofNat_of_zero_le hvl.1;obtain ⟨m,Hm⟩:∃m:Nat,Hid (r.imms=(m:Int)):=Int.eq_ofNat_of_zero_le hvl.2.2.1;have hn6:n≤6:=by have:=Hn.out;omega
      have hm6:m≤6:=by have:=Hm.out;omega
      obtain ⟨N,HN⟩:=nm (n+1);obtain ⟨M,HM⟩:=nm (m+1);have hN7:N≤7:=by rw [←HN.out];omega
      have hM7:M≤7:=by rw [←HM.out];omega
      have hwN:IntKind.i64.wrap ((n:Int)+1)=(N:Int):=by rw [i64w_of (by unfold I64;omega),←HN.out];omega
      have hwM:IntKind.i64.wrap ((m:Int)+1)=(M:Int):=by rw [i64w_of (by unfold I64;omega),←HM.out];omega
      have mkN:=run_mk T_ints' zero_int_ rfl N (by omega) (by omega);have mkM:=run_mk T_ints' zero_int_ rfl M (by omega) (by omega);rw [Hn.out] at c12;rw [Hm.out] at c13;clear hvl hshl hshr
      go_upto_region 3 with fail
      go_cut [3,4] (fun v i wx=>∃gv gi:Nat,v=.slice (some ⟨gv,0,none⟩) N N∧i=.slice (some ⟨gi,0,none⟩) M M∧VBlk wx gv (List.replicate N 0)∧VBlk wx gi (List.replicate M 0)∧gv≠gi∧W.heap.size≤gv∧W.heap.size≤gi∧Upd Non W wx)
      case first =>
       obtain ⟨wD,HwD⟩:=nm w3.drew;have uD:Upd Non w3 wD:=by rw [←HwD.out];exact Upd.refl.drew
       have vD:=u3.then_non uD;have hsD:=vD.size;refine wp_region_held_drew (S:=fun w'=>w'.cell? ⟨w.heap.size,12,none⟩=some (.int .i64 n)∧w'.cell? ⟨w.heap.size,13,none⟩=some (.int .i64 m)) (by kernel_rfl) (by rw [HwD.out];exact ⟨u_ c12 uD (fun f=>f),u_ c13 uD (fun f=>f)⟩) (fun hHeld=>?_)
       rw [HwD.out] at hHeld ⊢;refine wpT 0 ?_;(try simp only [y_,z_]);refine wpT 1 ?_;(try simp only [y_,z_]);refine wpT 2 ?_;(try simp only [y_,z_]);refine wpT 4 ?_;(try simp only [y_,z_]);refine wpT 5 ?_;(try simp only [y_,z_]);refine wpT 6 ?_;(try simp only [y_,z_]);refine aR_ (rs:=[3,7]) (by kernel_rfl) (by simp) ?_;refine aC_ rfl (fun K hK=>?_) (aC_ rfl (fun K hK=>?_) aN_)
       ·go_simp;have uA:Upd Non wD (wD.alloc (.cells (Array.replicate N (.int .i64 0)) 3)):=Upd.refl.alloc _;refine hK.out _ _ ?_ (fun hHeld=>?_)
        ·exact ⟨u_ c12 (uD.then_non uA) (fun f=>f),u_ c13 (uD.then_non uA) (fun f=>f)⟩
        clear hK K;(try simp only [y_,z_]);have hA:=VBlk.new wD N;have hAs:(wD.alloc (.cells (Array.replicate N (.int .i64 0)) 3)).heap.size=wD.heap.size+1:=by simp
        obtain ⟨wA,HwA⟩:=nm (wD.alloc (.cells (Array.replicate N (.int .i64 0)) 3));rw [HwA.out] at uA hA hAs hHeld ⊢;refine wpT 8 ?_;(try simp only [y_,z_]);refine aR_ (rs:=[7]) (by kernel_rfl) (by simp) ?_;refine aC_ rfl (fun K hK=>?_) aN_;go_simp;have uB:Upd Non wA (wA.alloc (.cells (Array.replicate M (.int .i64 0)) 3)):=Upd.refl.alloc _;have uC:=(uD.then_non uA).then_non uB;refine hK.out _ _ ?_ (fun hHeld=>?_)
        ·exact ⟨u_ c12 uC (fun f=>f),u_ c13 uC (fun f=>f)⟩
        clear hK K;(try simp only [y_,z_]);refine wpT 9 ?_;(try simp only [y_,z_]);refine aD_ (by kernel_rfl) ?_ _;go_wp2_with fail
        go_meet
        case rel=>exact ⟨wD.heap.size,wD.heap.size+1,rfl,rfl,Blk.upd hA uB (fun f=>f),by rw [←hAs];exact VBlk.new wA M,by omega,by omega,by omega,u3.then_non uC⟩
       ·go_simp;have uA:Upd Non wD (wD.alloc (.cells (Array.replicate M (.int .i64 0)) 3)):=Upd.refl.alloc _;refine hK.out _ _ ?_ (fun hHeld=>?_)
        ·exact ⟨u_ c12 (uD.then_non uA) (fun f=>f),u_ c13 (uD.then_non uA) (fun f=>f)⟩
        clear hK K;(try simp only [y_,z_]);have hA:=VBlk.new wD M;have hAs:(wD.alloc (.cells (Array.replicate M (.int .i64 0)) 3)).heap.size=wD.heap.size+1:=by simp
        obtain ⟨wA,HwA⟩:=nm (wD.alloc (.cells (Array.replicate M (.int .i64 0)) 3));rw [HwA.out] at uA hA hAs hHeld ⊢;refine aR_ (rs:=[3]) (by kernel_rfl) (by simp) ?_;refine aC_ rfl (fun K hK=>?_) aN_;go_simp;have uB:Upd Non wA (wA.alloc (.cells (Array.replicate N (.int .i64 0)) 3)):=Upd.refl.alloc _;have uC:=(uD.then_non uA).then_non uB;refine hK.out _ _ ?_ (fun hHeld=>?_)
        ·exact ⟨u_ c12 uC (fun f=>f),u_ c13 uC (fun f=>f)⟩
        clear hK K;(try simp only [y_,z_]);refine wpT 8 ?_;(try simp only [y_,z_]);refine wpT 9 ?_;(try simp only [y_,z_]);refine aD_ (by kernel_rfl) ?_ _;go_wp2_with fail
        go_meet
        case rel=>exact ⟨wD.heap.size+1,wD.heap.size,rfl,rfl,by rw [←hAs];exact VBlk.new wA N,Blk.upd hA uB (fun f=>f),by omega,by omega,by omega,u3.then_non uC⟩
      case rest =>
       obtain ⟨gv,gi,rfl,rfl,hgv,hgi,hne,hv1,hi1,u4⟩:=hcut;have hFv:¬(fun k=>k<w.heap.size) gv:=by show ¬gv<w.heap.size;omega
       have hFi:¬(fun k=>k<w.heap.size) gi:=by show ¬gi<w.heap.size;omega
       obtain ⟨c0,c1,c2,c3,c4,c5,c6,c7,c8,c9,c10,c11,c12,c13⟩:=HC.out _ u4;have CS:=h_ (fun op w=>rlSorts_c op w);unfold implG at HR3;rw [show r.vars.toNat+1=N by rw [Hn.out,←HN.out];rfl,show r.imms.toNat+1=M by rw [Hm.out,←HM.out];rfl] at HR3;have HVN:Hid (r.vars.toNat=n):=by show _=_;rw [Hn.out];rfl
       rw [HVN.out] at HSL HSR;rw [Hm.out] at HSL HSR HR3;rw [Hn.out] at c12;rw [Hm.out] at c13;have CCL:=h_ (fun (w':World) (gv' gi':Nat) (own:Int) (u:Upd Non W w') h1 h2 h3 h4 h5=>rlCollect_c r.l w' _ a.la a.lc gv' N gi' M own 0 m n (List.replicate N 0) (List.replicate M 0) (PtK.upd u (fun _ _ _ f=>f) _ _ _ HK.out.l) h1 h2 h3 h4 h5 HSL.out (by rw [List.length_replicate,HN.out]) (by rw [List.length_replicate,HM.out]) (by omega) (by omega))
       rw [List.length_replicate,List.length_replicate] at CCL;obtain ⟨own,Hown⟩:=nm (rsF r.l.op).2;rw [Hown.out] at HR3;obtain ⟨V1,HV1⟩:=nm (colV (occ r.l own) (List.replicate N 0));obtain ⟨I1,HI1⟩:=nm (colI (occI r.l) (List.replicate M 0));rw [HV1.out,HI1.out] at HR3
       have HVL1:Hid (V1.length=n+1∧V1.length=N):=by
        show _∧_;rw [←HV1.out,colV_len,List.length_replicate,HN.out];exact ⟨rfl,rfl⟩
       have HIL1:Hid (I1.length=m+1∧I1.length=M):=by
        show _∧_;rw [←HI1.out,colI_len,List.length_replicate,HM.out];exact ⟨rfl,rfl⟩
       have C1:=h_ (CS.out r.l.op wc);rw [Hown.out] at C1;go_wp2_with fail
       refine C1.out.mono ?_;rintro e w5 ⟨rfl,u5⟩;obtain ⟨x0,Hx0⟩:=nm ((rsF r.l.op).1.getD 0 0);obtain ⟨x1,Hx1⟩:=nm ((rsF r.l.op).1.getD 1 0);obtain ⟨x2,Hx2⟩:=nm ((rsF r.l.op).1.getD 2 0);rw [Hx0.out,Hx1.out,Hx2.out];obtain ⟨W6,HW6⟩:=nm (w5.alloc (.cells #[.int .i64 x0,.int .i64 x1,.int .i64 x2] 112));have e6:=HW6.out;have u6:Upd Non w5 W6:=by rw [←e6];exact Upd.refl.alloc _
       have u56:=u5.then_non u6;have u7:=u4.then_non u56;have hs7:=u4.size;obtain ⟨c0,c1,c2,c3,c4,c5,c6,c7,c8,c9,c10,c11,c12,c13⟩:=HC.out _ u7;have C2:=h_ (CCL.out W6 gv gi own u7 hFv hFi hne (Blk.upd hgv u56 (fun f=>f)) (Blk.upd hgi u56 (fun f=>f)));rw [HV1.out,HI1.out] at C2;unfold pv at C2;rw [Hn.out] at c12;rw [Hm.out] at c13;clear C1 CCL hgv hgi;go_wp2_with fail
       refine C2.out.mono ?_;rintro e w8 ⟨rfl,hgv,hgi,u8⟩;have HU8:Upd Non W w8:=u7.trans u8 (fun i hi h=>by omega);have u89:=u8;obtain ⟨c0,c1,c2,c3,c4,c5,c6,c7,c8,c9,c10,c11,c12,c13⟩:=HC.out _ HU8;rw [Hn.out] at c12;rw [Hm.out] at c13
       have HB1:Hid (((V1.drop 1).all fun x=>decide (x≠0))=true↔∀i:Nat,1≤i→i≤n→V1.getD i 0≠0):=by
        show _↔_;rw [all_drop (d:=0) HVL1.out.1];simp only [decide_eq_true_eq]
       have HB2:Hid (((I1.drop 1).all fun x=>decide (x≠0))=true↔∀i:Nat,1≤i→i≤m→I1.getD i 0≠0):=by
        show _↔_;rw [all_drop (d:=0) HIL1.out.1];simp only [decide_eq_true_eq]
       obtain ⟨b1,Hb1⟩:=nm ((V1.drop 1).all fun x=>decide (x≠0));obtain ⟨b2,Hb2⟩:=nm ((I1.drop 1).all fun x=>decide (x≠0));rw [Hb1.out] at HB1 HR3;rw [Hb2.out] at HB2 HR3;have hNn:N=n+1:=HN.out.symm;have hMm:M=m+1:=HM.out.symm;have HNn:=h_ hNn;have HMm:=h_ hMm;have HU:=hU.then_non HU8;clear C2 hNn hMm mkN mkM u8 u5 u6 u56;go_wp2_with fail
       go_loopg [7] n (fun g i wr=>∃k:Nat,Hid (g=n+1 - k)∧1≤k∧k≤n+1∧i=.int .i64 k∧Hid (∀j:Nat,1≤j→j<k→V1.getD j 0≠0)∧w8=wr)
       case atStart=>exact ⟨1,by show _=_;omega,by omega,by omega,rfl,fun j h1 h2=>by omega,rfl⟩
       case round =>
        obtain ⟨k,Hg,hk1,hk2,rfl,HA,rfl⟩:=hrel;by_cases hlt:k≤n
        ·have t3:decide (k≤n)=true:=dT_ (by omega);have hkN:(k:Int)<(N:Int):=by have:=HNn.out;omega
         have hk0:(0:Int)≤(k:Int):=by omega
         have x1:=VBlk.cell hgv (i:=k) (by rw [HVL1.out.1];omega);obtain ⟨z,Hz⟩:=nm (V1.getD k 0);rw [Hz.out] at x1;by_cases h0:z=0
         ·subst h0
          have hb:b1=false:=by
           rw [Bool.eq_false_iff];intro q;exact HB1.out.1 q k hk1 hlt Hz.out
          have HF:Hid (R=false):=by show _=_;rw [HR3.out,hb];rfl
          clear hb;go_wp2_with fail
          go_ret;exact ⟨by rw [HF.out];rfl,HU⟩
         ·have t4:(z==0)=false:=by simpa using h0
          have HA2:Hid (∀j:Nat,1≤j→j<k+1→V1.getD j 0≠0):=by
           intro j j1 j2;by_cases e:j=k
           ·rw [e,Hz.out];exact h0
           ·exact HA.out j j1 (by omega)
          clear h0;go_wp2_with fail
          go_roundg (n+1 - (k+1))
          case measure=>rw [Hg.out];omega
          case rel=>exact ⟨k+1,rfl,by omega,by omega,by go_num,HA2,rfl⟩
        ·have t3:decide (k≤n)=false:=dF_ (by omega);have hb1:b1=true:=HB1.out.2 (fun i i1 i2=>HA.out i i1 (by omega));subst hb1;have HR4:Hid (R=(b2&&(decide (r.r.v≠0) || decide ((rsF r.r.op).2=own))&&((colV (occ r.r own) V1).drop 1).all (fun x=>decide (x≠3))&&r.conds.all fun c=>condF c (colV (occ r.r own) V1) (m:Int))):=by show _=_;rw [HR3.out];simp
         clear HA Hg hk1 hk2 hlt HR3;go_wp2_with fail
         go_loopg [8] m (fun g i wr=>∃k:Nat,Hid (g=m+1 - k)∧1≤k∧k≤m+1∧i=.int .i64 k∧Hid (∀j:Nat,1≤j→j<k→I1.getD j 0≠0)∧w8=wr)
         case atStart=>exact ⟨1,by show _=_;omega,by omega,by omega,rfl,fun j h1 h2=>by omega,rfl⟩
         case round =>
          obtain ⟨k,Hg,hk1,hk2,rfl,HA,rfl⟩:=hrel;by_cases hlt:k≤m
          ·have t3:decide (k≤m)=true:=dT_ (by omega);have hkN:(k:Int)<(M:Int):=by have:=HMm.out;omega
           have hk0:(0:Int)≤(k:Int):=by omega
           have x1:=VBlk.cell hgi (i:=k) (by rw [HIL1.out.1];omega);obtain ⟨z,Hz⟩:=nm (I1.getD k 0);rw [Hz.out] at x1;by_cases h0:z=0
           ·subst h0
            have hb:b2=false:=by
             rw [Bool.eq_false_iff];intro q;exact HB2.out.1 q k hk1 hlt Hz.out
            have HF:Hid (R=false):=by show _=_;rw [HR4.out,hb];rfl
            clear hb;go_wp2_with fail
            go_ret;exact ⟨by rw [HF.out];rfl,HU⟩
           ·have t4:(z==0)=false:=by simpa using h0
            have HA2:Hid (∀j:Nat,1≤j→j<k+1→I1.getD j 0≠0):=by
             intro j j1 j2;by_cases e:j=k
             ·rw [e,Hz.out];exact h0
             ·exact HA.out j j1 (by omega)
            clear h0;go_wp2_with fail
            go_roundg (m+1 - (k+1))
            case measure=>rw [Hg.out];omega
            case rel=>exact ⟨k+1,rfl,by omega,by omega,by go_num,HA2,rfl⟩
          ·have t3:decide (k≤m)=false:=dF_ (by omega);have hb2:b2=true:=HB2.out.2 (fun i i1 i2=>HA.out i i1 (by omega));subst hb2;have HR5:Hid (R=((decide (r.r.v≠0) || decide ((rsF r.r.op).2=own))&&((colV (occ r.r own) V1).drop 1).all (fun x=>decide (x≠3))&&r.conds.all fun c=>condF c (colV (occ r.r own) V1) (m:Int))):=by show _=_;rw [HR4.out];simp
           clear HA Hg hk1 hk2 hlt HR4;have C1:=h_ (CS.out r.r.op w8);obtain ⟨sR,HsR⟩:=nm (rsF r.r.op).2;rw [HsR.out] at C1 HR5;go_wp2_with fail
           refine C1.out.mono ?_;rintro e w9 ⟨rfl,u9⟩;obtain ⟨y0,Hy0⟩:=nm ((rsF r.r.op).1.getD 0 0);obtain ⟨y1,Hy1⟩:=nm ((rsF r.r.op).1.getD 1 0);obtain ⟨y2,Hy2⟩:=nm ((rsF r.r.op).1.getD 2 0);rw [Hy0.out,Hy1.out,Hy2.out];obtain ⟨WA,HWA⟩:=nm (w9.alloc (.cells #[.int .i64 y0,.int .i64 y1,.int .i64 y2] 112));have eA:=HWA.out;have uA:Upd Non w9 WA:=by rw [←eA];exact Upd.refl.alloc _
           have u9A:=u9.then_non uA;have HUA:=HU8.then_non u9A;have hgvA:VBlk WA gv V1:=Blk.upd hgv u9A (fun f=>f);have hgiA:VBlk WA gi I1:=Blk.upd hgi u9A (fun f=>f);obtain ⟨c0,c1,c2,c3,c4,c5,c6,c7,c8,c9,c10,c11,c12,c13⟩:=HC.out _ HUA;rw [Hn.out] at c12;rw [Hm.out] at c13;have HU:=hU.then_non HUA;have C2:=h_ (rlCollect_c r.r WA _ a.ra a.rc gv N gi M own 0 m n V1 I1 (PtK.upd HUA (fun _ _ _ f=>f) _ _ _ HK.out.r) hFv hFi hne hgvA hgiA HSR.out HVL1.out.1 HIL1.out.1 (by omega) (by omega))
           rw [HVL1.out.2,HIL1.out.2] at C2
           have HVL2:Hid ((colV (occ r.r own) V1).length=n+1∧(colV (occ r.r own) V1).length=N):=by
            show _∧_;rw [colV_len];exact HVL1.out
           obtain ⟨V2,HV2⟩:=nm (colV (occ r.r own) V1);rw [HV2.out] at C2 HR5 HVL2;unfold pv at C2;clear C1 hgv hgi hgvA hgiA c0 c1 c2 c3 c4 c5;by_cases hv:r.r.v=0
           ·have t5:(r.r.v==0)=true:=by simp [hv]
            by_cases hs:sR=own
            ·have t6:(sR != own)=false:=by simp [hs]
             have HR6:Hid (R=(((V2.drop 1).all fun x=>decide (x≠3))&&r.conds.all fun c=>condF c V2 (m:Int))):=by show _=_;rw [HR5.out,dT_ hs];simp
             clear hv hs HR5;go_wp2_with fail
             refine C2.out.mono ?_;rintro e w10 ⟨rfl,hgv,hgi,u10⟩;have hsA:=HU8.size;have HUB:Upd Non W w10:=HUA.trans u10 (fun i hi h=>by omega);have HU:=hU.then_non HUB;obtain ⟨c0,c1,c2,c3,c4,c5,c6,c7,c8,c9,c10,c11,c12,c13⟩:=HC.out _ HUB;rw [Hn.out] at c12;rw [Hm.out] at c13
             have HB4:Hid (((V2.drop 1).all fun x=>decide (x≠3))=true↔∀i:Nat,1≤i→i≤n→V2.getD i 0≠3):=by
              show _↔_;rw [all_drop (d:=0) HVL2.out.1];simp only [decide_eq_true_eq]
             obtain ⟨b4,Hb4⟩:=nm ((V2.drop 1).all fun x=>decide (x≠3));rw [Hb4.out] at HB4 HR6;clear C2 hgi u10 HUA;go_wp2_with fail
             go_loopg [11] n (fun g i wr=>∃k:Nat,Hid (g=n+1 - k)∧1≤k∧k≤n+1∧i=.int .i64 k∧Hid (∀j:Nat,1≤j→j<k→V2.getD j 0≠3)∧w10=wr)
             case atStart=>exact ⟨1,by show _=_;omega,by omega,by omega,rfl,fun j h1 h2=>by omega,rfl⟩
             case round =>
              obtain ⟨k,Hg,hk1,hk2,rfl,HA,rfl⟩:=hrel;by_cases hlt:k≤n
              ·have t3:decide (k≤n)=true:=dT_ (by omega);have hkN:(k:Int)<(N:Int):=by have:=HNn.out;omega
               have hk0:(0:Int)≤(k:Int):=by omega
               have x1:=VBlk.cell hgv (i:=k) (by rw [HVL2.out.1];omega);obtain ⟨z,Hz⟩:=nm (V2.getD k 0);rw [Hz.out] at x1;by_cases h0:z=3
               ·subst h0
                have hb:b4=false:=by
                 rw [Bool.eq_false_iff];intro q;exact HB4.out.1 q k hk1 hlt Hz.out
                have HF:Hid (R=false):=by show _=_;rw [HR6.out,hb];rfl
                clear hb;go_wp2_with fail
                go_ret;exact ⟨by rw [HF.out];rfl,HU⟩
               ·have t4:(z==3)=false:=by simpa using h0
                have HA2:Hid (∀j:Nat,1≤j→j<k+1→V2.getD j 0≠3):=by
                 intro j j1 j2;by_cases e:j=k
                 ·rw [e,Hz.out];exact h0
                 ·exact HA.out j j1 (by omega)
                clear h0;go_wp2_with fail
                go_roundg (n+1 - (k+1))
                case measure=>rw [Hg.out];omega
                case rel=>exact ⟨k+1,rfl,by omega,by omega,by go_num,HA2,rfl⟩
              ·have t3:decide (k≤n)=false:=dF_ (by omega);have hb4:b4=true:=HB4.out.2 (fun i i1 i2=>HA.out i i1 (by omega));subst hb4;have HR7:Hid (R=r.conds.all fun c=>condF c V2 (m:Int)):=by show _=_;rw [HR6.out];simp
               have HI2:=h_ hgv.ints;obtain ⟨cn,Hcn⟩:=nm r.conds.length;have hcn:=H6.out;rw [Hcn.out] at c11 hcn;clear HA Hg hk1 hk2 hlt HR6;go_wp2_with fail
               go_loopg [13,129] cn (fun g _ i wr=>∃q:Nat,Hid (g=cn - q)∧q≤cn∧i=.int .i64 q∧Hid (∀j (h:j<r.conds.length),j<q→condF r.conds[j] V2 (m:Int)=true)∧Upd Non w10 wr)
               case atStart=>exact ⟨0,rfl,by omega,rfl,fun j h1 h2=>by omega,Upd.refl⟩
               case round =>
                obtain ⟨q,Hg,hq,rfl,HA,hu⟩:=hrel;have HUC:=HUB.then_non hu;by_cases hlt:q<cn
                ·have hql:q<r.conds.length:=by rw [Hcn.out];exact hlt
                 have hcv:=HK.out.c.upd HUC (fun _ _ _ f=>f);obtain ⟨cb,co,ecA,hF,hcb,k0,k1,k2,k3⟩:=hcv.at_ hql
                 have hcond:Hid (∀b,condF r.conds[q] V2 (m:Int)=b→(b=false→R=false)∧(b=true→∀j (h:j<r.conds.length),j<q+1→condF r.conds[j] V2 (m:Int)=true)):=by
                  intro b hb;refine ⟨fun h=>?_,fun h j hj1 hj2=>?_⟩
                  ·rw [HR7.out,Bool.eq_false_iff];intro h2;rw [List.all_eq_true] at h2;have:=h2 _ (List.getElem_mem hql);rw [hb,h] at this;cases this
                  ·by_cases e:j=q
                   ·subst e;rw [hb,h]
                   ·exact HA.out j hj1 (by omega)
                 generalize r.conds[q]=x at *;obtain ⟨d0,d1,d2,d3,d4,d5,d6,d7,d8,d9,d10,d11,d12,d13⟩:=HC.out _ HUC;rw [ecA,Hcn.out] at d11;rw [Hm.out] at d13;obtain ⟨WX,HWX⟩:=nm (wr.alloc (.cells #[.int .i64 x.kind,.int .i64 x.a,.int .i64 x.b,.int .i64 x.n] 75));have eX:=HWX.out;have uX:Upd Non wr WX:=by rw [←eX];exact Upd.refl.alloc _
                 have bX:Blk WX wr.heap.size 75 #[.int .i64 x.kind,.int .i64 x.a,.int .i64 x.b,.int .i64 x.n]:=by rw [←eX];exact Blk.new _ _ _
                 have f0:=bX.cell 0;have f1:=bX.cell 1;have f2:=bX.cell 2;have f3:=bX.cell 3;have f13:=u_ d13 uX (fun f=>f);have CC:=h_ (rlValidCond_c x V2 (m:Int) (some ⟨gv,0,none⟩) N _ WX ((HI2.out.upd hu (fun _ _ _ f=>f)).upd uX (fun _ _ _ f=>f)));rw [HVL2.out.2] at CC;obtain ⟨cr,Hcr⟩:=nm (condF x V2 (m:Int));rw [Hcr.out] at CC hcond;have HCD:=h_ (hcond.out cr rfl);simp only [ecA];clear hcv hcond bX;go_wp2_with fail
                 refine CC.out.mono ?_;rintro e w11 ⟨rfl,u11⟩;have HU11:=(hu.then_non uX).then_non u11;have HU:=HU.then_non HU11
                 cases cr with
                 | false =>
                  have HF:Hid (R=false):=HCD.out.1 rfl;go_wp2_with fail
                  go_ret;exact ⟨by rw [HF.out];rfl,HU⟩
                 | true =>
                  have HA2:=h_ (HCD.out.2 rfl);go_wp2_with fail
                  simp only [←ecA]
                  go_roundg (cn - (q+1))
                  case measure=>rw [Hg.out];omega
                  case rel=>exact ⟨q+1,rfl,by omega,by go_num,HA2.out,HU11⟩
                ·obtain rfl:cn=q:=by omega
                 have HF:Hid (R=true):=by
                  show _=_;rw [HR7.out,List.all_eq_true];intro c hc;obtain ⟨j,hj,rfl⟩:=List.mem_iff_getElem.1 hc;exact HA.out j hj (by rw [←Hcn.out];exact hj)
                 have HU:=HU.then_non hu;go_wp2_with fail
                 go_ret;exact ⟨by rw [HF.out];rfl,HU⟩
            ·have t6:(sR != own)=true:=by simp [hs]
             have HF:Hid (R=false):=by show _=_;rw [HR5.out,dF_ hs,dF_ (fun q=>q hv)];rfl
             clear hv hs;go_wp2_with fail
             go_ret;exact ⟨by rw [HF.out];rfl,HU⟩
           ·have t5:(r.r.v==0)=false:=by simp [hv]
            have HR6:Hid (R=(((V2.drop 1).all fun x=>decide (x≠3))&&r.conds.all fun c=>condF c V2 (m:Int))):=by show _=_;rw [HR5.out,dT_ (show r.r.v≠0 from hv)];simp
            clear hv HR5;go_wp2_with fail
            refine C2.out.mono ?_;rintro e w10 ⟨rfl,hgv,hgi,u10⟩;have hsA:=HU8.size;have HUB:Upd Non W w10:=HUA.trans u10 (fun i hi h=>by omega);have HU:=hU.then_non HUB;obtain ⟨c0,c1,c2,c3,c4,c5,c6,c7,c8,c9,c10,c11,c12,c13⟩:=HC.out _ HUB;rw [Hn.out] at c12;rw [Hm.out] at c13
            have HB4:Hid (((V2.drop 1).all fun x=>decide (x≠3))=true↔∀i:Nat,1≤i→i≤n→V2.getD i 0≠3):=by
             show _↔_;rw [all_drop (d:=0) HVL2.out.1];simp only [decide_eq_true_eq]
            obtain ⟨b4,Hb4⟩:=nm ((V2.drop 1).all fun x=>decide (x≠3));rw [Hb4.out] at HB4 HR6;clear C2 hgi u10 HUA;go_wp2_with fail
            go_loopg [11] n (fun g i wr=>∃k:Nat,Hid (g=n+1 - k)∧1≤k∧k≤n+1∧i=.int .i64 k∧Hid (∀j:Nat,1≤j→j<k→V2.getD j 0≠3)∧w10=wr)
            case atStart=>exact ⟨1,by show _=_;omega,by omega,by omega,rfl,fun j h1 h2=>by omega,rfl⟩
            case round =>
             obtain ⟨k,Hg,hk1,hk2,rfl,HA,rfl⟩:=hrel;by_cases hlt:k≤n
             ·have t3:decide (k≤n)=true:=dT_ (by omega);have hkN:(k:Int)<(N:Int):=by have:=HNn.out;omega
              have hk0:(0:Int)≤(k:Int):=by omega
              have x1:=VBlk.cell hgv (i:=k) (by rw [HVL2.out.1];omega);obtain ⟨z,Hz⟩:=nm (V2.getD k 0);rw [Hz.out] at x1;by_cases h0:z=3
              ·subst h0
               have hb:b4=false:=by
                rw [Bool.eq_false_iff];intro q;exact HB4.out.1 q k hk1 hlt Hz.out
               have HF:Hid (R=false):=by show _=_;rw [HR6.out,hb];rfl
               clear hb;go_wp2_with fail
               go_ret;exact ⟨by rw [HF.out];rfl,HU⟩
              ·have t4:(z==3)=false:=by simpa using h0
               have HA2:Hid (∀j:Nat,1≤j→j<k+1→V2.getD j 0≠3):=by
                intro j j1 j2;by_cases e:j=k
                ·rw [e,Hz.out];exact h0
                ·exact HA.out j j1 (by omega)
               clear h0;go_wp2_with fail
               go_roundg (n+1 - (k+1))
               case measure=>rw [Hg.out];omega
               case rel=>exact ⟨k+1,rfl,by omega,by omega,by go_num,HA2,rfl⟩
             ·have t3:decide (k≤n)=false:=dF_ (by omega);have hb4:b4=true:=HB4.out.2 (fun i i1 i2=>HA.out i i1 (by omega));subst hb4;have HR7:Hid (R=r.conds.all fun c=>condF c V2 (m:Int)):=by show _=_;rw [HR6.out];simp
              have HI2:=h_ hgv.ints;obtain ⟨cn,Hcn⟩:=nm r.conds.length;have hcn:=H6.out;rw [Hcn.out] at c11 hcn;clear HA Hg hk1 hk2 hlt HR6;go_wp2_with fail
              go_loopg [13,129] cn (fun g _ i wr=>∃q:Nat,Hid (g=cn - q)∧q≤cn∧i=.int .i64 q∧Hid (∀j (h:j<r.conds.length),j<q→condF r.conds[j] V2 (m:Int)=true)∧Upd Non w10 wr)
              case atStart=>exact ⟨0,rfl,by omega,rfl,fun j h1 h2=>by omega,Upd.refl⟩
              case round =>
               obtain ⟨q,Hg,hq,rfl,HA,hu⟩:=hrel;have HUC:=HUB.then_non hu;by_cases hlt:q<cn
               ·have hql:q<r.conds.length:=by rw [Hcn.out];exact hlt
                have hcv:=HK.out.c.upd HUC (fun _ _ _ f=>f);obtain ⟨cb,co,ecA,hF,hcb,k0,k1,k2,k3⟩:=hcv.at_ hql
                have hcond:Hid (∀b,condF r.conds[q] V2 (m:Int)=b→(b=false→R=false)∧(b=true→∀j (h:j<r.conds.length),j<q+1→condF r.conds[j] V2 (m:Int)=true)):=by
                 intro b hb;refine ⟨fun h=>?_,fun h j hj1 hj2=>?_⟩
                 ·rw [HR7.out,Bool.eq_false_iff];intro h2;rw [List.all_eq_true] at h2;have:=h2 _ (List.getElem_mem hql);rw [hb,h] at this;cases this
                 ·by_cases e:j=q
                  ·subst e;rw [hb,h]
                  ·exact HA.out j hj1 (by omega)
                generalize r.conds[q]=x at *;obtain ⟨d0,d1,d2,d3,d4,d5,d6,d7,d8,d9,d10,d11,d12,d13⟩:=HC.out _ HUC;rw [ecA,Hcn.out] at d11;rw [Hm.out] at d13;obtain ⟨WX,HWX⟩:=nm (wr.alloc (.cells #[.int .i64 x.kind,.int .i64 x.a,.int .i64 x.b,.int .i64 x.n] 75));have eX:=HWX.out;have uX:Upd Non wr WX:=by rw [←eX];exact Upd.refl.alloc _
                have bX:Blk WX wr.heap.size 75 #[.int .i64 x.kind,.int .i64 x.a,.int .i64 x.b,.int .i64 x.n]:=by rw [←eX];exact Blk.new _ _ _
                have f0:=bX.cell 0;have f1:=bX.cell 1;have f2:=bX.cell 2;have f3:=bX.cell 3;have f13:=u_ d13 uX (fun f=>f);have CC:=h_ (rlValidCond_c x V2 (m:Int) (some ⟨gv,0,none⟩) N _ WX ((HI2.out.upd hu (fun _ _ _ f=>f)).upd uX (fun _ _ _ f=>f)));rw [HVL2.out.2] at CC;obtain ⟨cr,Hcr⟩:=nm (condF x V2 (m:Int));rw [Hcr.out] at CC hcond;have HCD:=h_ (hcond.out cr rfl);simp only [ecA];clear hcv hcond bX;go_wp2_with fail
                refine CC.out.mono ?_;rintro e w11 ⟨rfl,u11⟩;have HU11:=(hu.then_non uX).then_non u11;have HU:=HU.then_non HU11
                cases cr with
                | false =>
                 have HF:Hid (R=false):=HCD.out.1 rfl;go_wp2_with fail
                 go_ret;exact ⟨by rw [HF.out];rfl,HU⟩
                | true =>
                 have HA2:=h_ (HCD.out.2 rfl);go_wp2_with fail
                 simp only [←ecA]
                 go_roundg (cn - (q+1))
                 case measure=>rw [Hg.out];omega
                 case rel=>exact ⟨q+1,rfl,by omega,by go_num,HA2.out,HU11⟩
               ·obtain rfl:cn=q:=by omega
                have HF:Hid (R=true):=by
                 show _=_;rw [HR7.out,List.all_eq_true];intro c hc;obtain ⟨j,hj,rfl⟩:=List.mem_iff_getElem.1 hc;exact HA.out j hj (by rw [←Hcn.out];exact hj)
                have HU:=HU.then_non hu;go_wp2_with fail
                go_ret;exact ⟨by rw [HF.out];rfl,HU⟩
     ·have t2:decide ((6:Int)<(r.conds.length:Int))=true:=dT_ (by omega);have HF:Hid (R=false):=by show _=_;rw [HR2.out,dF_ h6];rfl
      clear h6;go_wp2_with fail
      go_ret;exact ⟨by rw [HF.out];rfl,HU⟩
 ·have t1:(r.l.v != 0)=true:=by simp [hv]
  have HF:Hid (R=false):=by show _=_;rw [HR1.out,dF_ hv];rfl
  have HU:=hU;clear hv;go_enter Try.func30,Try.ntmps30;go_wp2_with fail
  go_ret;exact ⟨by rw [HF.out];rfl,HU⟩
set_option maxRecDepth 100000 in
set_option maxHeartbeats 16000000 in
theorem aBuild_c (r:Rl) (a:RlA) (F:Nat→Prop) (w:World) (hk:RlK w F r a) (hz:RlSz r) :
  Calls Try.prog 18 #[rlv r a] w fun e w'=>BldP F r a w e w':=by
 obtain ⟨W,HW⟩:=nm (w.alloc (.cells (rlCells r a) 28));have hU:Upd Non w W:=by rw [←HW.out];exact Upd.refl.alloc _
 obtain ⟨rb,hrb⟩:∃b,w.heap.size=b:=⟨_,rfl⟩;have hb:Blk W rb 28 (rlCells r a):=by rw [←HW.out,←hrb];exact Blk.new _ _ _
 have e0:=HW.out;have hK:=(hk.mono (G:=fun k=>F k∧k<w.heap.size) (fun _ h q=>⟨q,h⟩)).upd hU (fun _ _ _ f=>f);have HC:=h_ (fun (w':World) (u:Upd Non W w')=>rl_cells (hb.upd u (fun f=>f)));have hc0:=HC.out W Upd.refl;obtain ⟨c0,c1,c2,c3,c4,c5,c6,c7,c8,c9,c10,c11,c12,c13⟩:=hc0;have CV:=h_ (rlValid_c r a _ W hK hz);have HZ:=h_ hz;have HK:=h_ hK;have HU:=h_ hU;have HBP:Hid (∀e w',BldP F r a w e w'=BldP F r a w e w'):=fun _ _=>rfl
 clear hk hz hK hb hU;unfold rlv at CV ⊢;unfold rlCells at CV e0 ⊢;by_cases hv:implF r=true
 ·have hi:=imok_of hv;have HV:=h_ hv;rw [hv] at CV;by_cases him:r.imms=0
  ·have CL:=h_ (fun (w':World) (u:Upd Non W w')=>aSupported_c 64 r.l w' _ a.la a.lc (PtK.upd u (fun _ _ _ f=>f) _ _ _ HK.out.l) hi.wl (by have:=hi.sl;omega))
   have CR:=h_ (fun (w':World) (u:Upd Non W w')=>aSupported_c 64 r.r w' _ a.ra a.rc (PtK.upd u (fun _ _ _ f=>f) _ _ _ HK.out.r) hi.wr (by have:=hi.sr;omega))
   unfold pv at CL CR;have HI:=h_ hi;have HIM:=h_ him;have tim:(r.imms != 0)=false:=by simpa using him
   clear hi him hv;obtain ⟨sl,Hsl⟩:=nm (supF r.l);obtain ⟨sr,Hsr⟩:=nm (supF r.r);rw [Hsl.out] at CL;rw [Hsr.out] at CR
   cases sl with
   | false =>
    have HR:Hid (applF r=false):=by show _=_;unfold applF;rw [HV.out,Hsl.out];simp
    go_enter Try.func18,Try.ntmps18;go_wp2_with fail
    refine CV.out.mono ?_;rintro e w1 ⟨rfl,u1⟩;have c13':=u_ c13 u1 (fun f=>f);have c1':=u_ c1 u1 (fun f=>f);have c2':=u_ c2 u1 (fun f=>f);have c3':=u_ c3 u1 (fun f=>f);have c4':=u_ c4 u1 (fun f=>f);have c5':=u_ c5 u1 (fun f=>f);go_wp2_with fail
    refine (CL.out w1 u1).mono ?_;rintro e w2 ⟨rfl,u2'⟩;have u2:=u1.then_non u2';have u3:=HU.out.then_non u2;go_wp2_with fail
    go_ret2;exact ⟨_,by rw [HR.out];rfl,by assumption,fun h=>by rw [HR.out] at h;cases h⟩
   | true =>
    cases sr with
    | false =>
     have HR:Hid (applF r=false):=by show _=_;unfold applF;rw [HV.out,Hsl.out,Hsr.out];simp
     go_enter Try.func18,Try.ntmps18;go_wp2_with fail
     refine CV.out.mono ?_;rintro e w1 ⟨rfl,u1⟩;have c13':=u_ c13 u1 (fun f=>f);have c1':=u_ c1 u1 (fun f=>f);have c2':=u_ c2 u1 (fun f=>f);have c3':=u_ c3 u1 (fun f=>f);have c4':=u_ c4 u1 (fun f=>f);have c5':=u_ c5 u1 (fun f=>f);go_wp2_with fail
     refine (CL.out w1 u1).mono ?_;rintro e w2 ⟨rfl,u2'⟩;have u2:=u1.then_non u2';have c6':=u_ c6 u2 (fun f=>f);have c7':=u_ c7 u2 (fun f=>f);have c8':=u_ c8 u2 (fun f=>f);have c9':=u_ c9 u2 (fun f=>f);have c10':=u_ c10 u2 (fun f=>f);go_wp2_with fail
     refine (CR.out w2 u2).mono ?_;rintro e w3 ⟨rfl,u3'⟩;have u3:=u2.then_non u3';have u4:=HU.out.then_non u3;go_wp2_with fail
     go_ret2;exact ⟨_,by rw [HR.out];rfl,by assumption,fun h=>by rw [HR.out] at h;cases h⟩
    | true =>
     go_enter Try.func18,Try.ntmps18;go_wp2_with fail
     refine CV.out.mono ?_;rintro e w1 ⟨rfl,u1⟩;have c13':=u_ c13 u1 (fun f=>f);have c1':=u_ c1 u1 (fun f=>f);have c2':=u_ c2 u1 (fun f=>f);have c3':=u_ c3 u1 (fun f=>f);have c4':=u_ c4 u1 (fun f=>f);have c5':=u_ c5 u1 (fun f=>f);go_wp2_with fail
     refine (CL.out w1 u1).mono ?_;rintro e w2 ⟨rfl,u2'⟩;have u2:=u1.then_non u2';have c6':=u_ c6 u2 (fun f=>f);have c7':=u_ c7 u2 (fun f=>f);have c8':=u_ c8 u2 (fun f=>f);have c9':=u_ c9 u2 (fun f=>f);have c10':=u_ c10 u2 (fun f=>f);go_wp2_with fail
     refine (CR.out w2 u2).mono ?_;rintro e w3 ⟨rfl,u3'⟩;have u3:=u2.then_non u3';have HU3:=h_ u3;have c11':=u_ c11 u3 (fun f=>f);have HCV:=h_ (HK.out.c.upd u3 (fun _ _ _ f=>f));obtain ⟨CA,hCA⟩:∃x,a.ca=x:=⟨_,rfl⟩;rw [hCA] at HCV c11';have HCE:=h_ hCA;obtain ⟨nc,Hnc⟩:=nm r.conds.length;rw [Hnc.out] at c11';have hnc6:nc≤6:=by rw [←Hnc.out];exact HI.out.cn
     clear hCA c1 c2 c3 c4 c5 c6 c7 c8 c9 c10 c1' c2' c3' c4' c5' c6' c7' c8' c9' c10' c13 c13' c0 c12 c11 u1 u2' u2 u3' u3 CL CR CV;go_wp2_with fail
     go_loopg [5,30] nc (fun gg _ i wr=>∃j:Nat,Hid (gg=nc - j)∧j≤nc∧i=.int .i64 j∧Hid (∀c∈r.conds.take j,c.kind≤4)∧Hid (Upd Non w3 wr))
     case atStart=>exact ⟨0,rfl,by omega,rfl,fun c hc=>(by rw [List.take_zero] at hc;cases hc),Upd.refl⟩
     case round =>
      obtain ⟨j,Hg,hj,rfl,HT,HUr⟩:=hrel;by_cases hlt:j<nc
      ·have hjl:j<r.conds.length:=by rw [Hnc.out];exact hlt
       obtain ⟨b,o,rfl,_,hbw,k0,k1,k2,k3⟩:=(HCV.out.upd HUr.out (fun _ _ _ f=>f)).at_ hjl;have hmem:=List.getElem_mem hjl;have htk:=List.take_succ_eq_append_getElem hjl;generalize r.conds[j]=c at *;have hj0:(0:Int)≤(j:Int):=by omega
       have hjn:(j:Int)<(nc:Int):=by omega
       by_cases h4:c.kind≤4
       ·have t4:decide (c.kind > 4)=false:=dF_ (by omega)
        have HT2:Hid (∀c∈r.conds.take (j+1),c.kind≤4):=fun x hx=>by
         rw [htk,List.mem_append,List.mem_singleton] at hx;rcases hx with hx | rfl
         ·exact HT.out x hx
         ·exact h4
        clear hmem htk h4;go_wp2_with fail
        go_roundg (nc - (j+1))
        case measure=>rw [Hg.out];omega
        case rel=>exact ⟨j+1,rfl,by omega,by go_num,HT2.out,HUr.out.alloc _⟩
       ·have t4:decide (c.kind > 4)=true:=dT_ (by omega)
        have HR:Hid (applF r=false):=by
         show _=_;rw [Bool.eq_false_iff];intro q;unfold applF at q;simp only [Bool.and_eq_true] at q;have:=of_decide_eq_true (List.all_eq_true.1 q.2 c hmem);omega
        have u4:=HU.out.then_non (HU3.out.then_non (HUr.out.alloc (.cells #[.int .i64 c.kind,.int .i64 c.a,.int .i64 c.b,.int .i64 c.n] 75)));clear hmem htk h4;go_wp2_with fail
        go_ret2;exact ⟨_,by rw [HR.out];rfl,by assumption,fun h=>by rw [HR.out] at h;cases h⟩
      ·obtain rfl:nc=j:=by omega
       have HT2:Hid (∀c∈r.conds,c.kind≤4):=fun c hc=>HT.out c (by rw [List.take_of_length_le (by rw [Hnc.out];exact Nat.le_refl _)];exact hc)
       have HUW:=h_ (HU3.out.then_non HUr.out);have hcr:=HC.out wr HUW.out;obtain ⟨c0,c1,c2,c3,c4,c5,c6,c7,c8,c9,c10,c11,c12,c13⟩:=hcr;have HKr:=h_ (HK.out.upd HUW.out (fun _ _ _ f=>f));have HWr:Hid (rb<wr.heap.size):=World.block_lt_of_cell? wr _ c0;obtain ⟨mb,hmb⟩:∃b,wr.heap.size=b:=⟨_,rfl⟩;obtain ⟨W5,HW5⟩:=nm (wr.alloc (.cells #[.string r.name,.int .i64 r.l.v,.int .i64 r.l.op,.int .i64 r.l.imm,.int .i64 r.l.iv,.slice a.la r.l.kids.length a.lc,.int .i64 r.r.v,.int .i64 r.r.op,.int .i64 r.r.imm,.int .i64 r.r.iv,.slice a.ra r.r.kids.length a.rc,.slice a.ca r.conds.length a.cc,.int .i64 r.vars,.int .i64 r.imms,.pointer none,.pointer none,.slice none 0 0,.int .i64 0,.int .i64 0] 66))
       have e5:=HW5.out;have u5:Upd Non wr W5:=by rw [←HW5.out];exact Upd.refl.alloc _
       have hM5:LyM W5 mb (auC r a (.pointer none) (.pointer none) (.int .i64 0)) 0 none 0 []:=by
        refine ⟨?_,Own.none_,rfl⟩;rw [auC_mC,←HW5.out,←hmb];exact Blk.new _ _ _
       have hmr:rb≠mb:=by have:=HWr.out;omega
       have hws:w.heap.size≤wr.heap.size:=by have:=HU.out.size;have:=HUW.out.size;omega
       have hF1:∀i,(F i∧i<w.heap.size)→i<W5.heap.size∧i≠mb∧¬At none i:=fun i hi=>by
        have:=u5.size;exact ⟨by omega,by omega,At.none_⟩
       have hgr:=gR_le HI.out;have hbl:=bN_le r.l;have hbr:=bN_le r.r;have hsl:=HI.out.sl;have hsr:=HI.out.sr;have C1:=h_ (aLayout_c r.l W5 (fun k=>F k∧k<w.heap.size) a.la a.lc (PtK.upd u5 (fun _ _ _ f=>f) _ _ _ HKr.out.l) HI.out.nl Hsl.out HI.out.wl (by omega) mb 0 _ none 0 [] hM5 hF1 (by omega) (by simp;omega))
       unfold pv pp at C1;have HM5:=h_ hM5;have HU5:=h_ u5;have d1:=u_ c1 u5 (fun f=>f);have d2:=u_ c2 u5 (fun f=>f);have d3:=u_ c3 u5 (fun f=>f);have d4:=u_ c4 u5 (fun f=>f);have d5:=u_ c5 u5 (fun f=>f);have HC0:=h_ c0;clear hM5 u5
       go_upto_region 10 with fail
       go_wp2_with fail
       refine C1.out.mono ?_;rintro e w6 ⟨L,GA1,gc1,ns1,rfl,hR1⟩;have k14:w6.cell? ⟨mb,14,none⟩=some (.pointer none):=(hR1.st.blk.cell 14).trans (mC_get (by decide) (by decide) _ _);have f14:=hR1.st.blk.frozen 14;have hM7:=hR1.st.put (i:=14) (by decide) (by decide) (pp L);rw [auC_14,Nat.zero_add,List.nil_append] at hM7;have hmw:∀i,i<wr.heap.size→¬i=mb:=fun i hi e=>by omega
       obtain ⟨W7,HW7⟩:=nm (w6.setCell ⟨mb,14,none⟩ (pp L))
       have u7:Upd Non wr W7:=by
        rw [←HW7.out];exact ((HU5.out.trans hR1.upd (T:=fun i=>i=mb∨At none i) (fun i hi q=>q.elim (fun e=>(hmw i hi e).elim) (fun q=>(At.none_ q).elim))).trans (updCell w6 mb 14 (pp L)) (fun i hi q=>(hmw i hi q).elim))
       have uT1:Upd (·=mb) w6 W7:=by rw [←HW7.out];exact updCell w6 mb 14 (pp L)
       rw [HW7.out] at hM7;have hG1:∀i,At GA1 i→W5.heap.size≤i:=fun i hi=>(hR1.ga i hi).elim (fun q=>(At.none_ q).elim) (fun q=>q)
       have hF2:∀i,(F i∧i<w.heap.size)→i<W7.heap.size∧i≠mb∧¬At GA1 i:=fun i hi=>by
        have h1:=u7.size;have h2:=HU5.out.size;exact ⟨by omega,by omega,fun q=>by have:=hG1 i q;omega⟩
       have hn1:ns1.length=gN r.l:=by rw [hR1.gx.1,gpos_len]
       have C2:=h_ (aLayout_c r.r W7 (fun k=>F k∧k<w.heap.size) a.ra a.rc (PtK.upd u7 (fun _ _ _ f=>f) _ _ _ HKr.out.r) HI.out.nr Hsr.out HI.out.wr (by omega) mb (bN r.l) _ GA1 gc1 ns1 hM7 hF2 (by omega) (by omega))
       unfold pv pp at C2;have d6:=u_ c6 u7 (fun f=>f);have d7:=u_ c7 u7 (fun f=>f);have d8:=u_ c8 u7 (fun f=>f);have d9:=u_ c9 u7 (fun f=>f);have d10:=u_ c10 u7 (fun f=>f);have HR1:=h_ hR1;have HM7:=h_ hM7;have HU7:=h_ u7;have HT1:=h_ uT1;have HG1:=h_ hG1;have e7:=HW7.out;unfold pp at e7;clear hR1 hM7 u7 uT1 hG1 hF2 d1 d2 d3 d4 d5 hF1 C1;go_wp2_with fail
       refine C2.out.mono ?_;rintro e w8 ⟨R,GA2,gc2,ns2,rfl,hR2⟩;have k15:w8.cell? ⟨mb,15,none⟩=some (.pointer none):=(hR2.st.blk.cell 15).trans (mC_get (by decide) (by decide) _ _);have f15:=hR2.st.blk.frozen 15;have hM9:=hR2.st.put (i:=15) (by decide) (by decide) (pp R);rw [auC_15] at hM9;obtain ⟨sz,Hsz⟩:=nm (bN r.l+bN r.r);have hsz:sz≤10000:=by have:=Hsz.out;omega
       rw [Hsz.out] at hM9;obtain ⟨W9,HW9⟩:=nm (w8.setCell ⟨mb,15,none⟩ (pp R));rw [HW9.out] at hM9;have e9:=HW9.out;have uT2:Upd (·=mb) w8 W9:=by rw [←HW9.out];exact updCell w8 mb 15 (pp R)
       have k18:=(hM9.blk.cell 18).trans (mC_18 hM9.cs _ _);have k17:W9.cell? ⟨mb,17,none⟩=some (.int .i64 0):=(hM9.blk.cell 17).trans (mC_get (by decide) (by decide) _ _);have f17:=hM9.blk.frozen 17;have hM10:=hM9.put (i:=17) (by decide) (by decide) (.int .i64 (sz:Int));rw [auC_17] at hM10;obtain ⟨W10,HW10⟩:=nm (W9.setCell ⟨mb,17,none⟩ (.int .i64 (sz:Int)));rw [HW10.out] at hM10;have e10:=HW10.out;have uT3:Upd (·=mb) W9 W10:=by rw [←HW10.out];exact updCell W9 mb 17 _
       have u8:Upd (fun i=>i=mb∨At GA1 i) W7 W10:=(hR2.upd.trans uT2 (fun _ _ q=>.inl q)).trans uT3 (fun _ _ q=>.inl q);have u10:Upd Non wr W10:=HU7.out.trans u8 (fun i hi q=>q.elim (fun e=>(hmw i hi e).elim) (fun q=>by have h1:=HG1.out i q;have h2:=HU5.out.size;omega))
       have g11:=u_ c11 u10 (fun f=>f);have m18:=(hM10.blk.cell 18).trans (mC_18 hM10.cs _ _);have f18:=hM10.blk.frozen 18
       have hM11:LyM (W10.setCell ⟨mb,18,none⟩ (.int .i64 ((sz:Int)+((r.conds.length:Int)+1)))) mb (auC r a (pp L) (pp R) (.int .i64 (sz:Int))) (stN r) GA2 gc2 (ns1++ns2):=by
        have uS:=updCell W10 mb 18 (.int .i64 ((sz:Int)+((r.conds.length:Int)+1)));refine ⟨?_,hM10.own.upd uS (fun i hi e=>hM10.ne (e ▸ hi)),rfl⟩;have:=hM10.blk.set_ 18 (.int .i64 ((sz:Int)+((r.conds.length:Int)+1)));rw [mC_s18] at this;rw [show ((stN r:Nat):Int)=(sz:Int)+((r.conds.length:Int)+1) by rw [←Hsz.out];unfold stN;push_cast;omega];exact this
       have HM11:=h_ hM11;have HR2:=h_ hR2;have HU8:=h_ u8;have HU10:=h_ u10;have HT23:Hid (Upd (·=mb) w8 W10):=uT2.trans uT3 (fun _ _ q=>q);have hcl:r.conds.length≤6:=HI.out.cn;have q1:IntKind.i64.wrap ((r.conds.length:Int)+1)=(r.conds.length:Int)+1:=i64w_of (by unfold I64;omega);have q2:IntKind.i64.wrap ((sz:Int)+((r.conds.length:Int)+1))=(sz:Int)+((r.conds.length:Int)+1):=i64w_of (by unfold I64;omega);unfold pp at e9;clear hR2 hM9 hM10 hM11 u8 u10 uT2 uT3 d6 d7 d8 d9 d10 C2
       go_upto_region 13 with fail
       refine wp_region_held_drew (S:=fun w'=>w'.cell? ⟨rb,11,none⟩=some (.slice a.ca r.conds.length a.cc)) (by kernel_rfl) g11 (fun hHeld=>?_);refine wpT 0 ?_;(try simp only [y_,z_]);refine wpT 1 ?_;(try simp only [y_,z_]);refine wpT 2 ?_;(try simp only [y_,z_]);refine wpT 4 ?_;(try simp only [y_,z_]);refine wpT 5 ?_;(try simp only [y_,z_]);refine wpT 6 ?_;(try simp only [y_,z_]);refine wpT 7 ?_;(try simp only [y_,z_]);refine wpAnyH_takeM (fun w'=>w'.cell? ⟨mb,18,none⟩=some (.int .i64 (sz:Int))) (calm_cell _ _) [8,9,10,11] (i:=3) (v:=?_) rfl (by kernel_rfl) (by kernel_rfl) (by kernel_rfl) (by kernel_rfl) (fun _ _ _ h=>h) (Or.inl ⟨by rfl,?_⟩) (m18) (by assumption) ?_
       rotate_left
       ·intro w hSw;(try dsimp only at hSw);go_simp;try with_reducible rfl
       (try simp only [y_,z_]);refine wpT 8 ?_;(try simp only [y_,z_]);refine wpT 9 ?_;(try simp only [y_,z_]);refine wpT 10 ?_;(try simp only [y_,z_]);refine aR_ (rs:=[11]) (by kernel_rfl) (by simp) ?_;refine aC_ rfl (fun K hK=>?_) aN_;go_simp;refine hK.out _ _ ?_ (fun hHeld=>?_)
       ·exact u_ (S:=(·=mb)) g11 ((updCell W10 mb 18 (.int .i64 ((sz:Int)+((r.conds.length:Int)+1)))).drewN 1) hmr
       clear hK K;(try simp only [y_,z_]);refine aD_ (by kernel_rfl) ?_ _;clear hHeld;obtain ⟨WE,HWE⟩:=nm ((W10.setCell ⟨mb,18,none⟩ (.int .i64 ((sz:Int)+((r.conds.length:Int)+1)))).drewN 1);have uTE:Upd (·=mb) W10 WE:=by rw [←HWE.out];exact (updCell W10 mb 18 _).drewN 1
       have hME:LyM WE mb (auC r a (pp L) (pp R) (.int .i64 (sz:Int))) (stN r) GA2 gc2 (ns1++ns2):=by rw [←HWE.out];exact HM11.out.upd (S:=Non) (Upd.refl.drewN 1) (fun f=>f) (fun _ _ f=>f)
       have m16:=(hME.blk.cell 16).trans (mC_16 hME.cs _ _);have HME:=h_ hME;have HTE:=h_ uTE;have hgn:(ns1++ns2).length=gR r:=by rw [List.length_append,HR1.out.gx.1,HR2.out.gx.1,gpos_len,gpos_len];rfl
       obtain ⟨gn,Hgn⟩:=nm (ns1++ns2).length;rw [Hgn.out] at m16 hgn;have HGN:=h_ hgn;clear hgn g11 m18 f18 hME uTE q1 q2;rw [show (W10.setCell ⟨mb,18,none⟩ (.int .i64 ((sz:Int)+((r.conds.length:Int)+1)))).drew=WE from HWE.out];go_wp2_with fail
       refine wp_region_held_drew (S:=fun w'=>w'.cell? ⟨mb,16,none⟩=some (.slice GA2 gn gc2)) (by kernel_rfl) m16 (fun hHeld=>?_);refine wpT 0 ?_;(try simp only [y_,z_]);refine wpT 1 ?_;(try simp only [y_,z_]);refine wpT 2 ?_;(try simp only [y_,z_]);refine wpT 3 ?_;(try simp only [y_,z_]);refine wpT 4 ?_;(try simp only [y_,z_]);refine wpT 5 ?_;(try simp only [y_,z_]);refine wpT 6 ?_;(try simp only [y_,z_]);refine wpT 7 ?_;(try simp only [y_,z_]);refine wpT 8 ?_;(try simp only [y_,z_]);refine aD_ (by kernel_rfl) ?_ _;go_wp2_with fail
       go_ret2
       have hA:applF r=decide ((gn:Int)≤6):=by
        unfold applF;have hall:(r.conds.all fun c=>decide (1≤c.kind∧c.kind≤4))=true:=List.all_eq_true.2 fun c hc=>dT_ ⟨HI.out.ck c hc,HT2.out c hc⟩
        rw [HV.out,dT_ HIM.out,Hsl.out,Hsr.out,hall,HGN.out];simp;omega
       have uE1:Upd Non wr (WE.drewN 1):=(HU10.out.trans HTE.out (fun i hi q=>(hmw i hi q).elim)).drewN 1;have uWE:=HU.out.then_non (HUW.out.then_non uE1);have u6E:Upd (fun i=>i=mb∨At GA1 i) w6 (WE.drewN 1):=(((HT1.out.mono (fun _ _ q=>.inl q)).trans HU8.out (fun _ _ q=>q)).trans HTE.out (fun _ _ q=>.inl q)).drewN 1
       have u8E:Upd (·=mb) w8 (WE.drewN 1):=(HT23.out.trans HTE.out (fun _ _ q=>q)).drewN 1;have hW5:=HU5.out.size;have hW7:=HU7.out.size;have hm5:mb<W5.heap.size:=HM5.out.blk.lt;have hm7:mb<W7.heap.size:=HM7.out.blk.lt;refine ⟨_,by rw [hA];rfl,uWE,fun _=>⟨mb,L,R,GA2,gc2,ns1++ns2,rfl,by omega,⟨?_,.inr (by omega),?_,?_,?_,?_⟩,?_⟩⟩
       ·have:=HME.out.blk;rw [auC_mC,←Hsz.out] at this;exact this
       ·exact (HKr.out.c.mono (fun _ _ q=>.inl q)).upd uE1 (fun _ _ _ f=>f)
       ·refine OsT.upd u6E (fun i _ hi q=>?_) (fun i _ hi=>.inr (by have:=hi.1;omega)) _ _ _ HR1.out.os;rcases q with q | q
        ·have:=hi.1;omega
        ·exact hi.2 q
       ·refine OsT.upd u8E (fun i _ hi q=>by have:=hi.1;omega) (fun i _ hi=>.inr (by have:=hi.1;omega)) _ _ _ HR2.out.os
       ·refine (HME.out.own.sl.mono (fun i _ hi=>.inr ?_)).upd (S:=Non) (Upd.refl.drewN 1) (fun _ _ _ f=>f);rcases HR2.out.ga i hi with q | q
        ·have:=HG1.out i q;omega
        ·omega
       ·refine GsX.app (HR1.out.gx.upd u6E (fun g c hb q=>?_)) (HR2.out.gx.upd u8E (fun g c hb q=>?_))
        ·rcases q with q | q
         ·subst q;exact hb.ne_ HR1.out.st.blk (by decide) rfl
         ·exact HR1.out.st.own.ne_blk hb (by decide) q
        ·subst q;exact hb.ne_ HR2.out.st.blk (by decide) rfl
  ·have HR:Hid (applF r=false):=by show _=_;unfold applF;rw [hv,dF_ him];rfl
   have tim:(r.imms != 0)=true:=by simpa using him
   clear hi him hv;go_enter Try.func18,Try.ntmps18;go_wp2_with fail
   refine CV.out.mono ?_;rintro e w1 ⟨rfl,u1⟩;have c13':=u_ c13 u1 (fun f=>f);have u2:=HU.out.then_non u1;go_wp2_with fail
   go_ret2;exact ⟨_,by rw [HR.out];rfl,by assumption,fun h=>by rw [HR.out] at h;cases h⟩
 ·have hv':implF r=false:=by simpa using hv
  have HR:Hid (applF r=false):=by show _=_;unfold applF;rw [hv'];rfl
  rw [hv'] at CV;clear hv hv';go_enter Try.func18,Try.ntmps18;go_wp2_with fail
  refine CV.out.mono ?_;rintro e w1 ⟨rfl,u1⟩;have u2:=HU.out.then_non u1;go_wp2_with fail
  go_ret2;exact ⟨_,by rw [HR.out];rfl,by assumption,fun h=>by rw [HR.out] at h;cases h⟩
def U8B (w:World) (i:Nat):Prop:=∃cs,Blk w i 5 cs
theorem U8B.upd {w w':World} {S:Nat→Prop} {i:Nat} (h:U8B w i) (u:Upd S w w') (d:¬S i):U8B w' i:=by
 obtain ⟨cs,hb⟩:=h;exact ⟨cs,hb.upd u d⟩
section
variable {α:Type} {El:World→(Nat→Prop)→List Value→α→Prop} {k:Nat} {w w':World} {S:Nat→Prop} {A:Option Addr} {L:List α} {n c:Nat} {e:TypeId}
theorem ElO.u8 (O:ElOk El k) (h:ElO El k e w (U8B w) A n c L) (u:Upd S w w') (dA:∀i,At A i→¬S i) (d8:∀i cs,Blk w i 5 cs→¬S i):ElO El k e w' (U8B w') A n c L:=by
 obtain ⟨h1,cs,h2,h3⟩:=h;exact ⟨h1,cs,h2.upd u dA,h3.mono O u (fun i _ hg=>by obtain ⟨q,hb⟩:=hg.1;exact d8 i q hb) (fun i _ hg=>⟨hg.1.upd u (by obtain ⟨q,hb⟩:=hg.1;exact d8 i q hb),hg.2⟩)⟩
theorem ElO.snoc8 (O:ElOk El k) (he:e≠5) {w0:World} {A':Option Addr} {c':Nat} {x:α} {new cs:List Value} (hL:n=L.length) (h:ElCells El k w0 (fun i=>U8B w0 i∧¬At A i) cs L) (u0:Upd Non w0 w) (hO:Own w e k A n c cs) (hx:El w (fun i=>U8B w i∧¬At A i) new x) (ho:Own w' e k A' (n+1) c' (cs++new))
  (u:Upd (At A) w w') (hA:∀i,At A' i→At A i∨i=w.heap.size):ElO El k e w' (U8B w') A' (n+1) c' (L++[x]):=by
 have h1:ElCells El k w (fun i=>U8B w i∧¬At A i) cs L:=h.mono O u0 (fun _ _ _ f=>f) (fun i _ q=>⟨q.1.upd u0 (fun f=>f),q.2⟩);exact ElO.snoc O hL h1 hx ho rfl u (fun i hi=>(hA i hi).imp (fun z=>z) (fun z=>by omega)) (fun i _ hg=>hg.upd u (fun z=>by obtain ⟨q,hb⟩:=hg;exact hO.ne_blk hb he z))
end
theorem own_u8 {w:World} {q n c:Nat} {cs:List Value} (h:Own w 5 1 (some ⟨q,0,none⟩) n c cs):U8B w q:=by
 rcases h.cases with ⟨h0,_⟩ | ⟨g,cur,e1,hb,_⟩
 ·cases h0
 ·injection e1 with e1;injection e1 with e1;subst e1
  exact ⟨cur,hb⟩
theorem T_rows:SlT Try.prog 48 44 1 24:=by
 obtain ⟨i,h1,h2,h3,h4⟩:=info_parts (show (Try.prog.info? 44).map (fun i=>(i.zero,i.size,i.bytes))=some (some (.slice none 0 0),1,24) from by kernel_rfl)
 exact ⟨Try.underlying48,⟨i,_,h1,h2,h3,h4,rfl⟩,by omega⟩
theorem rep_set (m:List Bool) (k:Nat) (b:Bool):(m++List.replicate (k+1) false).set m.length b=(m++[b])++List.replicate k false:=by
 rw [List.set_append_right _ _ (Nat.le_refl _),Nat.sub_self,List.replicate_succ,List.set_cons_zero,List.append_assoc];rfl
theorem rep_no (m:List Bool) (k:Nat):m++List.replicate (k+1) false=(m++[false])++List.replicate k false:=by
 rw [List.replicate_succ,List.append_assoc];rfl
theorem rep_spl (m1 m2:List Bool) (k:Nat) (h:m2.length≤k):spl (m1++List.replicate k false) m1.length m2=(m1++m2)++List.replicate (k - m2.length) false:=by
 unfold spl;rw [List.take_append_of_le_length (Nat.le_refl _),List.take_length,List.drop_append,List.drop_of_length_le (by omega),List.drop_replicate,List.nil_append,List.append_assoc]
 congr 3
 omega
theorem rep_get (m:List Bool) (k i:Nat) (h:m.length≤i):(m++List.replicate k false).getD i false=false:=by
 rw [List.getD_eq_getElem?_getD,List.getElem?_append_right h,List.getElem?_replicate]
 split <;> rfl
theorem setG_snoc (g:Nat→Bool) (l:List (Int×Nat)) (b:List Bool) {i:Nat} (h:i<l.length):setG g (l.take (i+1)) 0 b=(setG g (l.take i) 0 b).set l[i].2 (g i):=by
 rw [List.take_succ_eq_append_getElem h,setG_app,List.length_take,Nat.min_eq_left (by omega),Nat.zero_add];rfl
theorem elRow_of {w:World} {K:Nat→Prop} {q n c:Nat} {l:List Bool} (h:Own w 5 1 (some ⟨q,0,none⟩) n c (b8s l)) (hl:l.length=n) (hK:K q):ElRow w K [.slice (some ⟨q,0,none⟩) n c] (bbs l):=by
 refine ⟨some ⟨q,0,none⟩,c,?_,?_,?_⟩
 ·unfold bbs;rw [List.length_map,hl]
 ·unfold bbs;rw [List.length_map,hl];exact h.le
 ·rw [←b8s_u8s];exact h.sl.mono (fun i _ hi=>by rw [At.some_] at hi;subst hi;exact hK)
theorem own_rep (w:World) (n:Nat) (hn:n≤1000000):Own (w.alloc (.cells (Array.replicate n (.int .u8 0)) 5)) 5 1 (some ⟨w.heap.size,0,none⟩) n n (b8s (List.replicate n false)):=by
 refine Own.mk_ (Blk.new _ _ _) (Nat.le_refl _) (by simp only [maxLen];omega) (by simp) ?_;rw [Nat.mul_one];unfold b8s;rw [List.map_replicate];simp;exact .inr rfl
set_option maxRecDepth 100000 in
set_option maxHeartbeats 16000000 in
theorem aInitStates_c {w:World} {F:Nat→Prop} {m:Nat} {r:Rl} {a:RlA} {L R:Nat} {GA:Option Addr} {gc:Nat} {gs:List Nat} (hA:AU w F m r a L R GA gc gs) (hG:GsX w gs (gposR r)) (hr:NxOk r) (hn:stN r≤100000) (hg6:gR r≤6) (hc6:r.conds.length≤6) :
  Calls Try.prog 19 #[pp m] w fun e w'=>∃A c,e=.returned (.slice A (2 ^ gR r) c)∧ElO ElRow 1 44 w' (U8B w') A (2 ^ gR r) c ((initsF r).map bbs)∧(∀i,At A i→w.heap.size≤i)∧Upd Non w w':=by
 have hst:stN r=bN r.l+bN r.r+r.conds.length+1:=rfl;obtain ⟨n,Hn⟩:=nm (stN r);rw [Hn.out] at hn hst;have x18:=hA.blk.cell 18;rw [Hn.out] at x18;have hmk:∀w:World,(Instr.makeSlice 44 (.int .i64 (n:Int)) (.int .i64 (n:Int))).run Try.prog w=.ok (.slice (some ⟨w.heap.size,0,none⟩) n n) (w.alloc (.cells (Array.replicate n (.int .u8 0)) 5)):=fun w=>run_mk (P:=Try.prog) T_u8s zero_u8 rfl n (by omega) (by omega) w
 obtain ⟨W1,HW1⟩:=nm (w.alloc (.cells (Array.replicate n (.int .u8 0)) 5));have e1:=HW1.out;have u1:Upd Non w W1:=by rw [←HW1.out];exact Upd.refl.alloc _
 obtain ⟨g,hg⟩:∃g,w.heap.size=g:=⟨_,rfl⟩;have ho1:Own W1 5 1 (some ⟨g,0,none⟩) n n (b8s (List.replicate n false)):=by rw [←HW1.out,←hg];exact own_rep w n (by omega)
 have HA:=h_ hA;have HST:=h_ hst;obtain ⟨bl,Hbl⟩:=nm (bN r.l);obtain ⟨br,Hbr⟩:=nm (bN r.r);obtain ⟨nc,Hnc⟩:=nm r.conds.length;have hst2:n=bl+br+nc+1:=by rw [hst,Hbl.out,Hbr.out,Hnc.out]
 have hzl:(iP r.l).length=bl:=by rw [iP_len,Hbl.out]
 have hzr:(iP r.r).length=br:=by rw [iP_len,Hbr.out]
 have hs1:spl (List.replicate n false) 0 (iP r.l)=iP r.l++List.replicate (n - bl) false:=by
  have:=rep_spl [] (iP r.l) n (by omega);rw [hzl] at this;exact this
 have hs2:spl (iP r.l++List.replicate (n - bl) false) bl (iP r.r)=(iP r.l++iP r.r)++List.replicate (nc+1) false:=by
  have:=rep_spl (iP r.l) (iP r.r) (n - bl) (by omega);rw [hzl,hzr,show n - bl - br=nc+1 by omega] at this;exact this
 have hTL:=OsT.upd u1 (fun _ _ _ f=>f) (G:=fun i=>i<w.heap.size) (fun i hi _=>hi) _ _ _ hA.tl;have hTR:=OsT.upd u1 (fun _ _ _ f=>f) (G:=fun i=>i<w.heap.size) (fun i hi _=>hi) _ _ _ hA.tr;have C1:=h_ (aInitialize_c (c:=n) (m:=m) (F:=fun i=>i<w.heap.size) (g:=g) (by omega:n≤1000000) (fun i hi e=>by omega) r.l W1 (List.replicate n false) 0 L hr.hl.1 hr.hl.2.1 hTL ho1 List.length_replicate (by omega) (fun i _ _=>by rw [List.getD_eq_getElem?_getD,List.getElem?_replicate];split <;> rfl))
 have x14:=u_ (hA.blk.cell 14) u1 (fun f=>f);have hgm:m≠g:=by have:=hA.blk.lt;omega
 rw [hs1] at C1;have C2:=h_ (fun (w':World) (u:Upd (·=g) W1 w') ho=>aInitialize_c (c:=n) (m:=m) (F:=fun i=>i<w.heap.size) (g:=g) (by omega:n≤1000000) (fun i hi e=>by omega) r.r w' (iP r.l++List.replicate (n - bl) false) bl R hr.hr.1 hr.hr.2.1 (OsT.upd u (fun i _ hi e=>by omega) (fun _ _ q=>q) _ _ _ (by rw [Hbl.out] at hTR;exact hTR)) ho (by rw [List.length_append,List.length_replicate];omega) (by have:=Hbr.out;omega) (fun i h1 _=>rep_get _ _ _ (by omega)))
 rw [hs2] at C2;have HLT:Hid (∀i,i<w.heap.size→i≠g):=fun i hi e=>by omega
 have X15:=h_ (u_ (hA.blk.cell 15) u1 (fun f=>f));have HU1:=h_ u1;have HML:Hid (m<w.heap.size):=hA.blk.lt;have HS2:=h_ hst2;have HZL:=h_ hzl;have HZR:=h_ hzr;clear hA hTL hTR ho1 hst hst2 hs1 hs2 hzl hzr u1;unfold pp at C1 C2 x14 X15 ⊢;go_enter Try.func19,Try.ntmps19;go_wp2_with fail
 refine C1.out.mono ?_;rintro e w2 ⟨rfl,ho2,hu2⟩;have x15:=u_ (S:=(·=g)) X15.out hu2 hgm;have HO2:=h_ ho2;have HU2:=h_ hu2;clear x14 ho2 hu2 C1;go_wp2_with fail
 refine (C2.out w2 HU2.out HO2.out).mono ?_;rintro e w3 ⟨rfl,ho3,hu3⟩;have hu13:=HU2.out.trans hu3 (fun _ _ q=>q);have hu03:Upd (·=g) w w3:=(HU1.out.mono (fun _ _ f=>f.elim)).trans hu13 (fun _ _ q=>q);have HU3:=h_ hu3;have HU03:Hid (Upd Non w w3):=hu03.mono (fun i hi e=>by omega);have HA3:=h_ (HA.out.blk.upd hu03 hgm);have HCD:=h_ (HA.out.cds.mono (G:=fun i=>i<w.heap.size) (fun i hi _=>hi) |>.upd hu03 (fun i _ hi e=>by omega));have x11:=HA3.out.cell 11;have x17:=HA3.out.cell 17;obtain ⟨CA,hCA⟩:∃x,a.ca=x:=⟨_,rfl⟩;rw [hCA] at x11 HCD;rw [Hnc.out] at x11;rw [Hbl.out,Hbr.out] at x17;obtain ⟨cn,hcn⟩:∃c,bl+br=c:=⟨_,rfl⟩;rw [hcn] at x17;have HCN:Hid (n=cn+nc+1):=by show _=_;have:=HS2.out;omega
 have HO3:=h_ ho3;have HZN:Hid ((iP r.l++iP r.r).length=cn):=by show _=_;rw [List.length_append,HZL.out,HZR.out,hcn]
 have hcn12:cn+nc+1≤100000:=by have:=HCN.out;omega
 rw [Hnc.out] at hc6;clear hCA ho3 hu3 hu13 hu03 x15 C2 hcn;go_wp2_with fail
 go_loopg [4,5,36] nc (fun gg _ _ i wr=>∃j:Nat,Hid (gg=nc - j)∧j≤nc∧i=.int .i64 j∧Hid (Own wr 5 1 (some ⟨g,0,none⟩) n n (b8s (((iP r.l++iP r.r)++(r.conds.take j).map cdIn)++List.replicate (nc - j+1) false)))∧Hid (Upd (·=g) w3 wr))
 case atStart=>exact ⟨0,rfl,by omega,rfl,by rw [List.take_zero,List.map_nil,List.append_nil];exact HO3.out,Upd.refl⟩
 case round =>
  obtain ⟨j,Hg,hj,rfl,HOr,HUr⟩:=hrel;by_cases hlt:j<nc
  ·have hjl:j<r.conds.length:=by rw [Hnc.out];exact hlt
   obtain ⟨b,o,rfl,_,hbw,k0,k1,k2,k3⟩:=(HCD.out.upd HUr.out (fun i hi hi2 e=>by omega)).at_ hjl;have htk:=List.take_succ_eq_append_getElem hjl;generalize r.conds[j]=c at *;obtain ⟨Zj,HZj⟩:=nm ((iP r.l++iP r.r)++(r.conds.take j).map cdIn);have hZl:Zj.length=cn+j:=by rw [←HZj.out,List.length_append,HZN.out,List.length_map,List.length_take,Nat.min_eq_left (by omega)]
   have HZ2:Hid ((iP r.l++iP r.r)++(r.conds.take (j+1)).map cdIn=Zj++[cdIn c]):=by show _=_;rw [htk,List.map_append,←List.append_assoc,HZj.out];rfl
   rw [HZj.out,show nc - j+1=(nc - (j+1)+1)+1 by omega] at HOr;have hj0:(0:Int)≤(j:Int):=by omega
   have hjn:(j:Int)<(nc:Int):=by omega
   obtain ⟨cb,hcb⟩:∃b,wr.heap.size=b:=⟨_,rfl⟩;obtain ⟨W5,HW5⟩:=nm (wr.alloc (.cells #[.int .i64 c.kind,.int .i64 c.a,.int .i64 c.b,.int .i64 c.n] 75));have u5:Upd Non wr W5:=by rw [←HW5.out];exact Upd.refl.alloc _
   have b5:Blk W5 cb 75 #[.int .i64 c.kind,.int .i64 c.a,.int .i64 c.b,.int .i64 c.n]:=by rw [←HW5.out,←hcb];exact Blk.new _ _ _
   have z0:=b5.cell 0;have hO5:=HOr.out.upd u5 (fun _ _ f=>f);have HO5:=h_ hO5;have hU5:Upd (·=g) w3 W5:=HUr.out.trans u5 (fun _ _ f=>f.elim);have HU5:=h_ hU5;have hg5:∃v,W5.cell? ⟨g,cn+j,none⟩=some v:=⟨_,hO5.cell_ (i:=cn+j) (by rw [b8s_len,List.length_append,hZl,List.length_replicate];omega)⟩
   obtain ⟨v5,hg5⟩:=hg5;have hf5:=hO5.frozen_ (cn+j);have x17':=u_ (S:=(·=g)) x17 hU5 hgm;clear b5 u5 hO5 hU5 htk;have hk23:(c.kind=2∨c.kind=3)∨(¬c.kind=2∧¬c.kind=3):=by omega
   rcases hk23 with hk | ⟨hk2,hk3⟩
   ·have HCI:Hid (cdIn c=true):=dT_ hk
    have HO6:Hid (Own (W5.setCell ⟨g,cn+j,none⟩ (b8 true)) 5 1 (some ⟨g,0,none⟩) n n (b8s ((Zj++[true])++List.replicate (nc - (j+1)+1) false))):=by
     show Own _ _ _ _ _ _ _;rw [←rep_set,hZl,←b8s_set];exact HO5.out.set_ _ _
    clear hZl;have q2:(0:Int)≤(cn:Int)+(j:Int):=by omega
    have q3:(cn:Int)+(j:Int)<(n:Int):=by have:=HCN.out;omega
    have q4:((cn:Int)+(j:Int)).toNat=cn+j:=by omega
    rcases hk with e | e
    all_goals
     rw [e] at z0;clear e
     go_upto_region 7 with fail
     rw [HW5.out];go_wp2_with fail
     go_roundg (nc - (j+1))
     case measure=>rw [Hg.out];omega
     case rel=>exact ⟨j+1,rfl,by omega,by go_num,by rw [HZ2.out,HCI.out];exact HO6.out,HU5.out.trans (updCell W5 g (cn+j) (b8 true)) (fun _ _ q=>q)⟩
   ·have HCI:Hid (cdIn c=false):=dF_ (by omega);have t2:(c.kind==2)=false:=by simpa using hk2
    have t3:(c.kind==3)=false:=by simpa using hk3
    have HO6:Hid (Own W5 5 1 (some ⟨g,0,none⟩) n n (b8s ((Zj++[false])++List.replicate (nc - (j+1)+1) false))):=by
     show Own _ _ _ _ _ _ _;rw [←rep_no];exact HO5.out
    clear hZl hk2 hk3
    go_upto_region 7 with fail
    rw [HW5.out];go_wp2_with fail
    go_roundg (nc - (j+1))
    case measure=>rw [Hg.out];omega
    case rel=>exact ⟨j+1,rfl,by omega,by go_num,by rw [HZ2.out,HCI.out];exact HO6.out,HU5.out⟩
  ·obtain rfl:nc=j:=by omega
   obtain ⟨w4,rfl⟩:∃x:World,x=wr:=⟨_,rfl⟩
   have hO:Own w4 5 1 (some ⟨g,0,none⟩) n n (b8s (initZ r)):=by
    have:=HOr.out;rw [List.take_of_length_le (by rw [Hnc.out];exact Nat.le_refl _),Nat.sub_self] at this;exact this
   have HO:=h_ hO;have hU3:Upd (·=g) w w4:=(HU1.out.mono (fun _ _ f=>f.elim)).trans (HU2.out.trans HU3.out (fun _ _ q=>q)) (fun _ _ q=>q) |>.trans HUr.out (fun _ _ q=>q)
   have HUW:Hid (Upd Non w w4):=hU3.mono (fun i hi e=>by omega);have hM:=HA3.out.upd HUr.out hgm;have x16:=hM.cell 16;have HGX:=h_ (hG.upd HUW.out (fun _ _ _ f=>f));have HGS:=h_ ((HA.out.gds.mono (G:=fun i=>i<w.heap.size) (fun i hi _=>hi)).upd hU3 (fun i _ hi e=>by omega));have hgl:gs.length=gR r:=by rw [hG.1,gposR_len]
   obtain ⟨gn,Hgn⟩:=nm gs.length;rw [Hgn.out] at x16 hgl;have HGL:=h_ hgl;obtain ⟨G2,HG2⟩:=nm (2 ^ gn);have hG2:G2≤64:=by rw [←HG2.out];exact Nat.le_trans (Nat.pow_le_pow_right (by decide) (show gn≤6 by omega)) (by decide)
   have hsh:wrap64 ((2:Int) ^ gn)=(G2:Int):=by
    have e:((2:Int) ^ gn)=((2 ^ gn:Nat):Int):=by push_cast;rfl
    rw [e,HG2.out];exact wrap64_of (by unfold I64;omega)
   have hgn6:gn≤6:=by omega
   have HM:=h_ hM;clear hO hU3 hG HCD HO3 HU3 x11 x17 HA3 hgl hM;go_wp2_with fail
   go_loopg [6,7,8,9,10,76] G2 (fun gg lv hv _ _ _ _ wx=>∃(h c:Nat) (A:Option Addr),Hid (gg=G2 - h)∧h≤G2∧hv=.int .i64 h∧lv=.slice A h c∧Hid (ElO ElRow 1 44 wx (U8B wx) A h c (((initsF r).take h).map bbs))∧Hid (∀i,At A i→w4.heap.size≤i)∧Hid (Upd Non w4 wx))
   case atStart=>exact ⟨0,0,none,rfl,by omega,rfl,rfl,ElO.none_,fun i hi=>(At.none_ hi).elim,Upd.refl⟩
   case round =>
    obtain ⟨h,c,A,Hg2,hh,rfl,rfl,HE,HAt,HUx⟩:=hrel;obtain ⟨wx,rfl⟩:∃x:World,x=wr:=⟨_,rfl⟩;have y16:=u_ x16 HUx.out (fun f=>f);by_cases hlt:h<G2
    ·have HOx:=HO.out.upd HUx.out (fun _ _ f=>f);have HSL:=h_ HOx.sl;have hzl:(initZ r).length=n:=by have:=HO.out.len;rw [b8s_len] at this;omega
     have HB2:Hid ((b8s (initZ r)).length=n * 1):=by show _=_;rw [b8s_len,hzl];omega
     have HB1:=h_ (b8s_one (initZ r));have HZ:=h_ hzl;obtain ⟨hEL,cs,hoE,hcE⟩:=HE.out;have HHL:=h_ hEL;have hAx:∀i,At A i→i<wx.heap.size:=fun i hi=>hoE.lt hi
     clear HOx hzl hEL
     go_wp2_with (at_builtin;refine wpList_app rfl rfl T_u8s rfl Own.none_ rfl HSL.out HB2.out HB1.out (by simp only [maxLen];omega) (by omega) ?_)
     intro A8 c8 w8 ho8 hu8 hat8;have hn0:0<n:=by have:=HS2.out;omega
     obtain ⟨q,rfl⟩:=ho8.some_ (by omega)
     have hqx:wx.heap.size≤q:=by
      rcases hat8 q (At.some_.2 rfl) with z | z
      ·exact absurd z At.none_
      ·omega
     have u8':Upd Non wx w8:=hu8.mono (fun _ _ z=>(At.none_ z).elim);have z16:=u_ y16 u8' (fun f=>f);have HU8:=h_ u8';have ho8':Own w8 5 1 (some ⟨q,0,none⟩) n c8 (b8s (initZ r)):=by simpa using ho8
     have HO8:=h_ ho8';have HW0:Hid (w.heap.size≤wx.heap.size):=by show _≤_;have h1:=HUW.out.size;have h2:=HUx.out.size;omega
     have HUw8:Hid (Upd Non w w8):=HUW.out.then_non (HUx.out.then_non u8');clear hu8 hat8 ho8 ho8' u8' HSL HB2 HB1;go_wp2_with fail
     go_loopg [9,10,76] gn (fun gg _ _ iv w2=>∃i:Nat,Hid (gg=gn - i)∧i≤gn∧iv=.int .i64 i∧Hid (Own w2 5 1 (some ⟨q,0,none⟩) n c8 (b8s (setG h.testBit ((gposR r).take i) 0 (initZ r))))∧Hid (Upd (·=q) w8 w2))
     case atStart=>exact ⟨0,rfl,by omega,rfl,by rw [List.take_zero];exact HO8.out,Upd.refl⟩
     case round =>
      obtain ⟨i,Hg3,hi,rfl,HO9,HU9⟩:=hrel;obtain ⟨w2,rfl⟩:∃x:World,x=wr:=⟨_,rfl⟩;have hw2q:∀k,k<w.heap.size→¬k=q:=fun k hk e=>by have:=HW0.out;omega
      by_cases hil:i<gn
      ·have hig:i<gs.length:=by rw [Hgn.out];exact hil
       have hip:i<(gposR r).length:=by rw [gposR_len,←HGL.out];exact hil
       have hUw:Upd (·=q) w w2:=(HUw8.out.mono (fun _ _ f=>f.elim)).trans HU9.out (fun _ _ z=>z);obtain ⟨cb,co,eC,_,_,hcc⟩:=(HGS.out.upd ((HUx.out.then_non HU8.out).mono (T:=(·=q)) (fun _ _ f=>f.elim) |>.trans HU9.out (fun _ _ z=>z)) (fun k _ hk=>hw2q k hk)).at_ (k:=i) (by rw [List.length_map];exact hig)
       rw [List.getElem_map] at hcc;have hu42:Upd (·=q) w4 w2:=((HUx.out.then_non HU8.out).mono (T:=(·=q)) (fun _ _ f=>f.elim)).trans HU9.out (fun _ _ z=>z);have h4x:=HUx.out.size;obtain ⟨v,imm,iv,KK,CC,hxb⟩:=((HGX.out.upd hu42 (fun k cs hb hk=>by have:=hb.lt;omega)).2 i hig hip).blk;have y6:=hxb.cell 6;have hlt2:=gposR_lt _ (List.getElem_mem hip);have hst:=setG_snoc h.testBit (gposR r) (initZ r) hip;generalize (gposR r)[i]=qq at *;generalize gs[i]=y at *;obtain ⟨op,at_⟩:=qq;have HST2:=h_ hst;have hat:at_+1<n:=by rw [←Hn.out];exact hlt2
       have hb8:=bit_u8 (h:Int) i (by omega);rw [uW_small (by omega)] at hb8;obtain ⟨rb,Hrb⟩:=nm (h.testBit i);rw [Hrb.out] at hb8 HST2
       have HO10:Hid (Own (w2.setCell ⟨q,at_,none⟩ (b8 rb)) 5 1 (some ⟨q,0,none⟩) n c8 (b8s (setG h.testBit ((gposR r).take (i+1)) 0 (initZ r)))):=by
        show Own _ _ _ _ _ _ _;rw [HST2.out,←b8s_set];exact HO9.out.set_ _ _
       have hc9:∃v,w2.cell? ⟨q,at_,none⟩=some v:=⟨_,HO9.out.cell_ (i:=at_) (by rw [b8s_len,setG_len,HZ.out];omega)⟩;obtain ⟨v9,hc9⟩:=hc9;have hf9:=HO9.out.frozen_ at_;have ai0:(0:Int)≤(at_:Int):=by omega
       have ai1:(at_:Int)<(n:Int):=by omega
       have i0:(0:Int)≤(i:Int):=by omega
       have ign:(i:Int)<(gn:Int):=by omega
       have i64:i<64:=by omega
       subst eC;unfold pp at hcc;clear hst hlt2 hxb hUw hu42 hig hip hat;go_wp2_with fail
       go_roundg (gn - (i+1))
       case measure=>rw [Hg3.out];omega
       case rel=>exact ⟨i+1,rfl,by omega,by go_num,HO10.out,HU9.out.trans (updCell w2 q at_ (b8 rb)) (fun _ _ z=>z)⟩
      ·obtain rfl:gn=i:=by omega
       have hfull:(gposR r).take gn=gposR r:=List.take_of_length_le (by rw [gposR_len,HGL.out];exact Nat.le_refl _);rw [hfull,setG_init] at HO9;have hu92:Upd Non wx w2:=(HU8.out.mono (T:=(·=q)) (fun _ _ f=>f.elim)).trans HU9.out (fun _ _ z=>z) |>.mono (fun k hk e=>by omega);have HU92:=h_ hu92;have hoE2:=hoE.upd hu92 (fun _ _ f=>f);have hqA:¬At A q:=fun z=>by have:=hAx q z;omega
       have hil:(initF h.testBit r).length=n:=by rw [initF_len,Hn.out]
       have HER:=h_ (fun (w':World) (u:Upd Non w2 w')=>elRow_of (K:=fun i=>U8B w' i∧¬At A i) (HO9.out.upd u (fun _ _ f=>f)) hil ⟨own_u8 (HO9.out.upd u (fun _ _ f=>f)),hqA⟩)
       have HCE:=h_ hcE;have hG0:h<64:=by omega
       clear hfull hu92 hil hcE hoE HO9
       go_wp2_with (at_builtin;refine wpList_app rfl rfl T_rows rfl (hoE2.alloc _) rfl (Sl.new _ _ _) rfl (by simp [Value.oneCell']) (by simp only [maxLen];omega) (by omega) ?_;intro A9 c9 w9 ho9 hu9 hat9)
       go_roundg (G2 - (h+1))
       case measure=>rw [Hg2.out];omega
       case rel =>
        have uA:=(HU92.out.alloc (.cells #[.slice (some ⟨q,0,none⟩) n c8] 44));have hE3:=ElO.snoc8 elRow (by decide) HHL.out HCE.out uA (hoE2.alloc _) (HER.out _ (Upd.refl.alloc (.cells #[.slice (some ⟨q,0,none⟩) n c8] 44))) ho9 hu9 hat9
        have htk:(initsF r).take (h+1)=(initsF r).take h++[initF h.testBit r]:=by
         have hl:h<(initsF r).length:=by unfold initsF;rw [List.length_map,List.length_range,←HGL.out,HG2.out];exact hlt
         rw [List.take_succ_eq_append_getElem hl]
         congr 2
         simp [initsF]
        refine ⟨h+1,c9,A9,rfl,by omega,by go_num,rfl,by rw [htk,List.map_append];exact hE3,fun i hi=>?_,?_⟩
        ·rcases hat9 i hi with z | z
         ·exact HAt.out i z
         ·have h1:=uA.size;have h2:=HUx.out.size;omega
        ·exact (HUx.out.then_non uA).trans hu9 (fun i hi z=>by have:=HAt.out i z;omega)
    ·obtain rfl:G2=h:=by omega
     have hfull:(initsF r).take G2=initsF r:=List.take_of_length_le (by unfold initsF;rw [List.length_map,List.length_range,←HGL.out,HG2.out];exact Nat.le_refl _)
     rw [hfull] at HE;have hE2:2 ^ gR r=G2:=by rw [←HGL.out];exact HG2.out
     go_wp2_with fail
     go_ret;exact ⟨A,c,by rw [hE2];rfl,by rw [hE2];exact HE.out,fun i hi=>by have h1:=HAt.out i hi;have h2:=HUW.out.size;omega,HUW.out.then_non HUx.out⟩
end Go.Proofs.Ytdbjgihnngigeaa
namespace Go.Proofs.Ytdbjgihnngigeaa
open Go.RowKit Go.Shelf Go.Sort
def lays6_ren:Go.Shelf.Ren:=⟨fun | 6=>20 | 10=>34 | 11=>35 | 12=>36 | 13=>37 | 14=>38 | 24=>61 | 25=>62 | 26=>63 | 27=>64 | 28=>65 | 29=>66 | 30=>67 | 31=>68 | 32=>69 | 33=>70 | 34=>78 | 35=>79 | 36=>80 | 37=>81 | 38=>82 | 39=>85 | n=>n,fun | 20=>20 | 26=>57 | 35=>89 | 0=>0 | 37=>91 | 3=>3 | 41=>60 | 44=>96 | 49=>121 | 51=>108 | 4=>4 | 54=>125 | 53=>124 | 58=>129 | 5=>5 | 9=>9 | 60=>136 | 64=>140 | 66=>145 | 67=>146 | 17=>17 | 32=>86 | 33=>87 | 82=>161 | 12=>12 | 75=>155 | 76=>156 | 77=>157 | 78=>101 | 79=>158 | 80=>159 | n=>n,fun | n=>n⟩
theorem lays6:Go.Proofs.LaysGg.n6 Try.prog lays6_ren:={
 mixed:=by kernel_rfl
 f6:=Try.func20.trans (congrArg some (by kernel_rfl))
 f10:=Try.func34.trans (congrArg some (by kernel_rfl))
 f11:=Try.func35.trans (congrArg some (by kernel_rfl))
 f12:=Try.func36.trans (congrArg some (by kernel_rfl))
 f13:=Try.func37.trans (congrArg some (by kernel_rfl))
 f14:=Try.func38.trans (congrArg some (by kernel_rfl))
 f24:=Try.func61.trans (congrArg some (by kernel_rfl))
 f25:=Try.func62.trans (congrArg some (by kernel_rfl))
 f26:=Try.func63.trans (congrArg some (by kernel_rfl))
 f27:=Try.func64.trans (congrArg some (by kernel_rfl))
 f28:=Try.func65.trans (congrArg some (by kernel_rfl))
 f29:=Try.func66.trans (congrArg some (by kernel_rfl))
 f30:=Try.func67.trans (congrArg some (by kernel_rfl))
 f31:=Try.func68.trans (congrArg some (by kernel_rfl))
 f32:=Try.func69.trans (congrArg some (by kernel_rfl))
 f33:=Try.func70.trans (congrArg some (by kernel_rfl))
 f34:=Try.func78.trans (congrArg some (by kernel_rfl))
 f35:=Try.func79.trans (congrArg some (by kernel_rfl))
 f36:=Try.func80.trans (congrArg some (by kernel_rfl))
 f37:=Try.func81.trans (congrArg some (by kernel_rfl))
 f38:=Try.func82.trans (congrArg some (by kernel_rfl))
 f39:=Try.func85.trans (congrArg some (by kernel_rfl))
 t0:=Try.underlying0
 a0:=Try.isAgg0
 z0:=Try.sizeOf0
 v0:=Try.zeroValue0
 i0:=by kernel_rfl
 t3:=Try.underlying3
 a3:=Try.isAgg3
 z3:=Try.sizeOf3
 v3:=Try.zeroValue3
 i3:=by kernel_rfl
 t4:=Try.underlying4
 a4:=Try.isAgg4
 z4:=Try.sizeOf4
 v4:=Try.zeroValue4
 i4:=by kernel_rfl
 t5:=Try.underlying5
 a5:=Try.isAgg5
 z5:=Try.sizeOf5
 v5:=Try.zeroValue5
 i5:=by kernel_rfl
 t9:=Try.underlying9
 a9:=Try.isAgg9
 z9:=Try.sizeOf9
 v9:=Try.zeroValue9
 i9:=by kernel_rfl
 t12:=Try.underlying12
 a12:=Try.isAgg12
 z12:=Try.sizeOf12
 v12:=Try.zeroValue12
 i12:=by kernel_rfl
 t17:=Try.underlying17
 a17:=Try.isAgg17
 z17:=Try.sizeOf17
 v17:=Try.zeroValue17
 i17:=by kernel_rfl
 t20:=Try.underlying20
 a20:=Try.isAgg20
 z20:=Try.sizeOf20
 v20:=Try.zeroValue20
 i20:=by kernel_rfl
 t26:=Try.underlying57
 a26:=Try.isAgg57
 z26:=Try.sizeOf57
 v26:=Try.zeroValue57
 i26:=by kernel_rfl
 t32:=Try.underlying86
 a32:=Try.isAgg86
 z32:=Try.sizeOf86
 v32:=Try.zeroValue86
 i32:=by kernel_rfl
 t33:=Try.underlying87
 a33:=Try.isAgg87
 z33:=Try.sizeOf87
 v33:=Try.zeroValue87
 i33:=by kernel_rfl
 t35:=Try.underlying89
 a35:=Try.isAgg89
 z35:=Try.sizeOf89
 v35:=Try.zeroValue89
 i35:=by kernel_rfl
 t37:=Try.underlying91
 a37:=Try.isAgg91
 z37:=Try.sizeOf91
 v37:=Try.zeroValue91
 i37:=by kernel_rfl
 t41:=Try.underlying60
 a41:=Try.isAgg60
 z41:=Try.sizeOf60
 v41:=Try.zeroValue60
 i41:=by kernel_rfl
 t44:=Try.underlying96
 a44:=Try.isAgg96
 z44:=Try.sizeOf96
 v44:=Try.zeroValue96
 i44:=by kernel_rfl
 t49:=Try.underlying121
 a49:=Try.isAgg121
 z49:=Try.sizeOf121
 v49:=Try.zeroValue121
 i49:=by kernel_rfl
 t51:=Try.underlying108
 a51:=Try.isAgg108
 z51:=Try.sizeOf108
 v51:=Try.zeroValue108
 i51:=by kernel_rfl
 t53:=Try.underlying124
 a53:=Try.isAgg124
 z53:=Try.sizeOf124
 v53:=Try.zeroValue124
 i53:=by kernel_rfl
 t54:=Try.underlying125
 a54:=Try.isAgg125
 z54:=Try.sizeOf125
 v54:=Try.zeroValue125
 i54:=by kernel_rfl
 t58:=Try.underlying129
 a58:=Try.isAgg129
 z58:=Try.sizeOf129
 v58:=Try.zeroValue129
 i58:=by kernel_rfl
 t60:=Try.underlying136
 a60:=Try.isAgg136
 z60:=Try.sizeOf136
 v60:=Try.zeroValue136
 i60:=by kernel_rfl
 t64:=Try.underlying140
 a64:=Try.isAgg140
 z64:=Try.sizeOf140
 v64:=Try.zeroValue140
 i64:=by kernel_rfl
 t66:=Try.underlying145
 a66:=Try.isAgg145
 z66:=Try.sizeOf145
 v66:=Try.zeroValue145
 i66:=by kernel_rfl
 t67:=Try.underlying146
 a67:=Try.isAgg146
 z67:=Try.sizeOf146
 v67:=Try.zeroValue146
 i67:=by kernel_rfl
 t75:=Try.underlying155
 a75:=Try.isAgg155
 z75:=Try.sizeOf155
 v75:=Try.zeroValue155
 i75:=by kernel_rfl
 t76:=Try.underlying156
 a76:=Try.isAgg156
 z76:=Try.sizeOf156
 v76:=Try.zeroValue156
 i76:=by kernel_rfl
 t77:=Try.underlying157
 a77:=Try.isAgg157
 z77:=Try.sizeOf157
 v77:=Try.zeroValue157
 i77:=by kernel_rfl
 t78:=Try.underlying101
 a78:=Try.isAgg101
 z78:=Try.sizeOf101
 v78:=Try.zeroValue101
 i78:=by kernel_rfl
 t79:=Try.underlying158
 a79:=Try.isAgg158
 z79:=Try.sizeOf158
 v79:=Try.zeroValue158
 i79:=by kernel_rfl
 t80:=Try.underlying159
 a80:=Try.isAgg159
 z80:=Try.sizeOf159
 v80:=Try.zeroValue159
 i80:=by kernel_rfl
 t82:=Try.underlying161
 a82:=Try.isAgg161
 z82:=Try.sizeOf161
 v82:=Try.zeroValue161
 i82:=by kernel_rfl }
noncomputable def siT:TypeInfo:=(Try.prog.info? 48).get (by kernel_rfl)
noncomputable def siE:TypeInfo:=(Try.prog.info? 44).get (by kernel_rfl)
theorem siK (n:Nat):Go.Lib.swapperK n siE 23=if n=0 then 1 else if n=1 then 2 else 9:=by
 have a:siE.hasPointers=true:=by kernel_rfl
 have b:siE.bytes=24:=by kernel_rfl
 unfold Go.Lib.swapperK;rw [a,b];by_cases h0:n=0
 ·subst h0;rfl
 ·by_cases h1:n=1
  ·subst h1;rfl
  ·rw [if_neg h0,if_neg h1];have c:(n==0)=false:=by simpa using h0
   have d:(n==1)=false:=by simpa using h1
   rw [c,d];rfl
theorem bytesLess_bbs:∀a b:List Bool,Op.bytesLess (bbs a) (bbs b)=ltB a b
 | [],[]=>rfl
 | [],_::_=>rfl
 | _::_,[]=>rfl
 | a::x,b::y=>by
  have ih:=bytesLess_bbs x y;show (decide (bbit a<bbit b) || (bbit a==bbit b&&Op.bytesLess (bbs x) (bbs y)))=if a=b then ltB x y else !a
  rw [ih];cases a <;> cases b <;> rfl
theorem swo_ltB {α:Type} [Inhabited α] (f:α→List Bool):SWO (fun a b=>ltB (f a) (f b)) where
 irrefl:=fun x=>ltB_irrefl _
 trans:=fun x y z h1 h2=>ltB_trans h1 h2
 ntrans:=fun x y z h1 h2=>by
  rw [Bool.eq_false_iff];intro h;rcases ltB_total (f x) (f y) with q | q | q
  ·rw [h1] at q;cases q
  ·rw [q] at h;rw [h2] at h;cases h
  ·rcases ltB_total (f y) (f z) with p | p | p
   ·rw [h2] at p;cases p
   ·rw [←p] at h;rw [h1] at h;cases h
   ·have:=ltB_trans (ltB_trans h p) q;rw [ltB_irrefl] at this;cases this
theorem run_rowstr {w:World} {F:Nat→Prop} {A:Option Addr} {l:List UInt8} {n c:Nat} (h:Sl w F A (u8s l)) (hn:n=l.length):(convert 44 9 (.slice A n c)).run Try.prog w=.ok (.string (kstr l)) w:=by
 have hs:Sl w F A ((l.map fun x=>(x.toNat:Int)).map fun x=>Value.int .u8 x):=by
  rw [List.map_map];exact h
 rw [run_str Try.underlying44 Try.underlying5 Try.underlying9 hs (by simpa using hn),bstr_u8]
theorem kstr_toList (l:List UInt8):(kstr l).toList=l:=by rw [ByteArray.toList_eq];simp [kstr]
set_option maxRecDepth 100000 in
set_option maxHeartbeats 4000000 in
theorem aLess_c {W:World} {RB g off n c i j:Nat} (hs:W.cell? ⟨RB,0,none⟩=some (.slice (some ⟨g,off,none⟩) n c)) (hi:i<n) (hj:j<n) {A1 A2:Option Addr} {F1 F2:Nat→Prop} {c1 c2:Nat} {x y:List Bool}
  (h1:W.cell? ⟨g,off+i,none⟩=some (.slice A1 x.length c1)) (h2:W.cell? ⟨g,off+j,none⟩=some (.slice A2 y.length c2)) (s1:Sl W F1 A1 (u8s (bbs x))) (s2:Sl W F2 A2 (u8s (bbs y))) :
  Calls Try.prog 21 #[.int .i64 i,.int .i64 j,.pointer (some ⟨RB,0,none⟩)] W fun e w'=>e=.returned (.bool (ltB x y))∧∃q,w'=W.drewN q:=by
 have l1:x.length=(bbs x).length:=by unfold bbs;rw [List.length_map]
 have l2:y.length=(bbs y).length:=by unfold bbs;rw [List.length_map]
 obtain ⟨wD,HwD⟩:=nm W.drew;have uD:Upd Non W wD:=by rw [←HwD.out];exact Upd.refl.drew
 have r1:=run_rowstr (c:=c1) (s1.upd uD (fun _ _ _ f=>f)) l1;have r2:=run_rowstr (c:=c2) (s2.upd uD (fun _ _ _ f=>f)) l2;have d0:=u_ hs uD (fun f=>f);have d1:=u_ h1 uD (fun f=>f);have d2:=u_ h2 uD (fun f=>f);have HR:Hid (Op.bytesLess (kstr (bbs x)).toList (kstr (bbs y)).toList=ltB x y):=by show _=_;rw [kstr_toList,kstr_toList,bytesLess_bbs]
 have i0:(0:Int)≤(i:Int):=by omega
 have i1:(i:Int)<(n:Int):=by omega
 have j0:(0:Int)≤(j:Int):=by omega
 have j1:(j:Int)<(n:Int):=by omega
 generalize x.length=xl at *;generalize y.length=yl at *;generalize kstr (bbs x)=sx at *;generalize kstr (bbs y)=sy at *;clear s1 s2 l1 l2 uD hs h1 h2;go_enter Try.func21,Try.ntmps21;go_wp2_with fail
 refine wp_region_held_drew (S:=fun w'=>w'.cell? ⟨RB,0,none⟩=some (.slice (some ⟨g,off,none⟩) n c)∧w'.cell? ⟨g,off+i,none⟩=some (.slice A1 xl c1)∧w'.cell? ⟨g,off+j,none⟩=some (.slice A2 yl c2)∧(convert 44 9 (.slice A1 xl c1)).run Try.prog w'=.ok (.string sx) w'∧(convert 44 9 (.slice A2 yl c2)).run Try.prog w'=.ok (.string sy) w') (by kernel_rfl) (by rw [HwD.out];exact ⟨d0,d1,d2,r1,r2⟩) (fun hHeld=>?_)
 refine wpT 0 ?_;(try simp only [y_,z_]);refine wpT 1 ?_;(try simp only [y_,z_]);refine wpT 2 ?_;(try simp only [y_,z_]);refine wpT 3 ?_;(try simp only [y_,z_]);refine wpT 4 ?_;(try simp only [y_,z_]);refine wpT 5 ?_;(try simp only [y_,z_]);refine wpT 6 ?_;(try simp only [y_,z_]);refine wpT 7 ?_;(try simp only [y_,z_]);refine wpT 8 ?_;(try simp only [y_,z_]);refine wpT 9 ?_;(try simp only [y_,z_]);refine wpT 10 ?_;(try simp only [y_,z_]);refine wpT 11 ?_;(try simp only [y_,z_]);refine aD_ (by kernel_rfl) ?_ _;go_wp2_with fail
 go_ret;exact ⟨by rw [←HR.out];rfl,1,rfl⟩
theorem upd_grow (w:World) (os:Array Obj):Upd Non w (grow w os):=⟨rfl,rfl,rfl,by show w.heap.size≤(w.heap++os).size;rw [Array.size_append];omega,fun k hk _=>by show (w.heap++os)[k]?=_;rw [Array.getElem?_append_left hk]⟩
theorem upd_putRow {α:Type} [Inhabited α] (enc:α→Value) (w:World) (g off:Nat) (d:Array α):Upd (·=g) w (putRow enc w g off d):=⟨rfl,rfl,rfl,by show w.heap.size≤(w.heap.modify g _).size;rw [Array.size_modify];exact Nat.le_refl _,fun k _ hk=>by show (w.heap.modify g _)[k]?=_;rw [Array.getElem?_modify,if_neg (fun e=>hk e.symm)]⟩
theorem upd_sortW {α:Type} [Inhabited α] (enc:α→Value) (w:World) (g off m:Nat) (d:Array α) (os:Array Obj):Upd (·=g) w (sortWorld enc w g off m d os) :=
 ((show Upd (·=g) w (Sort.ahead w m) from ⟨rfl,rfl,rfl,Nat.le_refl _,fun _ _ _=>rfl⟩).trans (upd_putRow enc _ g off d) (fun _ _ q=>q)).trans (upd_grow _ os) (fun _ _ f=>f.elim)
def setL:List Value→Nat→List Value→List Value
 | cs,_,[]=>cs
 | cs,o,v::r=>setL (cs.set o v) (o+1) r
theorem setL_eq:∀(vs cs:List Value) (o:Nat),o+vs.length≤cs.length→setL cs o vs=cs.take o++(vs++cs.drop (o+vs.length))
 | [],cs,o,_=>by simp [setL]
 | v::r,cs,o,h=>by
  rw [List.length_cons] at h;rw [setL,setL_eq r _ _ (by rw [List.length_set];omega)]
  have e1:(cs.set o v).take (o+1)=cs.take o++[v]:=by
   rw [List.take_succ_eq_append_getElem (by rw [List.length_set];omega),List.getElem_set_self,List.take_set_of_le (Nat.le_refl _)]
  rw [e1,List.drop_set_of_lt (by omega),List.length_cons,List.append_assoc,show o+1+r.length=o+(r.length+1) by omega];rfl
theorem Own.sets {e:TypeId} {g n c:Nat}:∀(vs:List Value) (o:Nat) (w:World) (cs:List Value),Own w e 1 (some ⟨g,0,none⟩) n c cs→Own (w.setCells g o vs) e 1 (some ⟨g,0,none⟩) n c (setL cs o vs)
 | [],_,_,_,h=>h
 | v::r,o,_,_,h=>Own.sets r (o+1) _ _ (h.set_ o v)
set_option maxRecDepth 100000 in
set_option maxHeartbeats 4000000 in
theorem aSort_c {w:World} {RB:Nat} {A:Option Addr} {n c:Nat} {G:Nat→Prop} {L:List (List Bool)} (hE:ElO ElRow 1 44 w G A n c (L.map bbs)) (hRB:w.cell? ⟨RB,0,none⟩=some (.slice A n c)) (hRA:¬At A RB) (hn:n≤1000000000) :
  Calls Try.prog 20 #[.iface 48 (.slice A n c),.func (.func 21) #[] #[.pointer (some ⟨RB,0,none⟩)]] w fun e w'=>e=.returned (.tuple #[])∧∃L':List (List Bool),L'.Perm L∧L'.Pairwise (fun a b=>ltB b a=false)∧ElO ElRow 1 44 w' G A n c (L'.map bbs)∧Upd (At A) w w':=by
 have hnL:n=L.length:=by have:=hE.1;rw [List.length_map] at this;exact this
 by_cases h2:2≤n
 ·obtain ⟨_,cs,hO,hC⟩:=hE;obtain ⟨g,rfl⟩:=hO.some_ (by omega);have hcl:cs.length=n:=by rw [hO.len,Nat.mul_one]
  have hgR:RB≠g:=fun e=>hRA (At.some_.2 e)
  have hrow:∀k:Nat,∃RA rc,cs.getD k (.slice none 0 0)=.slice RA (L.getD k []).length rc∧(L.getD k []).length≤rc∧Sl w (fun i=>G i∧¬At (some ⟨g,0,none⟩) i) RA (u8s (bbs (L.getD k []))):=fun k=>by
   by_cases hk:k<n
   ·have h1:=hC.2 k (by rw [List.length_map];omega);obtain ⟨RA,rc,e1,e2,e3⟩:=h1;rw [List.getElem_map] at e1 e2 e3
    have hg:cs[k]?=some (.slice RA (bbs L[k]).length rc):=by
     have : ((cs.drop (1 * k)).take 1)[0]?=some (.slice RA (bbs L[k]).length rc):=by rw [e1];rfl
     rw [List.getElem?_take,if_pos (by decide),List.getElem?_drop] at this;simpa using this
    have hL:L.getD k []=L[k]:=getD_of (by omega);have hbl:(bbs L[k]).length=L[k].length:=by unfold bbs;rw [List.length_map]
    rw [hbl] at hg e2;refine ⟨RA,rc,?_,?_,?_⟩
    ·rw [List.getD_eq_getElem?_getD,hg,hL];rfl
    ·rw [hL];exact e2
    ·rw [hL];exact e3
   ·have hL:L.getD k []=[]:=by rw [List.getD_eq_getElem?_getD,List.getElem?_eq_none (by omega)];rfl
    refine ⟨none,0,?_,?_,?_⟩
    ·rw [List.getD_eq_getElem?_getD,List.getElem?_eq_none (by omega),hL];rfl
    ·rw [hL];exact Nat.le_refl _
    ·rw [hL];exact .inl rfl
  obtain ⟨enc,henc⟩:∃f:Nat→Value,f=fun k=>cs.getD k (.slice none 0 0):=⟨_,rfl⟩
  have hencv:∀k,enc k=cs.getD k (.slice none 0 0):=fun k=>by rw [henc]
  have hone:∀x,(enc x).oneCell'=true:=fun x=>by
   obtain ⟨RA,rc,e1,_⟩:=hrow x;rw [hencv,e1];rfl
  have hd:∀j,j<n→(Array.range n)[j]! = j:=fun j hj=>by simp [hj]
  have hH:Holds enc w g 0 (Array.range n):=fun j hj=>by
   rw [Array.size_range] at hj;refine ⟨?_,hO.frozen_ _⟩;rw [Nat.zero_add,hO.cell_ (i:=j) (by omega),hd j hj,hencv,getD_of (by omega)]
  have hgw:g<w.heap.size:=hO.lt (At.some_.2 rfl)
  have hless:LessReads Try.prog 21 #[.pointer (some ⟨RB,0,none⟩)] enc (fun a b=>ltB (L.getD a []) (L.getD b [])) g 0 n w:=by
   intro m os dk hs i j hi hj;have u:=upd_sortW enc w g 0 m dk os
   have hcell:∀t,t<n→(sortWorld enc w g 0 m dk os).cell? ⟨g,0+t,none⟩=some (enc dk[t]!):=fun t ht=>by
    unfold sortWorld;rw [cell?_grow _ _ _ (by show g<(w.heap.modify g _).size;rw [Array.size_modify];exact hgw)];exact cell?_putRow enc _ g 0 (Array.range n) dk (holds_ahead _ _ _ _ _ _ hH) (by rw [hs,Array.size_range]) t (by omega)
   obtain ⟨R1,c1,a1,a2,a3⟩:=hrow dk[i]!;obtain ⟨R2,c2,b1,b2,b3⟩:=hrow dk[j]!;have h1:=hcell i hi;have h2:=hcell j hj;rw [hencv,a1] at h1;rw [hencv,b1] at h2;exact aLess_c (u_ (S:=(·=g)) hRB u hgR) hi hj h1 h2 (a3.upd u (fun k _ q e=>q.2 (At.some_.2 e))) (b3.upd u (fun k _ q e=>q.2 (At.some_.2 e)))
  have hS:=Any.sort_Slice_sorted lays6 48 44 siT siE (by kernel_rfl) (by kernel_rfl) (by kernel_rfl) (by kernel_rfl) 23 (fun _=>by kernel_rfl) (by kernel_rfl) (fun _=>by kernel_rfl) enc hone (fun a b=>ltB (L.getD a []) (L.getD b [])) (swo_ltB _) 21 _
   (enters_of Try.func21 (by kernel_rfl) rfl) g 0 c (Array.range n) (by rw [Array.size_range];exact h2) (by rw [Array.size_range];omega) 60 (by rw [siK,Array.size_range,if_neg (by omega),if_neg (by omega)];kernel_rfl) false
   (fun args W=>run_callFunc_extern Try.func60 (by kernel_rfl) (by kernel_rfl) (by kernel_rfl) (e:=Extern.ReflectliteSwapper.swap false) (by kernel_rfl) args W) w (by rw [Array.size_range];exact hless) hH hgw
  rw [Array.size_range] at hS
  change Calls Try.prog 20 _ _ _ at hS
  refine hS.mono ?_;rintro e w' ⟨rfl,d',q,os,hp,hso,rfl⟩;obtain ⟨hp1,hp2,hp3⟩:=hp;rw [Array.size_range] at hp1;have hx1:d'.extract 0 n=d':=by rw [←hp1];simp
  have hx2:(Array.range n).extract 0 n=Array.range n:=by
   have : (Array.range n).size=n:=Array.size_range
   conv=>lhs;arg 3;rw [←this]
   simp
  rw [hx1,hx2,Array.toList_range] at hp3;have hys:d'.toList.length=(Array.range n).size:=by rw [Array.length_toList,hp1,Array.size_range]
  have hw':=Go.Lib.sorted_world enc w g 0 q (Array.range n) d'.toList os hH hys;rw [Array.toArray_toList] at hw';refine ⟨rfl,d'.toList.map (fun k=>L.getD k []),?_,?_,?_,?_⟩
  ·have h1:=hp3.map (fun k=>L.getD k []);refine h1.trans ?_
   have h3:(List.range n).map (fun k=>L.getD k [])=L:=by
    refine List.ext_getElem (by rw [List.length_map,List.length_range,hnL]) fun i h1 h2=>?_
    rw [List.getElem_map,List.getElem_range,getD_of h2]
   rw [h3]
  ·rw [List.pairwise_map];refine List.pairwise_iff_getElem.2 fun i j hi hj hij=>?_
   rw [Array.length_toList] at hi hj;have:=hso i j (Nat.zero_le _) hij (by omega);rw [getElem!_pos d' i hi,getElem!_pos d' j hj] at this;rw [Array.getElem_toList,Array.getElem_toList];exact this
  ·rw [hw'];refine ⟨by rw [List.length_map,List.length_map,Array.length_toList,hp1],setL cs 0 (d'.toList.map enc),?_,?_⟩
   ·exact (Own.sets _ 0 _ _ ((hO.drewN q))).upd (upd_grow _ os) (fun _ _ f=>f)
   ·have hl:(d'.toList.map enc).length=cs.length:=by rw [List.length_map,Array.length_toList,hp1,hcl]
    rw [setL_eq _ _ _ (by omega),List.take_zero,List.nil_append,Nat.zero_add,hl,List.drop_length,List.append_nil];refine ⟨by rw [List.length_map,List.length_map,List.length_map,Nat.one_mul],fun i hi=>?_⟩;rw [List.length_map,List.length_map] at hi;obtain ⟨RA,rc,e1,e2,e3⟩:=hrow (d'.toList[i]);have hbl:(bbs (L.getD d'.toList[i] [])).length=(L.getD d'.toList[i] []).length:=by unfold bbs;rw [List.length_map]
    have u:Upd (·=g) w (grow ((w.drewN q).setCells g 0 (d'.toList.map enc)) os):=((Upd.refl.drewN q (S:=(·=g))).trans (upd_setCells g _ 0 _) (fun _ _ q=>q)).trans (upd_grow _ os) (fun _ _ f=>f.elim)
    refine ⟨RA,rc,?_,?_,?_⟩
    ·rw [List.getElem_map,List.getElem_map,hbl,←e1,←hencv,Nat.one_mul];rw [List.drop_eq_getElem_cons (by rw [List.length_map];exact hi),List.take_succ_cons,List.take_zero,List.getElem_map]
    ·rw [List.getElem_map,List.getElem_map,hbl];exact e2
    ·rw [List.getElem_map,List.getElem_map];exact e3.upd u (fun k _ q e=>q.2 (At.some_.2 e))
  ·rw [hw'];exact (((Upd.refl.drewN q (S:=(·=g))).trans (upd_setCells g _ 0 _) (fun _ _ q=>q)).trans (upd_grow _ os) (fun _ _ f=>f.elim)).mono (fun i _ q=>At.some_.2 q)
 ·have hK:Go.Lib.swapperK n siE 23=n+1:=by
   rw [siK];rcases Nat.eq_zero_or_pos n with h | h
   ·rw [if_pos h,h]
   ·rw [if_neg (by omega),if_pos (by omega)];omega
  have hS:=Any.sort_Slice_tiny lays6 48 44 siT siE (by kernel_rfl) (by kernel_rfl) (by kernel_rfl) (by kernel_rfl) 23 (fun _=>by kernel_rfl) A n c (by omega) (if n=0 then 52 else 53) (by
   rw [hK];rcases Nat.eq_zero_or_pos n with h | h
   ·subst h;kernel_rfl
   ·obtain rfl:n=1:=by omega
    kernel_rfl) (.func 21) #[] #[.pointer (some ⟨RB,0,none⟩)] w
  change Calls Try.prog 20 _ _ _ at hS
  refine hS.mono ?_;rintro e w' ⟨rfl,os,rfl⟩;have u:=upd_grow w os;refine ⟨rfl,L,List.Perm.refl _,?_,hE.upd elRow u (fun _ _ f=>f) (fun _ _ _ f=>f),u.mono (fun _ _ f=>f.elim)⟩
  match L,hnL with
  | [],_=>exact List.Pairwise.nil
  | [x],_=>exact List.pairwise_singleton _ _
  | x::y::r,h=>simp at h;omega
theorem srt_of {L M:List (List Bool)} (hs:L.Pairwise (fun a b=>ltB b a=false)) (hn:L.Nodup) (hM:SrtB M) (h:∀x,x∈L↔x∈M):L=M:=by
 refine srt_ext ?_ hM h;unfold SrtB;refine (List.Pairwise.and hs hn).imp fun {a b} q=>?_
 rcases ltB_total a b with z | z | z
 ·exact z
 ·exact (q.2 z).elim
 ·rw [q.1] at z;cases z
theorem inO_inj {op:Int} (n:Nat) (h:isG op=true) {a b:Bool} (e:inO op n a=inO op n b):a=b:=by
 unfold isG at h;have h:=of_decide_eq_true h;have : op=15∨op=16∨op=17∨op=18∨op=19∨op=22:=by omega
 rcases this with rfl | rfl | rfl | rfl | rfl | rfl <;> (cases a <;> cases b <;> first | rfl | (exfalso;simp [inO,isG] at e))
theorem inP_inj {f g:Nat→Bool} (p:Pt):∀i,inP f p i=inP g p i→∀j,j<gN p→f (i+j)=g (i+j):=by
 induction p using Pt.ind with
 | h p ih =>
  intro i h j hj;rw [inP_iff,inP_iff] at h;rw [gN_iff] at hj;by_cases hv:0<p.v
  ·rw [if_pos hv] at hj;omega
  ·rw [if_neg hv,if_neg hv] at h;rw [if_neg hv] at hj;obtain ⟨h1,h2⟩:=List.append_inj h (by rw [inO_len,inO_len])
   have hl:∀(l:List Pt),(∀q∈l,q∈p.kids)→∀i,inL f l i=inL g l i→∀j,j<gL l→f (i+j)=g (i+j):=by
    intro l
    induction l with
    | nil=>intro _ i _ j hj;simp [gL] at hj
    | cons q qs ihl =>
     intro hq i h j hj;rw [inL,inL] at h;rw [gL] at hj;obtain ⟨h1,h2⟩:=List.append_inj h (by rw [inP_len,inP_len]);by_cases hlt:j<gN q
     ·exact ih q (hq q (by simp)) i h1 j hlt
     ·have:=ihl (fun x hx=>hq x (by simp [hx])) (i+gN q) h2 (j - gN q) (by omega)
      rwa [show i+gN q+(j - gN q)=i+j by omega] at this
   cases hg:isG p.op with
   | false =>
    rw [hg] at hj h2;have:=hl p.kids (fun q h=>h) _ h2 j (by simpa using hj);simpa using this
   | true =>
    rw [hg] at hj h2;by_cases h0:j=0
    ·subst h0;rw [Nat.add_zero];exact inO_inj _ hg h1
    ·have:=hl p.kids (fun q h=>h) _ h2 (j - 1) (by simp at hj;omega)
     rwa [show i+true.toNat+(j - 1)=i+j by simp;omega] at this
theorem initF_inj {f g:Nat→Bool} {r:Rl} (h:initF f r=initF g r):∀j,j<gR r→f j=g j:=by
 intro j hj;unfold initF at h;rw [List.append_assoc,List.append_assoc,List.append_assoc,List.append_assoc] at h;obtain ⟨h1,h2⟩:=List.append_inj h (by rw [inP_len,inP_len]);obtain ⟨h3,_⟩:=List.append_inj h2 (by rw [inP_len,inP_len]);unfold gR at hj;by_cases hlt:j<gN r.l
 ·have:=inP_inj _ 0 h1 j hlt
  rwa [Nat.zero_add] at this
 ·have:=inP_inj _ _ h3 (j - gN r.l) (by omega)
  rwa [show gN r.l+(j - gN r.l)=j by omega] at this
theorem initsF_nodup (r:Rl):(initsF r).Nodup:=by
 unfold initsF;rw [List.Nodup,List.pairwise_map];refine (List.pairwise_lt_range (n:=2 ^ gR r)).imp_of_mem fun {a b} ha hb hab e=>?_
 rw [List.mem_range] at ha hb;have h:=initF_inj e
 have : a=b:=by
  refine Nat.eq_of_testBit_eq fun i=>?_
  by_cases hi:i<gR r
  ·exact h i hi
  ·rw [Nat.testBit_lt_two_pow (Nat.lt_of_lt_of_le ha (Nat.pow_le_pow_right (by decide) (by omega))),Nat.testBit_lt_two_pow (Nat.lt_of_lt_of_le hb (Nat.pow_le_pow_right (by decide) (by omega)))]
 omega
theorem initsF_len (r:Rl):(initsF r).length=2 ^ gR r:=by unfold initsF;rw [List.length_map,List.length_range]
theorem succsF_len (r:Rl) (k:Nat) (b:List Bool):(succsF r k b).length=2 ^ r.vars.toNat:=by unfold succsF;rw [List.length_map,List.length_range]
theorem autF_not {r:Rl} (h:applF r=false):autF r=none:=by unfold autF;rw [if_neg (by rw [h];simp)]
theorem autF_long {r:Rl} {k:Nat} (hk:k≤64) {P:List (Nat×List Bool)} (hP:P.Sublist (lvls r (k+1))) (h:4096<P.length):autF r=none:=by
 have h1:=hP.length_le;have h2:=lvls_mono r (show k+1≤65 by omega);unfold autF;rw [if_neg (by omega)]
theorem autF_bad {r:Rl} {b:List Bool} (hb:b∈lvl r 64) (h:safeF r b=false):autF r=none:=by
 unfold autF;rw [if_neg];rintro ⟨_,_,q⟩;have:=List.all_eq_true.1 q b hb;rw [h] at this;cases this
theorem ba_beq (s q:ByteArray):(s==q)=decide (s=q):=by
 rcases s with ⟨s⟩;rcases q with ⟨q⟩
 show (s==q)=_;rw [Bool.eq_iff_iff];simp
def lookS:List MapEntry→ByteArray→Option Value
 | [],_=>none
 | e::es,s=>match e.key with
  | .string k=>if s=k then some e.val else lookS es s
  | _=>lookS es s
def SMap (w:World) (b:Nat) (m:ByteArray→Option Value):Prop :=
 ∃es clock,w.heap[b]?=some (.map es clock)∧(∀e∈es.toList,∃s,e.key=.string s)∧∀s,lookS es.toList s=m s
section
variable {P:Program} {w w':World} {b:Nat} {m:ByteArray→Option Value}
theorem SMap.new (w:World):SMap (w.alloc (.map #[] 0)) w.heap.size (fun _=>none):=⟨#[],0,heap_alloc_new w _,by simp,fun _=>rfl⟩
theorem SMap.upd {S:Nat→Prop} (h:SMap w b m) (u:Upd S w w') (hS:¬S b):SMap w' b m:=by
 obtain ⟨es,clock,hb,h1,h2⟩:=h;exact ⟨es,clock,(u.block b (lt_of_heap hb) hS).trans hb,h1,h2⟩
theorem findNow_str (s:ByteArray):∀(es:List MapEntry) (i:Nat),(∀e∈es,∃s,e.key=.string s)→∃r,Instr.findNow .string (.string s) es i=some r∧r.map (·.2)=lookS es s ∧
  (∀j v,r=some (j,v)→∃k,j=i+k∧k<es.length∧(es[k]?).map (·.key)=some (.string s)∧∀s' x,lookS (es.modify k fun e=>{ e with key:=.string s,val:=x }) s'=if s'=s then some x else lookS es s') ∧
  (r=none→∀s' x c,lookS (es++[{ key:=.string s,val:=x,born:=c }]) s'=if s'=s then some x else lookS es s'):=by
 intro es
 induction es with
 | nil =>
  intro i _;refine ⟨none,rfl,rfl,by simp,fun _ s' x c=>?_⟩;simp only [List.nil_append,lookS]
 | cons e es ih =>
  intro i hk;obtain ⟨q,hq⟩:=hk e (by simp);obtain ⟨r,h1,h2,h3,h4⟩:=ih (i+1) (fun x hx=>hk x (by simp [hx]));by_cases he:s=q
  ·subst he;refine ⟨some (i,e.val),by simp [Instr.findNow,Instr.sameNow,hq,ba_beq],by simp [lookS,hq],?_,by simp⟩;rintro j v ⟨⟩;refine ⟨0,rfl,by simp,by simp [hq],fun s' x=>?_⟩;simp only [List.modify_zero_cons,lookS,hq]
   split <;> simp_all
  ·have hb:(s==q)=false:=by simpa [ba_beq] using he
   refine ⟨r,by simp [Instr.findNow,Instr.sameNow,hq,hb,h1],by simp [lookS,hq,he,h2],?_,?_⟩
   ·rintro j v rfl;obtain ⟨k,rfl,hkl,hkk,hm⟩:=h3 j v rfl;refine ⟨k+1,by omega,by simpa using hkl,by simpa using hkk,fun s' x=>?_⟩;simp only [List.modify_succ_cons,lookS,hq,hm]
    split
    ·rename_i e2;subst e2;rw [if_neg (fun h=>he h.symm)]
    ·rfl
   ·intro hr s' x c;simp only [List.cons_append,lookS,hq,h4 hr]
    split
    ·rename_i e2;subst e2;rw [if_neg (fun h=>he h.symm)]
    ·rfl
theorem checkKey_string {k:TypeId} (hk:P.underlying k=some .string) (b:Bool) (n:Nat) (s:ByteArray):(Instr.checkKey b (n+1) k (.string s)).run P w=.ok () w:=by
 simp [Instr.checkKey,run_underlying hk]
theorem SMap.look1 {t k e:TypeId} (ht:P.underlying t=some (.map k e)) (hk:P.underlying k=some .string) {z:Value} (hz:(zeroValue e).run P w=.ok z w) (h:SMap w b m) (s:ByteArray) :
  (Instr.lookup t (.map (some b)) (.string s) false).run P w=.ok ((m s).getD z) w:=by
 obtain ⟨es,clock,hb,h1,h2⟩:=h;obtain ⟨r,hr,hm,_⟩:=findNow_str s es.toList 0 h1;have hg:(getObj b).run P w=.ok (.map es clock) w:=by simp [getObj,Sem.run,hb]
 rw [←h2 s,←hm]
 cases r with
 | none=>simp [Instr.lookup,run_underlying ht,run_underlying hk,hg,checkKey_string hk,Instr.findKey,hr,hz]
 | some p=>simp [Instr.lookup,run_underlying ht,run_underlying hk,hg,checkKey_string hk,Instr.findKey,hr]
theorem SMap.store {t k e:TypeId} (ht:P.underlying t=some (.map k e)) (hk:P.underlying k=some .string) (h:SMap w b m) (s:ByteArray) (v:Value) :
  ∃w',(Instr.mapUpdate t (.map (some b)) (.string s) v).run P w=.ok () w'∧SMap w' b (fun x=>if x=s then some v else m x)∧Upd (·=b) w w':=by
 obtain ⟨es,clock,hb,h1,h2⟩:=h;obtain ⟨r,hr,hm,h3,h4⟩:=findNow_str s es.toList 0 h1;have hg:(getObj b).run P w=.ok (.map es clock) w:=by simp [getObj,Sem.run,hb]
 have hset:∀o,(setObj b o).run P w=.ok () { w with heap:=w.heap.setIfInBounds b o }:=fun o=>by simp [setObj,Sem.run,hb]
 have hU:∀o,Upd (·=b) w { w with heap:=w.heap.setIfInBounds b o }:=fun o=>⟨rfl,rfl,rfl,by simp,fun j hj hne=>by simp [Ne.symm hne]⟩
 have hlt:=lt_of_heap hb
 cases r with
 | none =>
  refine ⟨{ w with heap:=w.heap.setIfInBounds b (.map (es.push { key:=.string s,val:=v,born:=clock }) (clock+1)) },by simp [Instr.mapUpdate,run_underlying ht,hg,checkKey_string hk,Instr.findKey,run_underlying hk,hr,hset],?_,hU _⟩
  refine ⟨es.push { key:=.string s,val:=v,born:=clock },clock+1,by simp [hlt],?_,fun s'=>?_⟩
  ·intro e he;rw [Array.toList_push] at he;rcases List.mem_append.1 he with he | he
   ·exact h1 e he
   ·simp at he;subst he;exact ⟨s,rfl⟩
  ·rw [Array.toList_push,h4 rfl];simp only [h2]
 | some p =>
  obtain ⟨j,v0⟩:=p;obtain ⟨kk,hj,hkl,hkk,hmod⟩:=h3 j v0 rfl;have hj':j=kk:=by omega
  subst hj'
  have hkey:((es[j]?).map (·.key)).getD (.string s)=.string s:=by
   have : es.toList[j]?=es[j]?:=by simp
   rw [←this,hkk];rfl
  have hst:(Instr.keyThatStays (.string s) (.string s)).run P w=.ok (.string s) w:=by simp [Instr.keyThatStays,Instr.sameBits,ba_beq]
  refine ⟨{ w with heap:=w.heap.setIfInBounds b (.map (es.modify j fun e=>{ e with key:=.string s,val:=v }) clock) },by simp [Instr.mapUpdate,run_underlying ht,hg,checkKey_string hk,Instr.findKey,run_underlying hk,hr,hkey,hst,hset],?_,hU _⟩
  refine ⟨es.modify j fun e=>{ e with key:=.string s,val:=v },clock,by simp [hlt],?_,fun s'=>?_⟩
  ·intro e he;rw [Array.toList_modify] at he;obtain ⟨i,hi,rfl⟩:=List.mem_iff_getElem.1 he;rw [List.getElem_modify]
   split
   ·exact ⟨s,rfl⟩
   ·exact h1 _ (List.getElem_mem _)
  ·rw [Array.toList_modify,hmod];simp only [h2]
end
def ElAS (w:World) (K:Nat→Prop) (cs:List Value) (x:AS):Prop:=∃RA rc,cs=[.int .i64 x.at_,.slice RA x.bits.length rc]∧x.bits.length≤rc∧Sl w K RA (u8s x.bits)
theorem elAS:ElOk ElAS 2 where
 len:=fun ⟨_,_,h,_⟩=>by rw [h];rfl
 upd:=fun ⟨RA,rc,h1,h2,h3⟩ u d hK=>⟨RA,rc,h1,h2,(h3.mono (G:=fun i=>_∧_) (fun i hi h=>⟨hK i hi h,d i hi h⟩)).upd u (fun _ _ h=>h.2) |>.mono (fun _ _ h=>h.1)⟩
theorem T_AStates:SlT Try.prog 29 46 2 32:=by
 obtain ⟨i,h1,h2,h3,h4⟩:=info_parts (show (Try.prog.info? 46).map (fun i=>(i.zero,i.size,i.bytes))=some (some (.agg #[.int .i64 0,.slice none 0 0]),2,32) from by kernel_rfl)
 exact ⟨Try.underlying29,⟨i,_,h1,h2,h3,h4,rfl⟩,by omega⟩
theorem rows_at {w:World} {G:Nat→Prop} {A:Option Addr} {n c:Nat} {L:List (List UInt8)} (h:ElO ElRow 1 44 w G A n c L) {i:Nat} (hi:i<L.length):∃g RA rc,A=some ⟨g,0,none⟩∧w.cell? ⟨g,i,none⟩=some (.slice RA L[i].length rc)∧L[i].length≤rc∧Sl w (fun i=>G i∧¬At A i) RA (u8s L[i]):=by
 obtain ⟨hn,cs,hO,hC⟩:=h;obtain ⟨g,rfl⟩:=hO.some_ (by omega);have hcl:cs.length=n:=by rw [hO.len,Nat.mul_one]
 obtain ⟨el,he,RA,rc,e1,e2,e3⟩:=hC.get hi;refine ⟨g,RA,rc,rfl,?_,e2,e3⟩;have h0:=he 0 (by decide);rw [e1,Nat.one_mul,Nat.add_zero] at h0;rw [hO.cell_ (i:=i) (by omega),←List.getElem?_eq_getElem,h0];rfl
theorem SMap.ne_blk {w:World} {b i:Nat} {m:ByteArray→Option Value} {t:TypeId} {cs:Array Value} (h:SMap w b m) (hb:Blk w i t cs):i≠b:=by
 rintro rfl;obtain ⟨es,clock,h1,_⟩:=h;unfold Blk at hb;rw [hb] at h1;cases h1
theorem SMap.ne_own {w:World} {b:Nat} {m:ByteArray→Option Value} {e:TypeId} {size:Nat} {A:Option Addr} {n c:Nat} {cs:List Value} (h:SMap w b m) (ho:Own w e size A n c cs):¬At A b:=by
 rcases ho.cases with ⟨rfl,_⟩ | ⟨g,cur,rfl,hb,_⟩
 ·exact At.none_
 ·rw [At.some_];exact (h.ne_blk hb).symm
def seenV (T:List (List Bool)) (s:ByteArray):Option Value:=if (T.any fun x=>decide (s=kstr (bbs x)))=true then some (.bool true) else none
theorem seenV_nil:seenV []=fun _=>none:=by funext s;rfl
theorem seenV_snoc (T:List (List Bool)) (x:List Bool):(fun s=>if s=kstr (bbs x) then some (.bool true) else seenV T s)=seenV (T++[x]):=by
 funext s
 unfold seenV;rw [List.any_append];by_cases h:s=kstr (bbs x)
 ·rw [if_pos h,if_pos (by simp [h])]
 ·rw [if_neg h];simp [h]
theorem seenV_get (T:List (List Bool)) (x:List Bool):(seenV T (kstr (bbs x))).getD (.bool false)=.bool (decide (x∈T)):=by
 unfold seenV
 have e:(T.any fun y=>decide (kstr (bbs x)=kstr (bbs y)))=decide (x∈T):=by
  rw [Bool.eq_iff_iff,List.any_eq_true,decide_eq_true_eq];constructor
  ·rintro ⟨y,hy,q⟩;have q:=of_decide_eq_true q;rw [kstr_inj] at q
   rwa [bbs_inj q]
  ·intro h;exact ⟨x,h,dT_ rfl⟩
 rw [e];cases decide (x∈T) <;> rfl
structure PvR (w2 wr:World) (B RB tb mb k:Nat) (r:Rl) (A:Option Addr) (n c:Nat) (OA:Option Addr) (on oc:Nat) (TA:Option Addr) (tn tc:Nat) (O:List (Nat×List Bool)) (T:List (List Bool)):Prop where
 row:Blk wr RB 48 #[.slice A n c]
 el:ElO ElRow 1 44 wr (U8B wr) A n c ((lvl r k).map bbs)
 out:ElO ElAS 2 46 wr (U8B wr) OA on oc (O.map asE)
 thn:ElO ElRow 1 44 wr (U8B wr) TA tn tc (T.map bbs)
 seen:SMap wr mb (seenV T)
 upd:Upd (B≤·) w2 wr
 b1:B≤RB
 b2:∀i,At A i→B≤i∧i<tb
 b3:∀i,At OA i→B≤i
 b4:∀i,At TA i→tb≤i
 b5:B≤mb
 b6:B≤tb∧tb≤wr.heap.size
section
variable {w2 wr:World} {B RB tb mb k:Nat} {r:Rl} {A:Option Addr} {n c:Nat} {OA:Option Addr} {on oc:Nat} {TA:Option Addr} {tn tc:Nat} {O:List (Nat×List Bool)} {T:List (List Bool)}
theorem PvR.non (h:PvR w2 wr B RB tb mb k r A n c OA on oc TA tn tc O T) {w':World} (u:Upd Non wr w'):PvR w2 w' B RB tb mb k r A n c OA on oc TA tn tc O T :=
 ⟨h.row.upd u (fun f=>f),h.el.u8 elRow u (fun _ _ f=>f) (fun _ _ _ f=>f),h.out.u8 elAS u (fun _ _ f=>f) (fun _ _ _ f=>f),h.thn.u8 elRow u (fun _ _ f=>f) (fun _ _ _ f=>f),h.seen.upd u (fun f=>f),h.upd.then_non u,h.b1,h.b2,h.b3,h.b4,h.b5,h.b6.1,Nat.le_trans h.b6.2 u.size⟩
theorem PvR.addO (h:PvR w2 wr B RB tb mb k r A n c OA on oc TA tn tc O T) {w3 w4:World} (u3:Upd Non wr w3) {cs:List Value} (hO:Own wr 46 2 OA on oc cs) (hC:ElCells ElAS 2 wr (fun i=>U8B wr i∧¬At OA i) cs (O.map asE)) {x:Nat×List Bool} {RA:Option Addr} {rc:Nat} (hrc:x.2.length≤rc) (hR:Sl wr (fun i=>U8B wr i∧¬At A i) RA (u8s (bbs x.2)))
  {OA':Option Addr} {oc':Nat} (ho:Own w4 46 2 OA' (on+1) oc' (cs++[.int .i64 (x.1:Int),.slice RA x.2.length rc])) (u4:Upd (At OA) w3 w4) (hat:∀i,At OA' i→At OA i∨i=w3.heap.size) :
  PvR w2 w4 B RB tb mb k r A n c OA' (on+1) oc' TA tn tc (O++[x]) T:=by
 have h3:=h.non u3;have hO3:=hO.upd u3 (fun _ _ f=>f);have d8:∀i q,Blk w3 i 5 q→¬At OA i:=fun i q hb=>hO3.ne_blk hb (by decide)
 obtain ⟨_,_,hAo,_⟩:=h3.el;obtain ⟨_,ts,hTo,_⟩:=h3.thn;have hbl:(bbs x.2).length=x.2.length:=by unfold bbs;rw [List.length_map]
 refine ⟨h3.row.upd u4 (hO3.ne_blk h3.row (by decide)),h3.el.u8 elRow u4 (fun i hi=>hAo.ne_type hO3 (by decide) hi) d8,?_,h3.thn.u8 elRow u4 (fun i hi=>hTo.ne_type hO3 (by decide) hi) d8,h3.seen.upd u4 (h3.seen.ne_own hO3),h3.upd.trans u4 (fun i _ q=>h.b3 i q),h.b1,h.b2,fun i hi=>?_,h.b4,h.b5,h.b6.1,Nat.le_trans h3.b6.2 u4.size⟩
 ·rw [List.map_append];refine ElO.snoc8 elAS (by decide) h.out.1 hC u3 hO3 ?_ ho u4 hat;refine ⟨RA,rc,?_,?_,?_⟩
  ·show _=[Value.int .i64 ((x.1:Nat):Int),.slice RA (bbs x.2).length rc];rw [hbl]
  ·show (bbs x.2).length≤rc;rw [hbl];exact hrc
  ·refine (hR.mono (G:=fun i=>U8B wr i∧¬At OA i) (fun i _ q=>⟨q.1,?_⟩)).upd u3 (fun _ _ _ f=>f) |>.mono (fun i hi q=>⟨?_,q.2⟩)
   ·obtain ⟨z,hb⟩:=q.1;exact hO.ne_blk hb (by decide)
   ·exact q.1.upd u3 (fun f=>f)
 ·rcases hat i hi with q | q
  ·exact h.b3 i q
  ·have:=h3.b6;omega
theorem PvR.addT (h:PvR w2 wr B RB tb mb k r A n c OA on oc TA tn tc O T) {w3 w4 w5:World} {x:List Bool} (u3:Upd (·=mb) wr w3) (hs:SMap w3 mb (fun s=>if s=kstr (bbs x) then some (.bool true) else seenV T s)) (u4:Upd Non w3 w4) {cs:List Value} (hO:Own wr 44 1 TA tn tc cs) (hC:ElCells ElRow 1 wr (fun i=>U8B wr i∧¬At TA i) cs (T.map bbs))
  {q sn sc:Nat} (hx:Own wr 5 1 (some ⟨q,0,none⟩) sn sc (b8s x)) (hxl:x.length=sn) (hq:¬At TA q) {TA':Option Addr} {tc':Nat} (ho:Own w5 44 1 TA' (tn+1) tc' (cs++[.slice (some ⟨q,0,none⟩) sn sc])) (u5:Upd (At TA) w4 w5) (hat:∀i,At TA' i→At TA i∨i=w4.heap.size) :
  PvR w2 w5 B RB tb mb k r A n c OA on oc TA' (tn+1) tc' O (T++[x]):=by
 obtain ⟨_,_,hAo,_⟩:=h.el;obtain ⟨_,os,hOo,_⟩:=h.out;have m8:∀i z,Blk wr i 5 z→¬i=mb:=fun i z hb=>h.seen.ne_blk hb
 have mA:∀i,At A i→¬i=mb:=fun i hi e=>h.seen.ne_own hAo (e ▸ hi)
 have mO:∀i,At OA i→¬i=mb:=fun i hi e=>h.seen.ne_own hOo (e ▸ hi)
 have mT:∀i,At TA i→¬i=mb:=fun i hi e=>h.seen.ne_own hO (e ▸ hi)
 have u34:Upd (·=mb) wr w4:=u3.trans u4 (fun _ _ f=>f.elim);have hA4:=h.el.u8 elRow u34 mA m8;have hO4:=h.out.u8 elAS u34 mO m8;have hT4:=hO.upd u34 mT;have hC4:ElCells ElRow 1 w4 (fun i=>U8B w4 i∧¬At TA i) cs (T.map bbs):=hC.mono elRow u34 (fun i _ z=>by obtain ⟨y,hb⟩:=z.1;exact m8 i y hb) (fun i _ z=>⟨z.1.upd u34 (by obtain ⟨y,hb⟩:=z.1;exact m8 i y hb),z.2⟩)
 have hx4:=hx.upd u34 (fun i hi e=>h.seen.ne_own hx (e ▸ hi));have d8:∀i y,Blk w4 i 5 y→¬At TA i:=fun i y hb=>hT4.ne_blk hb (by decide)
 obtain ⟨_,os4,hOo4,_⟩:=hO4;have hw:=u34.size;refine ⟨(h.row.upd u34 (fun e=>h.seen.ne_blk h.row e)).upd u5 (hT4.ne_blk (h.row.upd u34 (fun e=>h.seen.ne_blk h.row e)) (by decide)),hA4.u8 elRow u5 (fun i hi z=>by have h1:=(h.b2 i hi).2;have h2:=h.b4 i z;omega) d8,(h.out.u8 elAS u34 mO m8).u8 elAS u5 (fun i hi=>hOo4.ne_type hT4 (by decide) hi) d8,?_,?_,(h.upd.trans u34 (fun i _ e=>by have:=h.b5;omega)).trans u5 (fun i _ z=>by have h1:=h.b4 i z;have h2:=h.b6;show B≤i;omega),h.b1,h.b2,h.b3,fun i hi=>?_,h.b5,h.b6.1,Nat.le_trans h.b6.2 (Nat.le_trans hw u5.size)⟩
 ·rw [List.map_append];exact ElO.snoc8 elRow (by decide) h.thn.1 hC4 Upd.refl hT4 (elRow_of hx4 hxl ⟨own_u8 hx4,hq⟩) ho u5 hat
 ·rw [←seenV_snoc];exact (hs.upd u4 (fun f=>f)).upd u5 ((hs.upd u4 (fun f=>f)).ne_own hT4)
 ·rcases hat i hi with z | z
  ·exact h.b4 i z
  ·have:=h.b6;omega
end
structure PvS (w2 wr:World) (B RB k:Nat) (r:Rl) (A:Option Addr) (n c:Nat) (OA:Option Addr) (on oc:Nat) (T:List (List Bool)):Prop where
 row:Blk wr RB 48 #[.slice A n c]
 el:ElO ElRow 1 44 wr (U8B wr) A n c (T.map bbs)
 out:ElO ElAS 2 46 wr (U8B wr) OA on oc ((lvls r k).map asE)
 upd:Upd (B≤·) w2 wr
 b1:B≤RB
 b2:∀i,At A i→B≤i
 b3:∀i,At OA i→B≤i
 bw:B≤wr.heap.size
 nd:k≤64→T.Nodup∧∀x,x∈T↔x∈lvl r k
 tn:n≤300000
 le:(lvls r k).length≤4096
 sf:k=65→∀b∈lvl r 64,safeF r b=true
section
variable {w2 wr:World} {B RB k:Nat} {r:Rl} {A:Option Addr} {n c:Nat} {OA:Option Addr} {on oc:Nat} {T:List (List Bool)}
theorem PvS.sorted (h:PvS w2 wr B RB k r A n c OA on oc T) (hk:k≤64) {w4 w5:World} (u4:Upd Non wr w4) {w6:World} {L':List (List Bool)} (hp:L'.Perm T) (hs:L'.Pairwise (fun a b=>ltB b a=false)) (he:ElO ElRow 1 44 w5 (U8B w4) A n c (L'.map bbs)) (u5:Upd (At A) w4 w5) (h6:w5.alloc (.map #[] 0)=w6) :
  PvR w2 w6 B RB w6.heap.size w5.heap.size k r A n c OA on oc none 0 0 (lvls r k) []:=by
 obtain ⟨hnd,hmem⟩:=h.nd hk;have hL:L'=lvl r k:=srt_of hs (hp.nodup_iff.2 hnd) (lvl_srt r k) (fun x=>by rw [hp.mem_iff];exact hmem x);subst hL;have u6:Upd Non w5 w6:=by rw [←h6];exact Upd.refl.alloc _
 obtain ⟨_,as_,hAo,_⟩:=h.el.u8 elRow u4 (fun _ _ f=>f) (fun _ _ _ f=>f);obtain ⟨_,os_,hOo,_⟩:=h.out.u8 elAS u4 (fun _ _ f=>f) (fun _ _ _ f=>f);have d8:∀i z,Blk w4 i 5 z→¬At A i:=fun i z hb=>hAo.ne_blk hb (by decide)
 have he5:ElO ElRow 1 44 w5 (U8B w5) A n c ((lvl r k).map bbs):=he.mono elRow (fun i _ q=>q.upd u5 (by obtain ⟨z,hb⟩:=q;exact d8 i z hb));refine ⟨((h.row.upd u4 (fun f=>f)).upd u5 (hAo.ne_blk (h.row.upd u4 (fun f=>f)) (by decide))).upd u6 (fun f=>f),he5.u8 elRow u6 (fun _ _ f=>f) (fun _ _ _ f=>f),((h.out.u8 elAS u4 (fun _ _ f=>f) (fun _ _ _ f=>f)).u8 elAS u5 (fun i hi=>hOo.ne_type hAo (by decide) hi) d8).u8 elAS u6 (fun _ _ f=>f) (fun _ _ _ f=>f),ElO.none_,?_,((h.upd.then_non u4).trans u5 (fun i _ q=>h.b2 i q)).then_non u6,h.b1,fun i hi=>⟨h.b2 i hi,?_⟩,h.b3,fun i hi=>(At.none_ hi).elim,?_,?_,Nat.le_refl _⟩
 ·rw [seenV_nil,←h6];exact SMap.new w5
 ·have h1:=hAo.lt hi;have h2:=u5.size;have h3:=u6.size;omega
 ·have h1:=h.bw;have h2:=u4.size;have h3:=u5.size;omega
 ·have h1:=h.bw;have h2:=u4.size;have h3:=u5.size;have h4:=u6.size;omega
end
theorem PvR.next {w2 wr:World} {B RB tb mb k:Nat} {r:Rl} {A:Option Addr} {n c:Nat} {OA:Option Addr} {on oc:Nat} {TA:Option Addr} {tn tc:Nat} {T:List (List Bool)} (h:PvR w2 wr B RB tb mb k r A n c OA on oc TA tn tc (lvls r k++(lvl r k).map fun b=>(k,b)) T) (hnd:T.Nodup) (hmem:∀x,x∈T↔k<64∧∃a∈lvl r k,x∈succsF r k a)
  (htn:tn≤300000) (hon:on≤4096) (hsf:k=64→∀b∈lvl r k,safeF r b=true):PvS w2 (wr.setCell ⟨RB,0,none⟩ (.slice TA tn tc)) B RB (k+1) r TA tn tc OA on oc T:=by
 have u:=updCell wr RB 0 (.slice TA tn tc);obtain ⟨_,ts_,hTo,_⟩:=h.thn;obtain ⟨hol,os_,hOo,_⟩:=h.out;have hl:lvls r (k+1)=lvls r k++(lvl r k).map fun b=>(k,b):=lvls_succ r k
 have d8:∀i z,Blk wr i 5 z→¬i=RB:=fun i z hb e=>by subst e;exact hb.ne_ h.row (by decide) rfl
 refine ⟨by simpa using h.row.set_ 0 (.slice TA tn tc),h.thn.u8 elRow u (fun i hi e=>by subst e;exact hTo.ne_blk h.row (by decide) hi) d8,?_,h.upd.trans u (fun i _ e=>by have:=h.b1;show B≤i;omega),h.b1,fun i hi=>by have h1:=h.b4 i hi;have h2:=h.b6;omega,h.b3,?_,fun hk=>⟨hnd,fun x=>?_⟩,htn,?_,fun e=>by
  have : k=64:=by omega
  subst this
  exact hsf rfl⟩
 ·rw [hl];exact h.out.u8 elAS u (fun i hi e=>by subst e;exact hOo.ne_blk h.row (by decide) hi) d8
 ·have h1:=h.b6;have h2:=u.size;omega
 ·rw [hmem,lvl_succ];constructor
  ·exact fun q=>q.2
  ·exact fun q=>⟨by omega,q⟩
 ·rw [hl];rw [List.length_map] at hol;omega
def PvP (r:Rl) (w:World) (e:Ending) (w':World):Prop :=
 Upd Non w w'∧((∃l OA on oc,autF r=some l∧e=.returned (.tuple #[.slice OA on oc,.bool true])∧ElO ElAS 2 46 w' (U8B w') OA on oc (l.map asE)∧∀i,At OA i→w.heap.size≤i)∨(autF r=none∧e=.returned (.tuple #[.slice none 0 0,.bool false])))
set_option maxRecDepth 100000 in
set_option maxHeartbeats 16000000 in
theorem aSafe_c {w:World} {F G:Nat→Prop} {m:Nat} {r:Rl} {a:RlA} {L R:Nat} {GA:Option Addr} {gc:Nat} {gs:List Nat} (hA:AU w F m r a L R GA gc gs)
  (hgn:gs.length≤1000000) (hgl:gs.length=(gposR r).length) (hgp:∀i (h1:i<gs.length) (h2:i<(gposR r).length),OpX w gs[i] (gposR r)[i].1 (gposR r)[i].2 2) (hn:stN r≤100000)
  {BA:Option Addr} {bc:Nat} {b:List Bool} (hB:Sl w G BA (b8s b)) (hbl:b.length=stN r) (hpl:∀q∈gposR r,q.2+1<b.length) :
  Calls Try.prog 22 #[pp m,.slice BA b.length bc] w fun e w'=>e=.returned (.bool (safeF r b))∧Upd Non w w':=by
 have hst:stN r=bN r.l+bN r.r+r.conds.length+1:=rfl;have hsp:=safe_pos (r:=r) (b:=b)
 have HC:∀i,i<b.length→∃bb bo,BA=some ⟨bb,bo,none⟩∧w.cell? ⟨bb,bo+i,none⟩=some (.int .u8 (bW (b.getD i false))):=fun i hi=>by
  obtain ⟨bb,bo,e,_,_,hc⟩:=hB.at_ (k:=i) (by rw [b8s_len];exact hi);refine ⟨bb,bo,e,?_⟩;rw [hc];have:=b8s_get hi;rw [List.getElem?_eq_getElem (by rw [b8s_len];exact hi)] at this;exact this
 obtain ⟨bb,bo,rfl,_⟩:=HC 0 (by omega)
 have HC2:Hid (∀i,i<b.length→w.cell? ⟨bb,bo+i,none⟩=some (.int .u8 (bW (b.getD i false)))):=fun i hi=>by
  obtain ⟨b',o',e,hc⟩:=HC i hi;injection e with e
  injection e with e1 e2
  subst e1 e2;exact hc
 obtain ⟨n,Hn⟩:=nm (stN r);rw [Hn.out] at hst hn hbl;obtain ⟨cn,hcn⟩:∃c,bN r.l+bN r.r=c:=⟨_,rfl⟩;rw [hcn] at hst hsp;obtain ⟨nc,Hnc⟩:=nm r.conds.length;rw [Hnc.out] at hst hsp;have hsz:=HC2.out (n - 1) (by omega);have hn1:n - 1=cn+nc:=by omega
 rw [hn1] at hsz;obtain ⟨mis,Hmis⟩:=nm (b.getD (cn+nc) false);rw [Hmis.out] at hsz hsp;have HSP:=h_ hsp;have x18:=hA.blk.cell 18;have HX17:=h_ (hA.blk.cell 17);have HX16:=h_ (hA.blk.cell 16);have HX11:=h_ (hA.blk.cell 11);rw [Hn.out] at x18;have q1:IntKind.i64.wrap ((n:Int) - 1)=(n:Int) - 1:=i64w_of (by unfold I64;omega);have q2:(0:Int)≤(n:Int) - 1:=by omega
 have q3:(n:Int) - 1<(n:Int):=by omega
 have q4:((n:Int) - 1).toNat=cn+nc:=by omega
 have q5:(1:Int)≤(n:Int):=by omega
 have b0:(bW false==0)=true:=rfl;have b1:(bW true==0)=false:=rfl;have HGS:=h_ hA.gds;have HGL:=h_ hgl;have HGP:=h_ hgp;have HPL:=h_ hpl;have HBL:=h_ hbl;rw [hbl];clear HC hB hA hgl hgp hpl hst hbl hsp;unfold pp
 cases mis with
 | false =>
  have HR:Hid (safeF r b=true):=by show _=_;rw [HSP.out,Bool.and_false];rfl
  go_enter Try.func22,Try.ntmps22;go_wp2_with fail
  go_ret;exact ⟨by rw [HR.out];rfl,Upd.refl⟩
 | true =>
  have HR:Hid (safeF r b=!((gposR r).all (gAt b)&&((b.drop cn).take nc).all id)):=by show _=_;rw [HSP.out,Bool.and_true]
  have x16:=HX16.out;obtain ⟨gn,Hgn⟩:=nm gs.length;rw [Hgn.out] at x16 hgn;go_enter Try.func22,Try.ntmps22;go_wp2_with fail
  go_loopg [6,22] gn (fun gg _ i wr=>∃j:Nat,Hid (gg=gn - j)∧j≤gn∧i=.int .i64 j∧Hid (((gposR r).take j).all (gAt b)=true)∧Hid (Upd Non w wr))
  case atStart=>exact ⟨0,rfl,by omega,rfl,rfl,Upd.refl⟩
  case round =>
   obtain ⟨j,Hg,hj,rfl,HT,HU⟩:=hrel;by_cases hlt:j<gn
   ·have hjl:j<gs.length:=by rw [Hgn.out];exact hlt
    have hjq:j<(gposR r).length:=by rw [←HGL.out];exact hjl
    obtain ⟨v,imm,iv,KK,CC,hxb⟩:=(HGP.out j hjl hjq).blk;have hq:=HPL.out _ (List.getElem_mem hjq);have htk:((gposR r).take (j+1)).all (gAt b)=gAt b (gposR r)[j]:=by rw [List.take_succ_eq_append_getElem hjq,List.all_append,HT.out];simp
    have hno:gAt b (gposR r)[j]=false→(gposR r).all (gAt b)=false:=fun e=>by
     rw [Bool.eq_false_iff];intro q;rw [List.all_eq_true] at q;rw [q _ (List.getElem_mem hjq)] at e;cases e
    obtain ⟨cb,co,eC,_,_,hcc⟩:=(HGS.out.upd HU.out (fun _ _ _ f=>f)).at_ (k:=j) (by rw [List.length_map];exact hjl);rw [List.getElem_map] at hcc;generalize (gposR r)[j]=q at *;generalize gs[j]=y at *;obtain ⟨op,at_⟩:=q;have hxr:=hxb.upd HU.out (fun f=>f);have y1:=hxr.cell 1;have y6:=hxr.cell 6;have ca:=u_ (HC2.out at_ (by show at_<_;have : at_+1<b.length:=hq;omega)) HU.out (fun f=>f);have cb1:=u_ (HC2.out (at_+1) hq) HU.out (fun f=>f)
    have hgA:gAt b (op,at_)=!((b.getD at_ false==b.getD (at_+1) false)==decide (op=16)):=by
     unfold gAt;by_cases h16:op=16
     ·rw [if_pos h16,dT_ h16];cases b.getD at_ false <;> cases b.getD (at_+1) false <;> rfl
     ·rw [if_neg h16,dF_ h16];cases b.getD at_ false <;> cases b.getD (at_+1) false <;> rfl
    obtain ⟨g0,Hg0⟩:=nm (b.getD at_ false);obtain ⟨g1,Hg1⟩:=nm (b.getD (at_+1) false);rw [Hg0.out] at ca hgA;rw [Hg1.out] at cb1 hgA;rw [hgA] at htk hno;have te:(bW g0==bW g1)=(g0==g1):=by cases g0 <;> cases g1 <;> rfl
    have tq:(op==16)=decide (op=16):=by rw [Bool.eq_iff_iff];simp
    rw [←te,←tq] at htk hno;obtain ⟨e1,he1⟩:∃e,(bW g0==bW g1)=e:=⟨_,rfl⟩;obtain ⟨o1,ho1⟩:∃e,(op==16)=e:=⟨_,rfl⟩;obtain ⟨d,hd⟩:∃e,(e1==o1)=e:=⟨_,rfl⟩;rw [he1,ho1,hd] at htk hno;have hatn:at_+1<n:=by rw [←HBL.out];exact hq
    have ai0:(0:Int)≤(at_:Int):=by omega
    have ai1:(at_:Int)<(n:Int):=by omega
    have r1:IntKind.i64.wrap ((at_:Int)+1)=(at_:Int)+1:=i64w_of (by unfold I64;omega);have r2:(0:Int)≤(at_:Int)+1:=by omega
    have r3:(at_:Int)+1<(n:Int):=by omega
    have r4:((at_:Int)+1).toNat=at_+1:=by omega
    have HTK:=h_ htk;have HNO:=h_ hno;unfold pp at hcc;have j0:(0:Int)≤(j:Int):=by omega
    have jn:(j:Int)<(gn:Int):=by omega
    subst eC;clear htk hno te tq hgA hxb hxr hq hjl hjq
    cases d with
    | true =>
     have HR2:Hid (safeF r b=true):=by show _=_;rw [HR.out,HNO.out rfl];rfl
     go_wp2_with fail
     refine wp_region_held_drew (S:=fun w'=>w'.cell? ⟨y,6,none⟩=some (.int .i64 (at_:Int))∧w'.cell? ⟨y,1,none⟩=some (.int .i64 op)∧w'.cell? ⟨bb,bo+at_,none⟩=some (.int .u8 (bW g0))∧w'.cell? ⟨bb,bo+(at_+1),none⟩=some (.int .u8 (bW g1))) (by kernel_rfl) ⟨y6,y1,ca,cb1⟩ (fun hHeld=>?_)
     refine wpT 0 ?_;(try simp only [y_,z_]);refine wpT 1 ?_;(try simp only [y_,z_]);refine wpT 2 ?_;(try simp only [y_,z_]);refine wpT 3 ?_;(try simp only [y_,z_]);refine wpT 4 ?_;(try simp only [y_,z_]);refine wpT 5 ?_;(try simp only [y_,z_]);refine wpT 6 ?_;(try simp only [y_,z_]);refine wpT 7 ?_;(try simp only [y_,z_]);refine wpT 8 ?_;(try simp only [y_,z_]);refine wpT 9 ?_;(try simp only [y_,z_]);refine wpT 10 ?_;(try simp only [y_,z_]);refine wpT 11 ?_;(try simp only [y_,z_]);refine wpT 12 ?_;(try simp only [y_,z_]);refine wpT 13 ?_;(try simp only [y_,z_]);refine wpT 14 ?_;(try simp only [y_,z_]);refine wpT 15 ?_;(try simp only [y_,z_]);refine wpT 16 ?_;(try simp only [y_,z_]);refine wpT 17 ?_;(try simp only [y_,z_]);refine wpT 18 ?_;(try simp only [y_,z_]);refine wpT 19 ?_;(try simp only [y_,z_]);refine wpT 20 ?_;(try simp only [y_,z_]);refine wpT 21 ?_;(try simp only [y_,z_]);refine wpT 22 ?_;(try simp only [y_,z_]);refine aD_ (by kernel_rfl) ?_ _;go_wp2_with fail
     go_ret;exact ⟨by rw [HR2.out];rfl,HU.out.drewN 1⟩
    | false =>
     go_wp2_with fail
     refine wp_region_held_drew (S:=fun w'=>w'.cell? ⟨y,6,none⟩=some (.int .i64 (at_:Int))∧w'.cell? ⟨y,1,none⟩=some (.int .i64 op)∧w'.cell? ⟨bb,bo+at_,none⟩=some (.int .u8 (bW g0))∧w'.cell? ⟨bb,bo+(at_+1),none⟩=some (.int .u8 (bW g1))) (by kernel_rfl) ⟨y6,y1,ca,cb1⟩ (fun hHeld=>?_)
     refine wpT 0 ?_;(try simp only [y_,z_]);refine wpT 1 ?_;(try simp only [y_,z_]);refine wpT 2 ?_;(try simp only [y_,z_]);refine wpT 3 ?_;(try simp only [y_,z_]);refine wpT 4 ?_;(try simp only [y_,z_]);refine wpT 5 ?_;(try simp only [y_,z_]);refine wpT 6 ?_;(try simp only [y_,z_]);refine wpT 7 ?_;(try simp only [y_,z_]);refine wpT 8 ?_;(try simp only [y_,z_]);refine wpT 9 ?_;(try simp only [y_,z_]);refine wpT 10 ?_;(try simp only [y_,z_]);refine wpT 11 ?_;(try simp only [y_,z_]);refine wpT 12 ?_;(try simp only [y_,z_]);refine wpT 13 ?_;(try simp only [y_,z_]);refine wpT 14 ?_;(try simp only [y_,z_]);refine wpT 15 ?_;(try simp only [y_,z_]);refine wpT 16 ?_;(try simp only [y_,z_]);refine wpT 17 ?_;(try simp only [y_,z_]);refine wpT 18 ?_;(try simp only [y_,z_]);refine wpT 19 ?_;(try simp only [y_,z_]);refine wpT 20 ?_;(try simp only [y_,z_]);refine wpT 21 ?_;(try simp only [y_,z_]);refine wpT 22 ?_;(try simp only [y_,z_]);refine aD_ (by kernel_rfl) ?_ _;go_wp2_with fail
     go_roundg (gn - (j+1))
     case measure=>rw [Hg.out];omega
     case rel=>exact ⟨j+1,rfl,by omega,by go_num,HTK.out,HU.out.drewN 1⟩
   ·obtain rfl:gn=j:=by omega
    have hall:(gposR r).all (gAt b)=true:=by have:=HT.out;rw [List.take_of_length_le (by rw [←HGL.out,Hgn.out];exact Nat.le_refl _)] at this;exact this
    have HR2:Hid (safeF r b=!((b.drop cn).take nc).all id):=by show _=_;rw [HR.out,hall,Bool.true_and]
    have x11:=u_ HX11.out HU.out (fun f=>f);have x17:=u_ HX17.out HU.out (fun f=>f);rw [Hnc.out] at x11;rw [hcn] at x17;have HC3:Hid (∀i,i<b.length→wr.cell? ⟨bb,bo+i,none⟩=some (.int .u8 (bW (b.getD i false)))):=fun i hi=>u_ (HC2.out i hi) HU.out (fun f=>f)
    clear hall;go_wp2_with fail
    go_loopg [7,56] nc (fun gg _ i w2=>∃j:Nat,Hid (gg=nc - j)∧j≤nc∧i=.int .i64 j∧Hid (((b.drop cn).take j).all id=true)∧w2=wr)
    case atStart=>exact ⟨0,rfl,by omega,rfl,rfl,rfl⟩
    case round =>
     obtain ⟨j,Hg2,hj2,rfl,HT2,rfl⟩:=hrel;by_cases hlt2:j<nc
     ·have hjb:cn+j<b.length:=by rw [HBL.out];omega
      have cj:=HC3.out (cn+j) hjb
      have hsn:(b.drop cn).take (j+1)=(b.drop cn).take j++[b.getD (cn+j) false]:=by
       rw [List.take_succ_eq_append_getElem (by rw [List.length_drop];omega),List.getElem_drop,List.getD_eq_getElem?_getD,List.getElem?_eq_getElem hjb];rfl
      have hmem:b.getD (cn+j) false∈(b.drop cn).take nc:=by
       have h1:((b.drop cn).take nc)[j]?=some (b.getD (cn+j) false):=by
        rw [List.getElem?_take,if_pos hlt2,List.getElem?_drop,List.getElem?_eq_getElem hjb,List.getD_eq_getElem?_getD,List.getElem?_eq_getElem hjb];rfl
       exact List.mem_of_getElem? h1
      have HT3:Hid (b.getD (cn+j) false=true→((b.drop cn).take (j+1)).all id=true):=fun e=>by rw [hsn,List.all_append,HT2.out,e];rfl
      have HT4:Hid (b.getD (cn+j) false=false→((b.drop cn).take nc).all id=false):=fun e=>by
       rw [Bool.eq_false_iff];intro q;rw [List.all_eq_true] at q;have:=q _ hmem;rw [e] at this;cases this
      obtain ⟨cv,Hcv⟩:=nm (b.getD (cn+j) false);rw [Hcv.out] at cj HT3 HT4;have j0:(0:Int)≤(j:Int):=by omega
      have jn:(j:Int)<(nc:Int):=by omega
      have s1:IntKind.i64.wrap ((cn:Int)+(j:Int))=(cn:Int)+(j:Int):=i64w_of (by unfold I64;omega);have s2:(0:Int)≤(cn:Int)+(j:Int):=by omega
      have s3:(cn:Int)+(j:Int)<(n:Int):=by omega
      have s4:((cn:Int)+(j:Int)).toNat=cn+j:=by omega
      clear hsn hmem hjb s1
      cases cv with
      | false =>
       have HR3:Hid (safeF r b=true):=by show _=_;rw [HR2.out,HT4.out rfl];rfl
       go_wp2_with fail
       go_ret;exact ⟨by rw [HR3.out];rfl,HU.out⟩
      | true =>
       have HT5:=h_ (HT3.out rfl);clear HT3 HT4;go_wp2_with fail
       go_roundg (nc - (j+1))
       case measure=>rw [Hg2.out];omega
       case rel=>exact ⟨j+1,rfl,by omega,by go_num,HT5.out,rfl⟩
     ·obtain rfl:nc=j:=by omega
      have HR3:Hid (safeF r b=false):=by show _=_;rw [HR2.out,HT2.out];rfl
      go_wp2_with fail
      go_ret;exact ⟨by rw [HR3.out];rfl,HU.out⟩
end Go.Proofs.Ytdbjgihnngigeaa
