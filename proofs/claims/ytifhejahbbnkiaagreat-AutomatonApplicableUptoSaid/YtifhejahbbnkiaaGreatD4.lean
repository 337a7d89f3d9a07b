/-
  Lemmas and walks that the claim rests on, part 4 (packed by a program).
-/
import Derived.Test.YtifhejahbbnkiaaGreatD3
import Derived.Test.YtifhejahbbnkiaaGreatD1
import Derived.Test.YtifhejahbbnkiaaGreatD2
namespace Go.Proofs.YtifhejahbbnkiaaGreat
open Go.RowKit
def XtV (w:World) (F:Nat→Prop) (A:Option Addr) (T:List (Bs×Nat)):Prop :=
 T=[]∨∃b o,A=some ⟨b,o,none⟩∧F b∧∀i (h:i<T.length),w.cell? ⟨b,o+i * 2,none⟩=some (.string (kstr T[i].1))∧w.cell? ⟨b,o+i * 2+1,none⟩=some (.int .i64 T[i].2)
section
variable {w w':World} {F G S:Nat→Prop} {A:Option Addr} {T:List (Bs×Nat)}
theorem XtV.upd (h:XtV w F A T) (u:Upd S w w') (d:∀k,k<w.heap.size→F k→¬S k):XtV w' F A T:=by
 rcases h with h | ⟨b,o,e,hF,h⟩
 ·exact .inl h
 ·refine .inr ⟨b,o,e,hF,fun i hi=>?_⟩;obtain ⟨c0,c1⟩:=h i hi;have hb:=d b (World.block_lt_of_cell? _ _ c0) hF;exact ⟨u_ c0 u hb,u_ c1 u hb⟩
theorem XtV.at_ (h:XtV w F A T) {i:Nat} (hi:i<T.length):∃b o,A=some ⟨b,o,none⟩∧F b∧b<w.heap.size∧w.cell? ⟨b,o+i * 2,none⟩=some (.string (kstr T[i].1))∧w.cell? ⟨b,o+i * 2+1,none⟩=some (.int .i64 T[i].2):=by
 rcases h with h | ⟨b,o,e,hF,h⟩
 ·subst h;simp at hi
 ·exact ⟨b,o,e,hF,World.block_lt_of_cell? _ _ (h i hi).1,h i hi⟩
theorem XtV.mono (h:XtV w F A T) (hFG:∀k,k<w.heap.size→F k→G k):XtV w G A T:=by
 rcases h with h | ⟨b,o,e,hF,h⟩
 ·exact .inl h
 ·by_cases hn:T=[]
  ·exact .inl hn
  ·exact .inr ⟨b,o,e,hFG b (World.block_lt_of_cell? _ _ (h 0 (List.length_pos_iff.2 hn)).1) hF,h⟩
end
theorem xtcells_get:∀(L:List (Bs×Nat)) (i:Nat) (h:i<L.length),(xtcells L)[i * 2]?=some (.string (kstr L[i].1))∧(xtcells L)[i * 2+1]?=some (.int .i64 L[i].2)
 | t::L,0,_=>⟨rfl,rfl⟩
 | t::L,i+1,h=>by
  have:=xtcells_get L i (by simpa using h);rw [show (i+1) * 2=i * 2+1+1 by omega];exact this
theorem xt_view {w:World} {A:Option Addr} {c:Nat} {L:List (Bs×Nat)} (h:Own w 174 2 A L.length c (xtcells L)):XtV w (At A) A L:=by
 rcases Own.cases h with ⟨_,h0,_,_⟩ | ⟨g,cur,rfl,hb,_,_,_,ht⟩
 ·exact .inl (List.eq_nil_of_length_eq_zero h0)
 ·refine .inr ⟨g,0,rfl,At.some_.2 rfl,fun i hi=>?_⟩
  have hcell:∀j u,(xtcells L)[j]?=some u→w.cell? ⟨g,j,none⟩=some u:=by
   intro j u hj;rw [hb.cell];rw [←ht,List.getElem?_take] at hj
   split at hj
   ·simpa using hj
   ·cases hj
  obtain ⟨c0,c1⟩:=xtcells_get L i hi;rw [Nat.zero_add];exact ⟨hcell _ _ c0,hcell _ _ c1⟩
structure Xs where
 i:Nat
 why:Int
 ea:Int
 vs:Bs
 ms:Bs
 left:Bool
def Xs.ps (x:Xs):PS:=⟨x.i,x.vs,x.ms⟩
def xcells (A:Option Addr) (n c fin:Nat) (x:Xs):Array Value:=#[.slice A n c,.int .i64 x.i,.int .i64 fin,.int .i64 x.why,.int .i64 x.ea,.string (kstr x.vs),.string (kstr x.ms),.bool x.left]
structure XdS (w:World) (p:Nat) (A:Option Addr) (c:Nat) (T:List (Bs×Nat)) (fin:Nat) (x:Xs):Prop where
 blk:Blk w p 115 (xcells A T.length c fin x)
 tok:XtV w (fun k=>k<p) A T
 le:T.length≤c
section
variable {w w':World} {p:Nat} {A:Option Addr} {c:Nat} {T:List (Bs×Nat)} {fin:Nat} {x:Xs} {S:Nat→Prop}
theorem XdS.set (h:XdS w p A c T fin x) {y:Xs} (u:Upd (·=p) w w') (b:Blk w' p 115 (xcells A T.length c fin y)):XdS w' p A c T fin y :=
 ⟨b,h.tok.upd u (fun _ _ hk e=>Nat.ne_of_lt hk e),h.le⟩
theorem XdS.upd (h:XdS w p A c T fin x) (u:Upd S w w') (d:∀k,k<w.heap.size→S k→p<k):XdS w' p A c T fin x :=
 ⟨h.blk.upd u (fun s=>Nat.lt_irrefl _ (d p h.blk.lt s)),h.tok.upd u (fun k hk hp s=>Nat.lt_irrefl _ (Nat.lt_trans hp (d k hk s))),h.le⟩
theorem XdS.non (h:XdS w p A c T fin x) (u:Upd Non w w'):XdS w' p A c T fin x :=
 ⟨h.blk.upd u (fun f=>f),h.tok.upd u (fun _ _ _ f=>f),h.le⟩
theorem XdS.cells (h:XdS w p A c T fin x):w.cell? ⟨p,0,none⟩=some (.slice A T.length c)∧w.cell? ⟨p,1,none⟩=some (.int .i64 x.i)∧w.cell? ⟨p,2,none⟩=some (.int .i64 fin)∧w.cell? ⟨p,3,none⟩=some (.int .i64 x.why)∧w.cell? ⟨p,4,none⟩=some (.int .i64 x.ea)∧w.cell? ⟨p,5,none⟩=some (.string (kstr x.vs))∧w.cell? ⟨p,6,none⟩=some (.string (kstr x.ms))∧w.cell? ⟨p,7,none⟩=some (.bool x.left) :=
 ⟨h.blk.cell 0,h.blk.cell 1,h.blk.cell 2,h.blk.cell 3,h.blk.cell 4,h.blk.cell 5,h.blk.cell 6,h.blk.cell 7⟩
end
theorem upd_eq {p:Nat} {w w':World} (u:Upd Non w w'):Upd (·=p) w w':=u.mono (fun _ _ f=>f.elim)
theorem xOffset_c {w:World} {p:Nat} {A:Option Addr} {c:Nat} {T:List (Bs×Nat)} {fin:Nat} {x:Xs} (h:XdS w p A c T fin x) :
  Calls Tryz.prog 112 #[.pointer (some ⟨p,0,none⟩)] w fun e w'=>e=.returned (.int .i64 (offF T fin x.i))∧Upd Non w w':=by
 obtain ⟨c0,c1,c2,c3,c4,c5,c6,c7⟩:=h.cells;have hle:=h.le;obtain ⟨n,Hn⟩:=nm T.length;rw [Hn.out] at c0 hle;obtain ⟨wD,HwD⟩:=nm w.drew;have uD:Upd Non w wD:=by rw [←HwD.out];exact Upd.refl.drew
 by_cases hi:x.i<T.length
 ·obtain ⟨b,o,rfl,hF,hb,t0,t1⟩:=h.tok.at_ hi;have HO:Hid (offF T fin x.i=T[x.i].2):=by show _=_;unfold offF;rw [List.getElem?_eq_getElem hi]
  obtain ⟨r,Hr⟩:=nm (offF T fin x.i);rw [Hr.out] at HO ⊢;rw [←HO.out] at t1;obtain ⟨i,Hi⟩:=nm x.i;rw [Hi.out] at c1 t1;have hin:i<n:=by rw [←Hn.out,←Hi.out];exact hi
  have ti:decide (i<n)=true:=dT_ (by omega);have d0:=u_ c0 uD (fun f=>f);have d1:=u_ c1 uD (fun f=>f);have d2:=u_ t1 uD (fun f=>f);clear h c2 c3 c4 c5 c6 c7 t0 hi HO;go_enter Tryz.func112,Tryz.ntmps112;go_wp2_with fail
  refine wp_region_held_drew (S:=fun w'=>w'.cell? ⟨p,0,none⟩=some (.slice (some ⟨b,o,none⟩) n c)∧w'.cell? ⟨p,1,none⟩=some (.int .i64 i)) (by kernel_rfl) (by rw [HwD.out];exact ⟨d0,d1⟩) (fun hHeld=>?_)
  rw [HwD.out] at hHeld ⊢;refine wpT 0 ?_;(try simp only [y_,z_]);refine wpT 1 ?_;(try simp only [y_,z_]);refine wpT 2 ?_;(try simp only [y_,z_]);refine wpT 3 ?_;(try simp only [y_,z_]);refine wpT 4 ?_;(try simp only [y_,z_]);refine wpT 5 ?_;(try simp only [y_,z_]);refine wpT 6 ?_;(try simp only [y_,z_]);refine wpT 7 ?_;(try simp only [y_,z_]);refine wpT 8 ?_;(try simp only [y_,z_]);refine wpT 9 ?_;(try simp only [y_,z_]);refine aD_ (by kernel_rfl) ?_ _;go_wp2_with fail
  obtain ⟨wE,HwE⟩:=nm wD.drew;have uE:Upd Non wD wE:=by rw [←HwE.out];exact Upd.refl.drew
  refine wp_region_held_drew (S:=fun w'=>w'.cell? ⟨p,0,none⟩=some (.slice (some ⟨b,o,none⟩) n c)∧w'.cell? ⟨p,1,none⟩=some (.int .i64 i)∧w'.cell? ⟨b,o+i * 2+1,none⟩=some (.int .i64 r)) (by kernel_rfl) (by rw [HwE.out];exact ⟨u_ d0 uE (fun f=>f),u_ d1 uE (fun f=>f),u_ d2 uE (fun f=>f)⟩) (fun hHeld2=>?_)
  rw [HwE.out] at hHeld2 ⊢;refine wpT 0 ?_;(try simp only [y_,z_]);refine wpT 1 ?_;(try simp only [y_,z_]);refine wpT 2 ?_;(try simp only [y_,z_]);refine wpT 3 ?_;(try simp only [y_,z_]);refine wpT 4 ?_;(try simp only [y_,z_]);refine wpT 5 ?_;(try simp only [y_,z_]);refine wpT 6 ?_;(try simp only [y_,z_]);refine wpT 7 ?_;(try simp only [y_,z_]);refine wpT 8 ?_;(try simp only [y_,z_]);refine wpT 9 ?_;(try simp only [y_,z_]);refine wpT 10 ?_;(try simp only [y_,z_]);refine wpT 11 ?_;(try simp only [y_,z_]);refine aD_ (by kernel_rfl) ?_ _;go_wp2_with fail
  go_ret;exact ⟨rfl,uD.then_non uE⟩
 ·have HO:Hid (offF T fin x.i=fin):=by show _=_;unfold offF;rw [List.getElem?_eq_none (by omega)]
  rw [HO.out];obtain ⟨i,Hi⟩:=nm x.i;rw [Hi.out] at c1;have hin:¬i<n:=by rw [←Hn.out,←Hi.out];exact hi
  have ti:decide (i<n)=false:=dF_ (by omega);have d0:=u_ c0 uD (fun f=>f);have d1:=u_ c1 uD (fun f=>f);have d2:=u_ c2 uD (fun f=>f);clear h c3 c4 c5 c6 c7 hi HO hin;go_enter Tryz.func112,Tryz.ntmps112;go_wp2_with fail
  refine wp_region_held_drew (S:=fun w'=>w'.cell? ⟨p,0,none⟩=some (.slice A n c)∧w'.cell? ⟨p,1,none⟩=some (.int .i64 i)) (by kernel_rfl) (by rw [HwD.out];exact ⟨d0,d1⟩) (fun hHeld=>?_)
  rw [HwD.out] at hHeld ⊢;refine wpT 0 ?_;(try simp only [y_,z_]);refine wpT 1 ?_;(try simp only [y_,z_]);refine wpT 2 ?_;(try simp only [y_,z_]);refine wpT 3 ?_;(try simp only [y_,z_]);refine wpT 4 ?_;(try simp only [y_,z_]);refine wpT 5 ?_;(try simp only [y_,z_]);refine wpT 6 ?_;(try simp only [y_,z_]);refine wpT 7 ?_;(try simp only [y_,z_]);refine wpT 8 ?_;(try simp only [y_,z_]);refine wpT 9 ?_;(try simp only [y_,z_]);refine aD_ (by kernel_rfl) ?_ _;go_wp2_with fail
  go_ret;exact ⟨rfl,uD⟩
def Xs.fail (x:Xs) (why ea:Int):Xs:=if x.why=0 then { x with why:=why,ea:=ea } else x
theorem xFail_c {w:World} {p:Nat} {A:Option Addr} {c:Nat} {T:List (Bs×Nat)} {fin:Nat} {x:Xs} (h:XdS w p A c T fin x) (why ea:Int) :
  Calls Tryz.prog 111 #[.pointer (some ⟨p,0,none⟩),.int .i64 why,.int .i64 ea] w fun e w'=>e=.returned (.tuple #[])∧XdS w' p A c T fin (x.fail why ea)∧Upd (·=p) w w':=by
 obtain ⟨c0,c1,c2,c3,c4,c5,c6,c7⟩:=h.cells;have hf:=h.blk.frozen;have H:=h_ h;obtain ⟨n,Hn⟩:=nm x.why;rw [Hn.out] at c3;clear h;by_cases hz:n=0
 ·have e:x.fail why ea={ x with why:=why,ea:=ea }:=if_pos (by rw [Hn.out];exact hz);subst hz;go_enter Tryz.func111,Tryz.ntmps111;go_wp2_with fail
  go_end0
  refine ⟨rfl,?_,(updCell _ _ _ _).trans (updCell _ _ _ _) (fun _ _ h=>h)⟩;rw [e];refine H.out.set ((updCell _ _ _ _).trans (updCell _ _ _ _) (fun _ _ h=>h)) ?_;have:=(H.out.blk.set_ 3 (.int .i64 why)).set_ 4 (.int .i64 ea);simpa [xcells] using this
 ·have e:x.fail why ea=x:=if_neg (by rw [Hn.out];exact hz);have fz:(n==0)=false:=by simpa using hz
  go_enter Tryz.func111,Tryz.ntmps111;go_wp2_with fail
  go_end0
  exact ⟨rfl,by rw [e];exact H.out,Upd.refl⟩
def nxS (T:List (Bs×Nat)) (x:Xs):Bs:=if x.why=0 then (tkF T x.i).getD [] else []
def nxY (T:List (Bs×Nat)) (fin:Nat) (x:Xs):Xs:=if x.why=0∧x.i<T.length then { x with i:=x.i+1 } else x.fail 2 (offF T fin x.i)
set_option maxHeartbeats 2000000 in
theorem xNext_c {w:World} {p:Nat} {A:Option Addr} {c:Nat} {T:List (Bs×Nat)} {fin:Nat} {x:Xs} (h:XdS w p A c T fin x) (hi:x.i≤100000) :
  Calls Tryz.prog 113 #[.pointer (some ⟨p,0,none⟩)] w fun e w'=>e=.returned (.string (kstr (nxS T x)))∧XdS w' p A c T fin (nxY T fin x)∧Upd (·=p) w w':=by
 obtain ⟨c0,c1,c2,c3,c4,c5,c6,c7⟩:=h.cells;have hle:=h.le;obtain ⟨wD,HwD⟩:=nm w.drew;have uD:Upd Non w wD:=by rw [←HwD.out];exact Upd.refl.drew
 have hD:=h.non uD;have CO:=h_ (xOffset_c hD);have CF:=h_ (fun W (u:Upd Non wD W)=>xFail_c (hD.non u) 2 (offF T fin x.i));have H:=h_ h;have HD:=h_ hD;have HS:Hid (nxS T x=if x.why=0 then (tkF T x.i).getD [] else []):=rfl;have HY:Hid (nxY T fin x=if x.why=0∧x.i<T.length then { x with i:=x.i+1 } else x.fail 2 (offF T fin x.i)):=rfl;by_cases hi2:x.why=0∧x.i<T.length
 ·have HY2:Hid (nxY T fin x={ x with i:=x.i+1 }):=by show _=_;rw [HY.out,if_pos hi2]
  have HS2:Hid (nxS T x=T[x.i].1):=by show _=_;rw [HS.out,if_pos hi2.1];unfold tkF;rw [List.getElem?_eq_getElem hi2.2];rfl
  obtain ⟨b,o,rfl,hF,hb,t0,t1⟩:=h.tok.at_ hi2.2;rw [HS2.out];rw [hi2.1] at c3;generalize T[x.i].1=s at *;have hit:=hi2.2;obtain ⟨n,Hn⟩:=nm T.length;rw [Hn.out] at c0 hle hit;obtain ⟨i,Hi⟩:=nm x.i;rw [Hi.out] at c1 hi t0 hit;have ti:decide (n≤i)=false:=dF_ (by omega);have wi:IntKind.i64.wrap (i:Int)=(i:Int):=i64w_of (by unfold I64;omega);have d0:=u_ c0 uD (fun f=>f);have d1:=u_ c1 uD (fun f=>f);have d3:=u_ c3 uD (fun f=>f);have dt:=u_ t0 uD (fun f=>f);have df:=hD.blk.frozen;obtain ⟨W1,HW1⟩:=nm (wD.setCell ⟨p,1,none⟩ (.int .i64 ((i:Int)+1)));have u1:Upd (·=p) wD W1:=by rw [←HW1.out];exact updCell _ _ _ _
  have hY:XdS W1 p (some ⟨b,o,none⟩) c T fin (nxY T fin x):=by
   rw [HY2.out];refine hD.set u1 ?_;have:=hD.blk.set_ 1 (.int .i64 ((i:Int)+1));rw [HW1.out] at this;simpa [xcells,Hi.out] using this
  have HYY:=h_ hY;have e0:=(HYY.out.cells).1;have e1:=(HYY.out.cells).2.1;rw [HY2.out,Hi.out,show ((i+1:Nat):Int)=(i:Int)+1 by omega] at e1;rw [Hn.out] at e0;have et:=u_ dt u1 (Nat.ne_of_lt hF);have E1:=HW1.out;clear h hD c0 c1 c2 c3 c4 c5 c6 c7 t0 t1 CO CF hY HS HY;go_enter Tryz.func113,Tryz.ntmps113;go_wp2_with fail
  refine wp_region_held_drew (S:=fun w'=>w'.cell? ⟨p,0,none⟩=some (.slice (some ⟨b,o,none⟩) n c)∧w'.cell? ⟨p,1,none⟩=some (.int .i64 i)∧w'.cell? ⟨p,3,none⟩=some (.int .i64 0)) (by kernel_rfl) (by rw [HwD.out];exact ⟨d0,d1,d3⟩) (fun hHeld=>?_)
  rw [HwD.out] at hHeld ⊢;refine wpT 0 ?_;(try simp only [y_,z_]);refine wpT 1 ?_;(try simp only [y_,z_]);refine wpT 2 ?_;(try simp only [y_,z_]);refine wpT 3 ?_;(try simp only [y_,z_]);refine wpT 4 ?_;(try simp only [y_,z_]);refine wpT 5 ?_;(try simp only [y_,z_]);refine wpT 6 ?_;(try simp only [y_,z_]);refine wpT 7 ?_;(try simp only [y_,z_]);refine wpT 8 ?_;(try simp only [y_,z_]);refine wpT 9 ?_;(try simp only [y_,z_]);refine wpT 10 ?_;(try simp only [y_,z_]);refine wpT 11 ?_;(try simp only [y_,z_]);refine wpT 12 ?_;(try simp only [y_,z_]);refine wpT 13 ?_;(try simp only [y_,z_]);refine wpT 14 ?_;(try simp only [y_,z_]);refine wpT 15 ?_;(try simp only [y_,z_]);refine wpT 16 ?_;(try simp only [y_,z_]);refine wpT 17 ?_;(try simp only [y_,z_]);refine aD_ (by kernel_rfl) ?_ _;go_wp2_with fail
  obtain ⟨wE,HwE⟩:=nm W1.drew;have uE:Upd Non W1 wE:=by rw [←HwE.out];exact Upd.refl.drew
  refine wp_region_held_drew (S:=fun w'=>w'.cell? ⟨p,0,none⟩=some (.slice (some ⟨b,o,none⟩) n c)∧w'.cell? ⟨p,1,none⟩=some (.int .i64 ((i:Int)+1))∧w'.cell? ⟨b,o+i * 2,none⟩=some (.string (kstr s))) (by kernel_rfl) (by rw [HwE.out];exact ⟨u_ e0 uE (fun f=>f),u_ e1 uE (fun f=>f),u_ et uE (fun f=>f)⟩) (fun hHeld2=>?_)
  rw [HwE.out] at hHeld2 ⊢;refine wpT 0 ?_;(try simp only [y_,z_]);refine wpT 1 ?_;(try simp only [y_,z_]);refine wpT 2 ?_;(try simp only [y_,z_]);refine wpT 3 ?_;(try simp only [y_,z_]);refine wpT 4 ?_;(try simp only [y_,z_]);refine wpT 5 ?_;(try simp only [y_,z_]);refine wpT 6 ?_;(try simp only [y_,z_]);refine wpT 7 ?_;(try simp only [y_,z_]);refine wpT 8 ?_;(try simp only [y_,z_]);refine wpT 9 ?_;(try simp only [y_,z_]);refine wpT 10 ?_;(try simp only [y_,z_]);refine wpT 11 ?_;(try simp only [y_,z_]);refine wpT 12 ?_;(try simp only [y_,z_]);refine aD_ (by kernel_rfl) ?_ _;go_wp2_with fail
  go_ret;exact ⟨rfl,HYY.out.non uE,((upd_eq uD).trans u1 (fun _ _ h=>h)).then_non uE⟩
 ·have HY2:Hid (nxY T fin x=x.fail 2 (offF T fin x.i)):=by show _=_;rw [HY.out,if_neg hi2]
  have HS2:Hid (nxS T x=[]):=by
   show _=_;rw [HS.out]
   split
   ·rename_i q;unfold tkF;rw [List.getElem?_eq_none (by have : ¬x.i<T.length:=fun r=>hi2 ⟨q,r⟩;omega)];rfl
   ·rfl
  rw [HS2.out];have e:kstr []=({ data:=#[] }:ByteArray):=rfl;rw [e];have HNW:Hid (¬(x.why=0∧x.i<T.length)):=hi2;obtain ⟨r,Hr⟩:=nm (offF T fin x.i);rw [Hr.out] at CO CF HY2;obtain ⟨n,Hn⟩:=nm T.length;rw [Hn.out] at c0 hle HNW;obtain ⟨i,Hi⟩:=nm x.i;rw [Hi.out] at c1 hi HNW;obtain ⟨z,Hz⟩:=nm x.why;rw [Hz.out] at c3 HNW;have d0:=u_ c0 uD (fun f=>f);have d1:=u_ c1 uD (fun f=>f);have d3:=u_ c3 uD (fun f=>f);clear h hD c0 c1 c2 c3 c4 c5 c6 c7 HS HY hi2 e;by_cases hz:z=0
  ·subst hz;have hge:¬i<n:=fun q=>HNW.out ⟨rfl,q⟩
   have ti:decide (n≤i)=true:=dT_ (by omega);clear hge;go_enter Tryz.func113,Tryz.ntmps113;go_wp2_with fail
   refine wp_region_held_drew (S:=fun w'=>w'.cell? ⟨p,0,none⟩=some (.slice A n c)∧w'.cell? ⟨p,1,none⟩=some (.int .i64 i)∧w'.cell? ⟨p,3,none⟩=some (.int .i64 0)) (by kernel_rfl) (by rw [HwD.out];exact ⟨d0,d1,d3⟩) (fun hHeld=>?_)
   rw [HwD.out] at hHeld ⊢;refine wpT 0 ?_;(try simp only [y_,z_]);refine wpT 1 ?_;(try simp only [y_,z_]);refine wpT 2 ?_;(try simp only [y_,z_]);refine wpT 3 ?_;(try simp only [y_,z_]);refine wpT 4 ?_;(try simp only [y_,z_]);refine wpT 5 ?_;(try simp only [y_,z_]);refine wpT 6 ?_;(try simp only [y_,z_]);refine wpT 7 ?_;(try simp only [y_,z_]);refine wpT 8 ?_;(try simp only [y_,z_]);refine wpT 9 ?_;(try simp only [y_,z_]);refine wpT 10 ?_;(try simp only [y_,z_]);refine wpT 11 ?_;(try simp only [y_,z_]);refine wpT 12 ?_;(try simp only [y_,z_]);refine wpT 13 ?_;(try simp only [y_,z_]);refine wpT 14 ?_;(try simp only [y_,z_]);refine wpT 15 ?_;(try simp only [y_,z_]);refine wpT 16 ?_;(try simp only [y_,z_]);refine wpT 17 ?_;(try simp only [y_,z_]);refine aD_ (by kernel_rfl) ?_ _;go_wp2_with fail
   refine CO.out.mono ?_;rintro e w3 ⟨rfl,u3⟩;have CF3:=h_ (CF.out _ u3);go_wp2_with fail
   refine CF3.out.mono ?_;rintro e w4 ⟨rfl,h4,u4⟩;go_wp2_with fail
   go_ret;exact ⟨rfl,by rw [HY2.out];exact h4,(upd_eq (uD.then_non u3)).trans u4 (fun _ _ h=>h)⟩
  ·have fz:(z != 0)=true:=by simpa using hz
   clear hz;go_enter Tryz.func113,Tryz.ntmps113;go_wp2_with fail
   refine wp_region_held_drew (S:=fun w'=>w'.cell? ⟨p,0,none⟩=some (.slice A n c)∧w'.cell? ⟨p,1,none⟩=some (.int .i64 i)∧w'.cell? ⟨p,3,none⟩=some (.int .i64 z)) (by kernel_rfl) (by rw [HwD.out];exact ⟨d0,d1,d3⟩) (fun hHeld=>?_)
   rw [HwD.out] at hHeld ⊢;refine wpT 0 ?_;(try simp only [y_,z_]);refine wpT 1 ?_;(try simp only [y_,z_]);refine wpT 2 ?_;(try simp only [y_,z_]);refine wpT 3 ?_;(try simp only [y_,z_]);refine wpT 4 ?_;(try simp only [y_,z_]);refine wpT 5 ?_;(try simp only [y_,z_]);refine wpT 6 ?_;(try simp only [y_,z_]);refine wpU 7 ?_;(try simp only [y_,z_]);refine wpU 8 ?_;(try simp only [y_,z_]);refine wpU 9 ?_;(try simp only [y_,z_]);refine wpU 10 ?_;(try simp only [y_,z_]);refine wpU 11 ?_;(try simp only [y_,z_]);refine wpU 12 ?_;(try simp only [y_,z_]);refine wpU 13 ?_;(try simp only [y_,z_]);refine wpU 14 ?_;(try simp only [y_,z_]);refine wpU 15 ?_;(try simp only [y_,z_]);refine wpU 16 ?_;(try simp only [y_,z_]);refine wpT 17 ?_;(try simp only [y_,z_]);refine aD_ (by kernel_rfl) ?_ _;go_wp2_with fail
   refine CO.out.mono ?_;rintro e w3 ⟨rfl,u3⟩;have CF3:=h_ (CF.out _ u3);go_wp2_with fail
   refine CF3.out.mono ?_;rintro e w4 ⟨rfl,h4,u4⟩;go_wp2_with fail
   go_ret;exact ⟨rfl,by rw [HY2.out];exact h4,(upd_eq (uD.then_non u3)).trans u4 (fun _ _ h=>h)⟩
set_option maxHeartbeats 2000000 in
theorem xAt_c {w:World} {p:Nat} {A:Option Addr} {c:Nat} {T:List (Bs×Nat)} {fin:Nat} {x:Xs} (h:XdS w p A c T fin x) (s:Bs) :
  Calls Tryz.prog 110 #[.pointer (some ⟨p,0,none⟩),.string (kstr s)] w fun e w'=>e=.returned (.bool (x.why==0&&decide (tkF T x.i=some s)))∧Upd Non w w':=by
 obtain ⟨c0,c1,c2,c3,c4,c5,c6,c7⟩:=h.cells;have hle:=h.le;obtain ⟨wD,HwD⟩:=nm w.drew;have uD:Upd Non w wD:=by rw [←HwD.out];exact Upd.refl.drew
 obtain ⟨R,HR⟩:=nm (x.why==0&&decide (tkF T x.i=some s));rw [HR.out];obtain ⟨q,Hq⟩:=nm (kstr s);have c0:=u_ c0 uD (fun f=>f);have c1:=u_ c1 uD (fun f=>f);have c3:=u_ c3 uD (fun f=>f);by_cases hi:x.i<T.length
 ·obtain ⟨b,o,rfl,hF,hb,t0,t1⟩:=h.tok.at_ hi;have t0:=u_ t0 uD (fun f=>f);have e:tkF T x.i=some T[x.i].1:=by unfold tkF;rw [List.getElem?_eq_getElem hi];rfl
  rw [e] at HR;generalize T[x.i].1=t at *;obtain ⟨D,HD⟩:=nm (decide (t=s));have hD:((kstr t).toList==(kstr s).toList)=D:=by rw [str_beq,HD.out]
  have HR2:Hid ((x.why==0&&D)=R):=by
   show _=_;rw [←HR.out,←HD.out];simp
  rw [Hq.out] at hD ⊢;obtain ⟨qt,Hqt⟩:=nm (kstr t);rw [Hqt.out] at hD t0;obtain ⟨n,Hn⟩:=nm T.length;rw [Hn.out] at c0 hle hi;obtain ⟨i,Hi⟩:=nm x.i;rw [Hi.out] at c1 hi t0;obtain ⟨z,Hz⟩:=nm x.why;rw [Hz.out] at c3 HR2;have ti:decide (i<n)=true:=dT_ (by omega);clear h c2 c4 c5 c6 c7 t1 e HR;go_enter Tryz.func110,Tryz.ntmps110;go_wp2_with fail
  refine wp_region_held_drew (S:=fun w'=>w'.cell? ⟨p,0,none⟩=some (.slice (some ⟨b,o,none⟩) n c)∧w'.cell? ⟨p,1,none⟩=some (.int .i64 i)∧w'.cell? ⟨p,3,none⟩=some (.int .i64 z)∧w'.cell? ⟨b,o+i * 2,none⟩=some (.string qt)) (by kernel_rfl) (by rw [HwD.out];exact ⟨c0,c1,c3,t0⟩) (fun hHeld=>?_)
  rw [HwD.out] at hHeld ⊢;by_cases hz:z=0
  ·subst hz;obtain rfl:D=R:=by rw [←HR2.out];rfl
   refine wpT 0 ?_;(try simp only [y_,z_]);refine wpT 1 ?_;(try simp only [y_,z_]);refine wpT 2 ?_;(try simp only [y_,z_]);refine wpT 3 ?_;(try simp only [y_,z_]);refine wpT 4 ?_;(try simp only [y_,z_]);refine wpT 5 ?_;(try simp only [y_,z_]);refine wpT 6 ?_;(try simp only [y_,z_]);refine wpT 7 ?_;(try simp only [y_,z_]);refine wpT 8 ?_;(try simp only [y_,z_]);refine wpT 9 ?_;(try simp only [y_,z_]);refine wpT 10 ?_;(try simp only [y_,z_]);refine wpT 11 ?_;(try simp only [y_,z_]);refine wpT 12 ?_;(try simp only [y_,z_]);refine wpT 13 ?_;(try simp only [y_,z_]);refine wpT 14 ?_;(try simp only [y_,z_]);refine wpT 15 ?_;(try simp only [y_,z_]);refine wpT 16 ?_;(try simp only [y_,z_]);refine wpT 17 ?_;(try simp only [y_,z_]);refine wpT 18 ?_;(try simp only [y_,z_]);refine wpT 19 ?_;(try simp only [y_,z_]);refine wpT 20 ?_;(try simp only [y_,z_]);refine wpT 21 ?_;(try simp only [y_,z_]);refine wpT 22 ?_;(try simp only [y_,z_]);refine wpT 23 ?_;(try simp only [y_,z_]);refine wpT 24 ?_;(try simp only [y_,z_])
   refine wpT 25 ?_;(try simp only [y_,z_]);refine wpT 26 ?_;(try simp only [y_,z_]);refine wpT 27 ?_;(try simp only [y_,z_]);refine wpT 28 ?_;(try simp only [y_,z_]);refine wpT 29 ?_;(try simp only [y_,z_]);refine wpT 30 ?_;(try simp only [y_,z_]);refine wpT 31 ?_;(try simp only [y_,z_]);refine wpT 32 ?_;(try simp only [y_,z_]);refine wpT 33 ?_;(try simp only [y_,z_]);refine aD_ (by kernel_rfl) ?_ _;go_wp2_with fail
   go_ret;exact ⟨rfl,uD⟩
  ·have fz:(z==0)=false:=by simpa using hz
   obtain rfl:R=false:=by rw [←HR2.out,fz];rfl
   refine wpT 0 ?_;(try simp only [y_,z_]);refine wpT 1 ?_;(try simp only [y_,z_]);refine wpT 2 ?_;(try simp only [y_,z_]);refine wpT 3 ?_;(try simp only [y_,z_]);refine wpT 4 ?_;(try simp only [y_,z_]);refine wpT 5 ?_;(try simp only [y_,z_]);refine wpT 6 ?_;(try simp only [y_,z_]);refine wpU 7 ?_;(try simp only [y_,z_]);refine wpU 8 ?_;(try simp only [y_,z_]);refine wpU 9 ?_;(try simp only [y_,z_]);refine wpU 10 ?_;(try simp only [y_,z_]);refine wpU 11 ?_;(try simp only [y_,z_]);refine wpU 12 ?_;(try simp only [y_,z_]);refine wpU 13 ?_;(try simp only [y_,z_]);refine wpU 14 ?_;(try simp only [y_,z_]);refine wpU 15 ?_;(try simp only [y_,z_]);refine wpU 16 ?_;(try simp only [y_,z_]);refine wpT 17 ?_;(try simp only [y_,z_]);refine wpT 18 ?_;(try simp only [y_,z_]);refine wpU 19 ?_;(try simp only [y_,z_]);refine wpU 20 ?_;(try simp only [y_,z_]);refine wpU 21 ?_;(try simp only [y_,z_]);refine wpU 22 ?_;(try simp only [y_,z_]);refine wpU 23 ?_;(try simp only [y_,z_]);refine wpU 24 ?_;(try simp only [y_,z_])
   refine wpU 25 ?_;(try simp only [y_,z_]);refine wpU 26 ?_;(try simp only [y_,z_]);refine wpU 27 ?_;(try simp only [y_,z_]);refine wpU 28 ?_;(try simp only [y_,z_]);refine wpU 29 ?_;(try simp only [y_,z_]);refine wpU 30 ?_;(try simp only [y_,z_]);refine wpU 31 ?_;(try simp only [y_,z_]);refine wpT 32 ?_;(try simp only [y_,z_]);refine wpT 33 ?_;(try simp only [y_,z_]);refine aD_ (by kernel_rfl) ?_ _;go_wp2_with fail
   go_ret;exact ⟨rfl,uD⟩
 ·have e:tkF T x.i=none:=by unfold tkF;rw [List.getElem?_eq_none (by omega)];rfl
  rw [e] at HR;obtain rfl:R=false:=by rw [←HR.out];simp
  rw [Hq.out];obtain ⟨n,Hn⟩:=nm T.length;rw [Hn.out] at c0 hle hi;obtain ⟨i,Hi⟩:=nm x.i;rw [Hi.out] at c1 hi;obtain ⟨z,Hz⟩:=nm x.why;rw [Hz.out] at c3;have ti:decide (i<n)=false:=dF_ (by omega);clear h c2 c4 c5 c6 c7 e HR hi;go_enter Tryz.func110,Tryz.ntmps110;go_wp2_with fail
  refine wp_region_held_drew (S:=fun w'=>w'.cell? ⟨p,0,none⟩=some (.slice A n c)∧w'.cell? ⟨p,1,none⟩=some (.int .i64 i)∧w'.cell? ⟨p,3,none⟩=some (.int .i64 z)) (by kernel_rfl) (by rw [HwD.out];exact ⟨c0,c1,c3⟩) (fun hHeld=>?_)
  rw [HwD.out] at hHeld ⊢;by_cases hz:z=0
  ·subst hz;refine wpT 0 ?_;(try simp only [y_,z_]);refine wpT 1 ?_;(try simp only [y_,z_]);refine wpT 2 ?_;(try simp only [y_,z_]);refine wpT 3 ?_;(try simp only [y_,z_]);refine wpT 4 ?_;(try simp only [y_,z_]);refine wpT 5 ?_;(try simp only [y_,z_]);refine wpT 6 ?_;(try simp only [y_,z_]);refine wpT 7 ?_;(try simp only [y_,z_]);refine wpT 8 ?_;(try simp only [y_,z_]);refine wpT 9 ?_;(try simp only [y_,z_]);refine wpT 10 ?_;(try simp only [y_,z_]);refine wpT 11 ?_;(try simp only [y_,z_]);refine wpT 12 ?_;(try simp only [y_,z_]);refine wpT 13 ?_;(try simp only [y_,z_]);refine wpT 14 ?_;(try simp only [y_,z_]);refine wpT 15 ?_;(try simp only [y_,z_]);refine wpT 16 ?_;(try simp only [y_,z_]);refine wpT 17 ?_;(try simp only [y_,z_]);refine wpT 18 ?_;(try simp only [y_,z_]);refine wpU 19 ?_;(try simp only [y_,z_]);refine wpU 20 ?_;(try simp only [y_,z_]);refine wpU 21 ?_;(try simp only [y_,z_]);refine wpU 22 ?_;(try simp only [y_,z_]);refine wpU 23 ?_;(try simp only [y_,z_]);refine wpU 24 ?_
   (try simp only [y_,z_]);refine wpU 25 ?_;(try simp only [y_,z_]);refine wpU 26 ?_;(try simp only [y_,z_]);refine wpU 27 ?_;(try simp only [y_,z_]);refine wpU 28 ?_;(try simp only [y_,z_]);refine wpU 29 ?_;(try simp only [y_,z_]);refine wpU 30 ?_;(try simp only [y_,z_]);refine wpU 31 ?_;(try simp only [y_,z_]);refine wpT 32 ?_;(try simp only [y_,z_]);refine wpT 33 ?_;(try simp only [y_,z_]);refine aD_ (by kernel_rfl) ?_ _;go_wp2_with fail
   go_ret;exact ⟨rfl,uD⟩
  ·have fz:(z==0)=false:=by simpa using hz
   refine wpT 0 ?_;(try simp only [y_,z_]);refine wpT 1 ?_;(try simp only [y_,z_]);refine wpT 2 ?_;(try simp only [y_,z_]);refine wpT 3 ?_;(try simp only [y_,z_]);refine wpT 4 ?_;(try simp only [y_,z_]);refine wpT 5 ?_;(try simp only [y_,z_]);refine wpT 6 ?_;(try simp only [y_,z_]);refine wpU 7 ?_;(try simp only [y_,z_]);refine wpU 8 ?_;(try simp only [y_,z_]);refine wpU 9 ?_;(try simp only [y_,z_]);refine wpU 10 ?_;(try simp only [y_,z_]);refine wpU 11 ?_;(try simp only [y_,z_]);refine wpU 12 ?_;(try simp only [y_,z_]);refine wpU 13 ?_;(try simp only [y_,z_]);refine wpU 14 ?_;(try simp only [y_,z_]);refine wpU 15 ?_;(try simp only [y_,z_]);refine wpU 16 ?_;(try simp only [y_,z_]);refine wpT 17 ?_;(try simp only [y_,z_]);refine wpT 18 ?_;(try simp only [y_,z_]);refine wpU 19 ?_;(try simp only [y_,z_]);refine wpU 20 ?_;(try simp only [y_,z_]);refine wpU 21 ?_;(try simp only [y_,z_]);refine wpU 22 ?_;(try simp only [y_,z_]);refine wpU 23 ?_;(try simp only [y_,z_]);refine wpU 24 ?_;(try simp only [y_,z_])
   refine wpU 25 ?_;(try simp only [y_,z_]);refine wpU 26 ?_;(try simp only [y_,z_]);refine wpU 27 ?_;(try simp only [y_,z_]);refine wpU 28 ?_;(try simp only [y_,z_]);refine wpU 29 ?_;(try simp only [y_,z_]);refine wpU 30 ?_;(try simp only [y_,z_]);refine wpU 31 ?_;(try simp only [y_,z_]);refine wpT 32 ?_;(try simp only [y_,z_]);refine wpT 33 ?_;(try simp only [y_,z_]);refine aD_ (by kernel_rfl) ?_ _;go_wp2_with fail
   go_ret;exact ⟨rfl,uD⟩
def exY (T:List (Bs×Nat)) (fin:Nat) (s:Bs) (x:Xs):Xs:=if x.why=0∧tkF T x.i=some s then { x with i:=x.i+1 } else x.fail 2 (offF T fin x.i)
theorem xExpect_c {w:World} {p:Nat} {A:Option Addr} {c:Nat} {T:List (Bs×Nat)} {fin:Nat} {x:Xs} (h:XdS w p A c T fin x) (s:Bs) (hi:x.i≤100000) :
  Calls Tryz.prog 115 #[.pointer (some ⟨p,0,none⟩),.string (kstr s)] w fun e w'=>e=.returned (.tuple #[])∧XdS w' p A c T fin (exY T fin s x)∧Upd (·=p) w w':=by
 have CA:=h_ (xAt_c h s);have CO:=h_ (fun W (u:Upd Non w W)=>xOffset_c (h.non u));have CF:=h_ (fun W (u:Upd Non w W)=>xFail_c (h.non u) 2 (offF T fin x.i));have H:=h_ h;have HE:Hid (exY T fin s x=if x.why=0∧tkF T x.i=some s then { x with i:=x.i+1 } else x.fail 2 (offF T fin x.i)):=rfl;obtain ⟨Y,HY⟩:=nm (exY T fin s x);rw [HY.out] at HE ⊢;obtain ⟨D,HD⟩:=nm (x.why==0&&decide (tkF T x.i=some s));rw [HD.out] at CA;obtain ⟨r,Hr⟩:=nm (offF T fin x.i);rw [Hr.out] at CO CF HE;obtain ⟨q,Hq⟩:=nm (kstr s);rw [Hq.out] at CA ⊢;clear h
 cases D with
 | false =>
  have HY2:Hid (Y=x.fail 2 r):=by
   show _=_;rw [HE.out,if_neg];intro ⟨h1,h2⟩;have:=HD.out;rw [h1,h2] at this;simp at this
  clear HE HD HY;go_enter Tryz.func115,Tryz.ntmps115;go_wp2_with fail
  refine CA.out.mono ?_;rintro e w2 ⟨rfl,u2⟩;have CO2:=h_ (CO.out _ u2);go_wp2_with fail
  refine CO2.out.mono ?_;rintro e w3 ⟨rfl,u3⟩;have CF3:=h_ (CF.out _ (u2.then_non u3));go_wp2_with fail
  refine CF3.out.mono ?_;rintro e w4 ⟨rfl,h4,u4⟩;go_wp2_with fail
  refine bodyPost_ret (results_none rfl _ _ _) rfl ?_;exact ⟨rfl,by rw [HY2.out];exact h4,(upd_eq (u2.then_non u3)).trans u4 (fun _ _ h=>h)⟩
 | true =>
  have HY2:Hid (Y={ x with i:=x.i+1 }):=by
   show _=_;have hd:=HD.out;simp only [Bool.and_eq_true,beq_iff_eq,decide_eq_true_eq] at hd;rw [HE.out,if_pos hd]
  clear HE HD CO CF HY;go_enter Tryz.func115,Tryz.ntmps115;go_wp2_with fail
  refine CA.out.mono ?_;rintro e w2 ⟨rfl,u2⟩;have h2:=H.out.non u2;obtain ⟨c0,c1,c2,c3,c4,c5,c6,c7⟩:=h2.cells;have cf:=h2.blk.frozen;have H2:=h_ h2;obtain ⟨i,Hi⟩:=nm x.i;rw [Hi.out] at c1 hi;clear h2 CA;go_wp2_with fail
  go_end0
  refine ⟨rfl,?_,(upd_eq u2).trans (updCell _ _ _ _) (fun _ _ h=>h)⟩;rw [HY2.out];refine H2.out.set (updCell _ _ _ _) ?_;have:=H2.out.blk.set_ 1 (.int .i64 ((i:Int)+1));simpa [xcells,Hi.out] using this
def isLt (l:Bs):Bool:=match l with | [c]=>isLw c | _=>false
theorem xIsLetter_c (s:ByteArray) (w:World):Calls Tryz.prog 174 #[.string s] w fun e w'=>e=.returned (.bool (isLt (kx s)))∧w'=w:=by
 have HL:Hid (isLt (kx s)=(decide (s.size=1)&&isLw ((kx s).getD 0 0))):=by
  show _=_;rw [←kx_len]
  match kx s with
  | []=>rfl
  | [c]=>simp [isLt]
  | c::d::l=>simp [isLt]
 obtain ⟨R,HR⟩:=nm (isLt (kx s));rw [HR.out] at HL ⊢;obtain ⟨n,Hn⟩:=nm s.size;rw [Hn.out] at HL;by_cases h1:n=1
 ·have i1:=fun W=>run_at_str Hn.out (show 0<n by omega) W
  rw [show ((0:Nat):Int)=0 from rfl] at i1;have HW:Hid (isLw ((kx s).getD 0 0)=decide (97≤((kx s).getD 0 0).toNat∧((kx s).getD 0 0).toNat≤122)):=rfl;rw [HW.out] at HL;clear HW;generalize ((kx s).getD 0 0).toNat=y at i1 HL;subst h1;have f0:(((s.size:Nat):Int)==1)=true:=by rw [Hn.out];rfl
  by_cases h2:97≤y
  ·have f1:decide ((97:Int)≤(y:Int))=true:=dT_ (by omega);obtain ⟨b,f2⟩:∃b,decide ((y:Int)≤122)=b:=⟨_,rfl⟩
   obtain rfl:R=b:=by
    rw [HL.out,←f2];simp only [h2,true_and,decide_true,Bool.true_and];rw [Bool.eq_iff_iff,decide_eq_true_eq,decide_eq_true_eq];omega
   clear HL;go_enter Tryz.func174,Tryz.ntmps174;go_wp2_with fail
   go_ret;exact ⟨rfl,rfl⟩
  ·have f1:decide ((97:Int)≤(y:Int))=false:=dF_ (by omega);obtain rfl:R=false:=by rw [HL.out];simp [h2]
   clear HL;go_enter Tryz.func174,Tryz.ntmps174;go_wp2_with fail
   go_ret;exact ⟨rfl,rfl⟩
 ·have f1:(((s.size:Nat):Int)==1)=false:=by rw [Hn.out];simp;omega
  obtain rfl:R=false:=by rw [HL.out];simp [h1]
  clear HL;go_enter Tryz.func174,Tryz.ntmps174;go_wp2_with fail
  go_ret;exact ⟨rfl,rfl⟩
theorem run_from_str {s:Bs} {n i:Nat} (h:s.length=n) (hi:i≤n) (w:World):(Instr.slice 9 (.string (kstr s)) (some (.int .i64 (i:Int))) none none).run Tryz.prog w=.ok (.string (kstr (s.drop i))) w:=by
 have hz:(kstr s).size=n:=by rw [kstr_size,h]
 have:=run_slice_string_l (P:=Tryz.prog) w 9 (kstr s) Tryz.underlying9 .i64 (i:Int) (by omega) (by omega);rw [this,kstr_extract,kx_kstr,Int.toNat_natCast,List.take_of_length_le (by rw [List.length_drop];omega)]
theorem run_to_str {s:Bs} {n i:Nat} (h:s.length=n) (hi:i≤n) (w:World):(Instr.slice 9 (.string (kstr s)) none (some (.int .i64 (i:Int))) none).run Tryz.prog w=.ok (.string (kstr (s.take i))) w:=by
 have hz:(kstr s).size=n:=by rw [kstr_size,h]
 have:=run_slice_string_h (P:=Tryz.prog) w 9 (kstr s) Tryz.underlying9 .i64 (i:Int) (by omega) (by omega);rw [this,kstr_extract,kx_kstr];simp
theorem digF_snoc (l:Bs) (c:UInt8):digF (l++[c]) 0=10 * digF l 0+(c.toNat - 48):=by simp [digF]
theorem dig_lt:∀(k:Nat) (l:Bs),l.length=k→l.all isDg=true→digF l 0<10 ^ k
 | 0,l,h,_=>by
  have : l=[]:=List.eq_nil_of_length_eq_zero h;subst this;simp [digF]
 | k+1,l,h,ha=>by
  have hne:l≠[]:=by intro e;subst e;simp at h
  obtain ⟨l0,c,rfl⟩:∃l0 c,l=l0++[c]:=⟨l.dropLast,l.getLast hne,(List.dropLast_concat_getLast hne).symm⟩;rw [List.all_append,Bool.and_eq_true] at ha;have:=dig_lt k l0 (by simpa using h) ha.1;have h2:isDg c=true:=by simpa using ha.2
  unfold isDg at h2;rw [decide_eq_true_eq] at h2;rw [digF_snoc,Nat.pow_succ];omega
def limF (neg:Bool):Nat:=bif neg then 9223372036854775808 else 9223372036854775807
def sgnF (neg:Bool) (n:Nat):Int:=bif neg then -(n:Int) else n
def magF (t:Bs) (neg:Bool):Option Int :=
 if t.length<1∨t.length > 19∨(t.head?=some 48∧(t.length > 1∨neg=true)) then none
 else if t.all isDg then
  if digF t 0 > limF neg then none else some (sgnF neg (digF t 0))
 else none
theorem decF_eq (s:Bs):decF s=magF (if decide (s.head?=some 45) then s.tail else s) (decide (s.head?=some 45)):=by
 unfold decF magF limF sgnF;cases decide (s.head?=some 45) <;> rfl
theorem take_dig {t:Bs} {k:Nat} (h:k<t.length):t.take (k+1)=t.take k++[t.getD k 0]:=by rw [take_snoc_ h,getD_of h]
def sCells (L:List Bs):List Value:=L.map fun s=>Value.string (kstr s)
theorem Sl.new' (w:World) (t:TypeId) (cs:List Value) {a:Array Value} (h:a=cs.toArray):Sl (w.alloc (.cells a t)) (fun _=>True) (some ⟨w.heap.size,0,none⟩) cs:=by
 subst h;exact (Sl.new w t cs).mono (fun _ _ _=>trivial)
theorem nameL_len:nameL.length=28:=rfl
theorem findL_step {l:List Bs} {k:Nat} (h:k<l.length) (s:Bs) (i:Nat):findL (l.drop k) s i=if l[k]=s then some i else findL (l.drop (k+1)) s (i+1):=by
 rw [List.drop_eq_getElem_cons h];rfl
def dotF (s:Bs):Nat:=(s.takeWhile (fun c=>decide (c.toNat≠46))).length
theorem dot_step {s:Bs} {k:Nat} (h:k<s.length):dotF (s.drop k)=if (s.getD k 0).toNat=46 then 0 else dotF (s.drop (k+1))+1:=by
 rw [drop_cons h];unfold dotF;rw [List.takeWhile_cons];generalize s.getD k 0=ch;by_cases e:ch.toNat=46
 ·rw [if_pos e,if_neg (by simp [e])];rfl
 ·rw [if_neg e,if_pos (by simp [e])];rfl
theorem dot_take (s:Bs):s.take (dotF s)=s.takeWhile (fun c=>decide (c.toNat≠46)):=by
 unfold dotF
 induction s with
 | nil=>rfl
 | cons a r ih =>
  rw [List.takeWhile_cons]
  split
  ·rw [List.length_cons,List.take_succ_cons,ih]
  ·rfl
theorem dot_le (s:Bs):dotF s≤s.length:=by
 unfold dotF;exact (List.takeWhile_sublist _).length_le
theorem oper_eq (left:Bool) (s:Bs) (x:PS):operF left s x=(match opF (s.take (dotF s)) with
  | none=>none
  | some op =>
   if (arF op).isNone∨immOp op≠decide (dotF s<s.length) then none
   else if immOp op=false then some (.mk 0 op 0 0 [],x)
   else match decF (s.drop (dotF s+1)) with
    | some n=>some (.mk 0 op n 0 [],x)
    | none=>match s.drop (dotF s+1) with
     | [c]=>if isLw c=true∧0<(lookF x.ms c left).1 then some (.mk 0 op 0 (lookF x.ms c left).1 [],{ x with ms:=(lookF x.ms c left).2 }) else none
     | _=>none):=by
 have e:(s.drop (dotF s)).tail=s.drop (dotF s+1):=by rw [List.tail_drop]
 rw [dot_take];unfold operF;dsimp only;rw [show (List.takeWhile (fun c=>decide (c.toNat≠46)) s).length=dotF s from rfl,e]
 all_goals rfl
theorem lookF_len (l:Bs) (c:UInt8) (left:Bool):(lookF l c left).2.length≤l.length+1:=by
 unfold lookF
 split
 ·simp
 ·split <;> simp
def p0 (q:Pt):Array Value:=#[.int .i64 q.v,.int .i64 q.op,.int .i64 q.imm,.int .i64 q.iv,.slice none 0 0]
section
variable {L:List Tok} {T:List (Bs×Nat)} {fin:Nat}
def wkF (T:List (Bs×Nat)) (i:Nat):Option Bs:=match tkF T i with | some s=>if isPn (s.headD 0) then none else some s | none=>none
end
theorem wrd_eq {α:Type} (T:List (Bs×Nat)) (fin:Nat) (f:Bs→PS→Option (α×PS)) (x:PS):wrdF T fin f x=match wkF T x.i with
  | some s=>(match f s x with | some (a,y)=>.ok (a,{ y with i:=x.i+1 }) | none=>.error (serr T fin x.i))
  | none=>.error (serr T fin x.i):=by
 unfold wrdF wkF
 cases tkF T x.i with
 | none=>rfl
 | some s =>
  dsimp only;generalize isPn (s.headD 0)=b;cases b <;> rfl
def appF (T:List (Bs×Nat)) (fin:Nat) (left:Bool) (f:Nat) (x:PS):Except Er (Pt×PS) :=
 match wrdF T fin (operF left) x with
 | .error e=>.error e
 | .ok (p,y)=>match kidsF (termF T fin left f) ((arF p.op).getD 0) y with
  | .error e=>.error e
  | .ok (l,z)=>match expF T fin [41] z with
   | .error e=>.error e
   | .ok u=>.ok (.mk 0 p.op p.imm p.iv l,u)
theorem termF_succ (T:List (Bs×Nat)) (fin:Nat) (left:Bool) (f:Nat) (x:PS):termF T fin left (f+1) x=if tkF T x.i=some [40] then appF T fin left f { x with i:=x.i+1 } else wrdF T fin (atomF left) x:=rfl
section
variable {w0 w w':World} {p:Nat} {A:Option Addr} {c:Nat} {L:List Tok} {x y y':St} {pc:Array Value}
end
section
variable {n0 p:Nat} {w w':World} {A0:Option Addr} {c0:Nat} {L:List Tok} {y y':St} {A:Option Addr} {n j c:Nat} {ks:List Pt} {S:Nat→Prop}
end
theorem kidsF_snoc (g:PS→Except Er (Pt×PS)):∀(n:Nat) (x:PS),kidsF g (n+1) x=match kidsF g n x with
  | .error e=>.error e
  | .ok (l,y)=>match g y with | .error e=>.error e | .ok (q,z)=>.ok (l++[q],z)
 | 0,x=>by
  simp only [kidsF]
  cases g x with
  | error e=>rfl
  | ok v=>rfl
 | n+1,x=>by
  rw [kidsF,kidsF]
  cases hg:g x with
  | error e=>rfl
  | ok v =>
   obtain ⟨q,y⟩:=v;dsimp only;rw [kidsF_snoc g n y]
   cases kidsF g n y with
   | error e=>rfl
   | ok v =>
    obtain ⟨l,z⟩:=v;dsimp only
    cases g z with
    | error e=>rfl
    | ok v=>rfl
theorem kidsF_err {g:PS→Except Er (Pt×PS)} {n:Nat} {x:PS} {e:Er} (h:kidsF g n x=.error e):∀{m:Nat},n≤m→kidsF g m x=.error e:=by
 intro m hm
 induction hm with
 | refl=>exact h
 | step _ ih=>rw [kidsF_snoc,ih]
theorem wrdF_err {α:Type} {T:List (Bs×Nat)} {fin:Nat} {f:Bs→PS→Option (α×PS)} {x:PS} {e:Er} (h:wrdF T fin f x=.error e):e.1≠0:=by
 rw [wrd_eq] at h
 split at h
 ·split at h
  ·cases h
  ·injection h with h;subst h;show (2:Int)≠0;decide
 ·injection h with h;subst h;show (2:Int)≠0;decide
theorem kidsF_e0 {g:PS→Except Er (Pt×PS)} (hg:∀x e,g x=.error e→e.1≠0):∀{n:Nat} {x:PS} {e:Er},kidsF g n x=.error e→e.1≠0
 | 0,x,e,h=>by simp only [kidsF] at h;cases h
 | n+1,x,e,h=>by
  rw [kidsF] at h
  split at h
  ·rename_i e' he;injection h with h;subst h;exact hg _ _ he
  ·split at h
   ·rename_i e' he;injection h with h;subst h;exact kidsF_e0 hg he
   ·cases h
theorem appF_err {T:List (Bs×Nat)} {fin:Nat} {left:Bool} {f:Nat} (hg:∀x e,termF T fin left f x=.error e→e.1≠0) {x:PS} {e:Er} (h:appF T fin left f x=.error e):e.1≠0:=by
 unfold appF at h
 split at h
 ·rename_i e' he;injection h with h;subst h;exact wrdF_err he
 ·split at h
  ·rename_i e' he;injection h with h;subst h;exact kidsF_e0 hg he
  ·split at h
   ·rename_i e' he;injection h with h;subst h
    unfold expF at he
    split at he
    ·cases he
    ·injection he with he;subst he;show (2:Int)≠0;decide
   ·cases h
theorem termF_err {T:List (Bs×Nat)} {fin:Nat} {left:Bool}:∀(f:Nat) (x:PS) (e:Er),termF T fin left f x=.error e→e.1≠0
 | 0,x,e,h=>by unfold termF at h;injection h with h;subst h;show (2:Int)≠0;decide
 | f+1,x,e,h=>by
  rw [termF_succ] at h
  split at h
  ·exact appF_err (termF_err f) h
  ·exact wrdF_err h
theorem operF_v {left:Bool} {s:Bs} {x y:PS} {q:Pt} (h:operF left s x=some (q,y)):q.v=0:=by
 unfold operF at h;dsimp only at h
 split at h
 ·cases h
 ·split at h
  ·cases h
  ·split at h
   ·injection h with h;injection h with h _;subst h;rfl
   ·split at h
    ·injection h with h;injection h with h _;subst h;rfl
    ·split at h
     ·split at h
      ·injection h with h;injection h with h _;subst h;rfl
      ·cases h
     ·cases h
theorem wrdF_v {T:List (Bs×Nat)} {fin:Nat} {left:Bool} {x y:PS} {q:Pt} (h:wrdF T fin (operF left) x=.ok (q,y)):q.v=0:=by
 rw [wrd_eq] at h
 split at h
 ·split at h
  ·rename_i h2;injection h with h;injection h with h _;subst h;exact operF_v h2
  ·cases h
 ·cases h
theorem arF_le (op:Int):(arF op).getD 0≤3:=by
 unfold arF
 split
 ·decide
 ·split
  ·decide
  ·split <;> decide
theorem sizeL_snoc (q:Pt):∀ks:List Pt,Pt.sizeL (ks++[q])=Pt.sizeL ks+q.size
 | []=>by simp [Pt.sizeL]
 | k::ks=>by simp only [List.cons_append,Pt.sizeL,sizeL_snoc q ks];omega
section
variable {L:List Tok} {T:List (Bs×Nat)} {fin:Nat} {y:St} {s:Bs}
end
section
variable {w w':World} {n0 n1 p:Nat} {y:St} {A A':Option Addr} {q:Pt} {KA:Option Addr} {kc:Nat}
end
section
variable {n0 p m:Nat} {w w':World} {y:St} {A:Option Addr} {n j c:Nat} {ks:List Pt}
end
end Go.Proofs.YtifhejahbbnkiaaGreat
namespace Go.Proofs.YtifhejahbbnkiaaGreat
open Go.RowKit
theorem goodT_mem:∀{L:List Tok} {x:Bs×Nat},x∈goodT L→(⟨x.1,x.2,false⟩:Tok)∈L
 | [],x,h=>by simp [goodT] at h
 | t::L,x,h=>by
  obtain ⟨s,q,b⟩:=t
  cases b with
  | true=>simp [goodT] at h
  | false =>
   rcases List.mem_cons.1 (show x∈(s,q)::goodT L from h) with rfl | h
   ·exact List.mem_cons_self
   ·exact List.mem_cons_of_mem _ (goodT_mem h)
theorem tokL_s:∀(f:Nat) (s:Bs) (o:Nat),∀t∈tokL f s o,t.bad=false→t.s≠[]∧t.s.length≤s.length
 | 0,s,o,t,h,hb=>by rw [tokL,List.mem_singleton] at h;subst h;cases hb
 | f+1,[],o,t,h,hb=>by rw [tokL,List.mem_singleton] at h;subst h;cases hb
 | f+1,c::r,o,t,h,hb=>by
  unfold tokL at h
  split at h
  ·have:=tokL_s f _ _ t h hb;exact ⟨this.1,Nat.le_succ_of_le this.2⟩
  ·rename_i h1
   split at h
   ·have:=tokL_s f _ _ t h hb;rw [List.length_drop] at this;exact ⟨this.1,by omega⟩
   ·rename_i h2
    split at h
    ·rcases List.mem_cons.1 h with rfl | h
     ·exact ⟨by simp,by simp⟩
     ·have:=tokL_s f _ _ t h hb;exact ⟨this.1,Nat.le_succ_of_le this.2⟩
    ·rename_i h3;rcases List.mem_cons.1 h with rfl | h
     ·have hw:1≤wlen (c::r):=by
       unfold wlen;rw [if_pos]
       ·omega
       ·simp only [Bool.or_eq_true,decide_eq_true_eq,not_or] at h3;simp only [wordCh,Bool.and_eq_true,decide_eq_true_eq,Bool.not_eq_true'];have h31:isPn c=false:=by simpa using h3.1.1
        have h22:isCm (c::r)=false:=by simpa using h2
        exact ⟨⟨by omega,h31⟩,h22⟩
      refine ⟨fun q=>?_,?_⟩
      ·have q2:=congrArg List.length q;rw [List.length_take] at q2;simp only [List.length_nil,List.length_cons] at q2;omega
      ·show ((c::r).take _).length≤_;rw [List.length_take];omega
     ·have:=tokL_s f _ _ t h hb;rw [List.length_drop] at this;exact ⟨this.1,by omega⟩
section
variable {T:List (Bs×Nat)} {fin:Nat}
theorem expF_err {s:Bs} {x:PS} {e:Er} (h:expF T fin s x=.error e):e.1≠0:=by
 unfold expF at h
 split at h
 ·cases h
 ·injection h with h;subst h;show (2:Int)≠0;decide
end
theorem kstr_app (a b:Bs):kstr a++kstr b=kstr (a++b):=by
 apply kx_inj;rw [kx_kstr];simp [kx,kstr]
def inF (n:Int):Bs:=[UInt8.ofNat (106+n.toNat)]
def xvY (x:Xs) (pos:Int) (y:Bs→Xs) (K:Nat×Bs):Xs:=if K.1=0 then x.fail 2 pos else y K.2
set_option maxRecDepth 100000 in
set_option maxHeartbeats 4000000 in
theorem xVariable_g {w:World} {p:Nat} {A:Option Addr} {c:Nat} {T:List (Bs×Nat)} {fin:Nat} {x:Xs} (h:XdS w p A c T fin x) (o:Nat) (vs:Bs) (y:Bs→Xs) (hcell:(xcells A T.length c fin x)[o]?=some (.string (kstr vs))) (hset:∀v,(xcells A T.length c fin x).setIfInBounds o (.string (kstr v))=xcells A T.length c fin (y v)) (hn:vs.length≤100000) (ch:UInt8) (pos:Int) :
  Calls Tryz.prog 175 #[.pointer (some ⟨p,0,none⟩),.pointer (some ⟨p,o,none⟩),.string (kstr [ch]),.int .i64 pos] w fun e w'=>e=.returned (.int .i64 (lookF vs ch x.left).1)∧XdS w' p A c T fin (xvY x pos y (lookF vs ch x.left))∧Upd (·=p) w w':=by
 have CF:=h_ (xFail_c h 2 pos);have H:=h_ h;have HSET:Hid (∀v,(xcells A T.length c fin x).setIfInBounds o (.string (kstr v))=xcells A T.length c fin (y v)):=hset
 have ho:o<(xcells A T.length c fin x).size:=by
  rcases Nat.lt_or_ge o (xcells A T.length c fin x).size with q | q
  ·exact q
  ·rw [Array.getElem?_eq_none q] at hcell;cases hcell
 have HO:=h_ ho
 have hsame:(xcells A T.length c fin x).setIfInBounds o (.string (kstr vs))=xcells A T.length c fin x:=by
  apply Array.ext
  ·simp
  ·intro i h1 h2;rw [Array.getElem_setIfInBounds]
   ·split
    ·rename_i e;subst e;rw [Array.getElem?_eq_getElem h2] at hcell;exact (Option.some.inj hcell).symm
    ·rfl
 have HV:Hid (XdS w p A c T fin (y vs)):=⟨by rw [←hset,hsame];exact h.blk,h.tok,h.le⟩;have co:=h.blk.cell o;rw [hcell] at co;have c7:=h.cells.2.2.2.2.2.2.2;have hf:=h.blk.frozen o;have hL:Hid (lookF vs ch x.left=match findB vs ch 0 with | some i=>(i+1,vs) | none=>if x.left then (vs.length+1,vs++[ch]) else (0,vs)):=rfl;obtain ⟨lf,Hlf⟩:=nm x.left;rw [Hlf.out] at hL c7 ⊢;obtain ⟨q1,Hq1⟩:=nm (kstr vs);have HKX:Hid (kx q1=vs):=by show _=_;rw [←Hq1.out,kx_kstr]
 rw [Hq1.out] at co;obtain ⟨q2,Hq2⟩:=nm (kstr [ch]);obtain ⟨n,Hn⟩:=nm vs.length;have HSZ:Hid (q1.size=n):=by show _=_;rw [←kx_len,HKX.out,Hn.out]
 have hsz:=HSZ.out;rw [Hn.out] at hn;rw [Hq2.out];clear h hset hcell ho hsame;go_enter Tryz.func175,Tryz.ntmps175;go_wp2_with fail
 go_loopg [9] n (fun g s wr=>∃k:Nat,Hid (g=n - k)∧k≤n∧s=.int .i64 k∧Hid (findB vs ch 0=findB (vs.drop k) ch k)∧wr=w)
 case atStart=>exact ⟨0,rfl,by omega,rfl,by show _=_;rw [List.drop_zero],rfl⟩
 case round =>
  obtain ⟨k,Hg,hk,rfl,HK,hw⟩:=hrel;subst hw;by_cases hlt:k<n
  ·have ti:decide ((k:Int)<(n:Int))=true:=dT_ (by omega);have hkl:k<vs.length:=by rw [Hn.out];exact hlt
   have hsl:=fun W=>run_sub_str HSZ.out (show k≤k+1 by omega) (show k+1≤n by omega) W
   rw [HKX.out,show ((k+1:Nat):Int)=(k:Int)+1 by omega,show (vs.drop k).take (k+1 - k)=[vs.getD k 0] by rw [drop_cons hkl,show k+1 - k=1 by omega];rfl] at hsl
   have HF:=h_ (findB_step hkl ch k);obtain ⟨z,Hz⟩:=nm (vs.getD k 0);rw [Hz.out] at hsl HF;have hD:((kstr [z]).toList==q2.toList)=decide (z=ch):=by rw [←Hq2.out,str_beq];simp
   obtain ⟨q3,Hq3⟩:=nm (kstr [z]);rw [Hq3.out] at hsl hD;by_cases hyc:z=ch
   ·rw [dT_ hyc] at hD;have HR:Hid (lookF vs ch lf=(k+1,vs)):=by show _=_;rw [hL.out,HK.out,HF.out,if_pos hyc]
    clear hyc HF HK hL;go_wp2_with fail
    go_ret;exact ⟨by rw [HR.out];rfl,by rw [HR.out];unfold xvY;rw [if_neg (by dsimp only;omega)];exact HV.out,Upd.refl⟩
   ·rw [dF_ hyc] at hD;have HK2:Hid (findB vs ch 0=findB (vs.drop (k+1)) ch (k+1)):=by show _=_;rw [HK.out,HF.out,if_neg hyc]
    clear hyc HF HK;go_wp2_with fail
    go_roundg (n - (k+1))
    case measure=>rw [Hg.out];omega
    case rel=>exact ⟨k+1,rfl,by omega,by go_num,HK2,rfl⟩
  ·obtain rfl:n=k:=by omega
   have hnone:findB vs ch 0=none:=by rw [HK.out,List.drop_of_length_le (by rw [Hn.out];exact Nat.le_refl _)];rfl
   have HN:Hid (lookF vs ch lf=if lf then (n+1,vs++[ch]) else (0,vs)):=by show _=_;rw [hL.out,hnone,Hn.out]
   clear hnone HK hL
   cases lf with
   | false =>
    go_wp2_with fail
    refine CF.out.mono ?_;rintro e w2 ⟨rfl,h2,u2⟩;go_wp2_with fail
    go_ret;exact ⟨by rw [HN.out];rfl,by rw [HN.out];exact h2,u2⟩
   | true =>
    have eq3:q1++q2=kstr (vs++[ch]):=by rw [←Hq1.out,←Hq2.out,kstr_app]
    obtain ⟨q3,Hq3⟩:=nm (kstr (vs++[ch]));rw [Hq3.out] at eq3;have hq3:q3.size=n+1:=by rw [←Hq3.out,←kx_len,kx_kstr,List.length_append,Hn.out];rfl
    have b9:=H.out.blk.set_ o (.string q3);have d9:=b9.cell o;rw [Array.getElem?_setIfInBounds_self_of_lt HO.out] at d9
    have g1:¬9223372036854775807<n+q2.size:=by
     have h2:q2.size=1:=by rw [←Hq2.out,kstr_size];rfl
     omega
    go_wp2_with fail
    go_ret;have HN2:Hid (lookF vs ch true=(n+1,vs++[ch])):=HN.out;refine ⟨by rw [HN2.out];rfl,?_,updCell _ _ _ _⟩;rw [HN2.out];unfold xvY;rw [if_neg (show ¬n+1=0 by omega)];refine H.out.set (updCell _ _ _ _) ?_;rw [←HSET.out];dsimp only;rw [Hq3.out];exact b9
theorem xktl (l:Bs):(kstr l).toList=l:=by rw [ByteArray.toList_eq];rfl
def numR (t:Bs) (most:Nat):Option Nat :=
 if t≠[]∧t.length≤19∧¬(2≤t.length∧t.getD 0 0=48)∧t.all isDg=true∧digF t 0≤most then some (digF t 0) else none
theorem digF_ge:∀(l:Bs) (a:Nat),a≤digF l a
 | [],a=>Nat.le_refl _
 | c::l,a=>by
  have:=digF_ge l (10 * a+(c.toNat - 48));show a≤digF l (10 * a+(c.toNat - 48));omega
theorem digF_pos {c:UInt8} {l:Bs} (h:isDg c=true) (hc:c≠48):0<digF (c::l) 0:=by
 have h1:=digF_ge l (10 * 0+(c.toNat - 48));have h2:c.toNat≠48:=fun e=>hc (UInt8.toNat_inj.1 e)
 simp only [isDg,decide_eq_true_eq] at h;show 0<digF l (10 * 0+(c.toNat - 48));omega
theorem magF_num (t:Bs) (neg:Bool):magF t neg=match numR t (limF neg) with
  | some n=>if neg=true∧n=0 then none else some (sgnF neg n)
  | none=>none:=by
 unfold magF numR
 cases t with
 | nil=>simp
 | cons c l =>
  simp only [List.length_cons,List.head?_cons,List.getD_cons_zero,ne_eq,reduceCtorEq,not_false_eq_true,true_and,Option.some.injEq];by_cases h1:l.length+1≤19
  ·by_cases h2:c=48
   ·subst h2
    cases l with
    | nil =>
     have e:digF [48] 0=0:=rfl;have e2:([48]:Bs).all isDg=true:=rfl;have e3:¬(0:Nat) > limF neg:=Nat.not_lt_zero _
     cases neg with
     | true =>
      have e4:isDg 48=true:=rfl;simp [e,e4]
     | false=>simp [e,e2,sgnF]
    | cons d l=>simp
   ·have hq:¬(l.length+1<1∨l.length+1 > 19∨c=48∧(l.length+1 > 1∨neg=true)):=fun q=>by
     rcases q with q | q | q
     ·omega
     ·omega
     ·exact h2 q.1
    by_cases h3:(c::l).all isDg=true
    ·by_cases h4:digF (c::l) 0≤limF neg
     ·have hp:0<digF (c::l) 0:=digF_pos (by rw [List.all_cons,Bool.and_eq_true] at h3;exact h3.1) h2;rw [if_neg hq,if_pos h3,if_neg (by omega),if_pos ⟨h1,fun q=>h2 q.2,h3,h4⟩];dsimp only;rw [if_neg (by omega)]
     ·rw [if_neg hq,if_pos h3,if_pos (by omega),if_neg (fun q=>h4 q.2.2.2)]
    ·rw [if_neg hq,if_neg h3,if_neg (fun q=>h3 q.2.2.1)]
  ·rw [if_pos (by omega),if_neg (by omega)]
set_option maxRecDepth 100000 in
set_option maxHeartbeats 4000000 in
theorem r1Number_c (t:Bs) (most:Nat) (w:World) (hs:t.length≤1000000) :
  Calls Tryz.prog 225 #[.string (kstr t),.int .u64 most] w fun e w'=>e=.returned (.tuple #[.int .u64 (((numR t most).getD 0:Nat):Int),.bool (numR t most).isSome])∧w'=w:=by
 obtain ⟨r,HR⟩:=nm (numR t most);have HR1:Hid (r=numR t most):=HR.out.symm;obtain ⟨m,Hm⟩:=nm t.length;have hz:(kstr t).size=m:=by rw [kstr_size,Hm.out]
 have hm0:=Hm.out;rw [hm0] at hs;obtain ⟨q,Hq⟩:=nm (kstr t);obtain ⟨z1,Hz1⟩:=nm (((r.getD 0:Nat):Int));obtain ⟨z2,Hz2⟩:=nm r.isSome;rw [←HR1.out,Hz1.out,Hz2.out]
 have HE:Hid ((q.toList==[])=decide (m=0)):=by
  show _=_;rw [←Hq.out,xktl]
  cases t with
  | nil=>rw [←hm0];rfl
  | cons c l=>rw [←hm0];simp
 clear HR hm0;have HNN:Hid (r=none→z1=0∧z2=false):=fun h=>by rw [←Hz1.out,←Hz2.out,h];exact ⟨rfl,rfl⟩
 have HNS:Hid (∀n,r=some n→z1=(n:Int)∧z2=true):=fun n h=>by rw [←Hz1.out,←Hz2.out,h];exact ⟨rfl,rfl⟩
 clear Hz1 Hz2;rw [Hq.out] at hz ⊢;go_enter Tryz.func225,Tryz.ntmps225;go_wp2_with fail
 go_loopg [6,7] m (fun g a b wr=>∃k:Nat,Hid (g=m - k)∧k≤m∧k≤19∧b=.int .i64 k∧a=.int .u64 (digF (t.take k) 0)∧Hid ((t.take k).all isDg=true)∧Hid (¬(2≤k∧t.getD 0 0=48))∧wr=w)
 case atStart=>exact ⟨0,rfl,by omega,by omega,rfl,rfl,rfl,by show ¬_;omega,rfl⟩
 case round =>
  obtain ⟨k,Hg,hk,hk19,rfl,rfl,HA,HZ,hw⟩:=hrel;subst hw;have hlt18:=dig_lt (t.take k).length (t.take k) rfl HA.out;have hkl:(t.take k).length=k:=by rw [List.length_take,Hm.out];omega
  rw [hkl] at hlt18;obtain ⟨n,Hdn⟩:=nm (digF (t.take k) 0);rw [Hdn.out] at hlt18 ⊢;by_cases hlt:k<m
  ·have ti:decide ((k:Int)<(m:Int))=true:=dT_ (by omega);have hkt:k<t.length:=by rw [Hm.out];exact hlt
   have i1:=fun W=>run_at_str hz hlt W
   have i0:=fun W=>run_at_str hz (show 0<m by omega) W
   rw [←Hq.out,kx_kstr] at i1 i0;rw [Hq.out] at i1 i0;rw [show ((0:Nat):Int)=0 from rfl] at i0;have HT:=h_ (take_dig hkt);have HC0:Hid (k=0→t.getD k 0=t.getD 0 0):=fun e=>by rw [e]
   obtain ⟨c,Hc⟩:=nm (t.getD k 0);rw [Hc.out] at i1 HT HC0;have HD:Hid (isDg c=decide (48≤c.toNat∧c.toNat≤57)):=rfl;have HDG:=h_ (digF_snoc (t.take k) c);rw [←HT.out,Hdn.out] at HDG;have HAL:Hid ((t.take (k+1)).all isDg=isDg c):=by show _=_;rw [HT.out,List.all_append,HA.out];simp
   have HNO:Hid (isDg c=false→r=none):=fun q=>by
    rw [HR1.out];unfold numR;rw [if_neg];intro q2;have q2:=q2.2.2.2.1;rw [List.all_eq_true] at q2;have : c∈t:=by rw [←Hc.out,getD_of hkt];exact List.getElem_mem _
    rw [q2 c this] at q;cases q
   have HN2:Hid (k=1→(t.getD 0 0).toNat=48→r=none):=fun q q2=>by
    rw [HR1.out];unfold numR;rw [if_neg];intro q3;exact q3.2.2.1 ⟨by rw [Hm.out];omega,UInt8.toNat_inj.1 q2⟩
   have HN3:Hid (18<k→r=none):=fun q=>by
    rw [HR1.out];unfold numR;rw [if_neg];intro q3;have:=q3.2.1;rw [Hm.out] at this;omega
   have HZ2:Hid (¬(k=1∧(t.getD 0 0).toNat=48)→¬(2≤k+1∧t.getD 0 0=48)):=fun q q2=>by
    by_cases e:k=1
    ·exact q ⟨e,by rw [q2.2];rfl⟩
    ·exact HZ.out ⟨by omega,q2.2⟩
   generalize c.toNat=y at i1 HD HDG;generalize (t.getD 0 0).toNat=y0 at i0 HN2 HZ2;obtain ⟨dg,Hdg⟩:=nm (isDg c);rw [Hdg.out] at HD HAL HNO;clear hkl HT HA HZ HC0;by_cases hy1:y<48
   ·have f1:decide ((y:Int)<48)=true:=dT_ (by omega);obtain rfl:dg=false:=by rw [HD.out];exact dF_ (by omega)
    have HN:=h_ (HNO.out rfl);clear hy1 HD HDG HAL HNO HN2 HN3 HZ2 hlt18;obtain ⟨rfl,rfl⟩:=HNN.out HN.out;go_wp2_with fail
    go_ret2;exact ⟨rfl,rfl⟩
   ·have f1:decide ((y:Int)<48)=false:=dF_ (by omega);by_cases hy2:57<y
    ·have f2:decide ((57:Int)<(y:Int))=true:=dT_ (by omega);obtain rfl:dg=false:=by rw [HD.out];exact dF_ (by omega)
     have HN:=h_ (HNO.out rfl);clear hy1 hy2 HD HDG HAL HNO HN2 HN3 HZ2 hlt18;obtain ⟨rfl,rfl⟩:=HNN.out HN.out;go_wp2_with fail
     go_ret2;exact ⟨rfl,rfl⟩
    ·have f2:decide ((57:Int)<(y:Int))=false:=dF_ (by omega);obtain rfl:dg=true:=by rw [HD.out];exact dT_ (by omega)
     by_cases hk1:k=1
     ·have f5:((k:Int)==1)=true:=by rw [hk1];rfl
      have i1':=i1;rw [hk1,show ((1:Nat):Int)=1 from rfl] at i1';by_cases hy0:y0=48
      ·have f6:((y0:Int)==48)=true:=by rw [hy0];rfl
       have HN:=h_ (HN2.out hk1 hy0);clear hy1 hy2 HD HDG HAL HNO HN2 HN3 HZ2 hlt18 hk1 hy0;obtain ⟨rfl,rfl⟩:=HNN.out HN.out;go_wp2_with fail
       go_ret2;exact ⟨rfl,rfl⟩
      ·have f6:((y0:Int)==48)=false:=by simp;omega
       have HZ3:=h_ (HZ2.out (fun q=>hy0 q.2));have hk18:¬18<k:=by omega
       clear hy0;have f4:decide ((18:Int)<(k:Int))=false:=dF_ (by omega)
       have hn18:n<1000000000000000000:=by
        have : (10:Nat) ^ k≤10 ^ 18:=Nat.pow_le_pow_right (by omega) (by omega);omega
       have w1:IntKind.u64.wrap (10 * (n:Int))=10 * (n:Int):=by rw [IntKind.wrap_u64];omega
       have w2:IntKind.u8.wrap ((y:Int) - 48)=(y:Int) - 48:=by rw [IntKind.wrap_u8];omega
       have w3:IntKind.u64.wrap ((y:Int) - 48)=(y:Int) - 48:=by rw [IntKind.wrap_u64];omega
       have w4:IntKind.u64.wrap (10 * (n:Int)+((y:Int) - 48))=10 * (n:Int)+((y:Int) - 48):=by rw [IntKind.wrap_u64];omega
       have hy3:48≤y:=by omega
       clear HD HNO HN2 HN3 hlt18;go_wp2_with fail
       go_roundg (m - (k+1))
       case measure=>rw [Hg.out];omega
       case rel=>exact ⟨k+1,rfl,by omega,by omega,by go_num,by rw [HDG.out];congr 1;omega,HAL.out,HZ3.out,rfl⟩
     ·have f5:((k:Int)==1)=false:=by simp;omega
      have HZ3:=h_ (HZ2.out (fun q=>hk1 q.1));clear hk1;by_cases hk18:18<k
      ·have f4:decide ((18:Int)<(k:Int))=true:=dT_ (by omega);have HN:=h_ (HN3.out hk18);clear HD HDG HAL HNO HN2 HN3 HZ2 hlt18 hk18;obtain ⟨rfl,rfl⟩:=HNN.out HN.out;go_wp2_with fail
       go_ret2;exact ⟨rfl,rfl⟩
      ·skip;have f4:decide ((18:Int)<(k:Int))=false:=dF_ (by omega)
       have hn18:n<1000000000000000000:=by
        have : (10:Nat) ^ k≤10 ^ 18:=Nat.pow_le_pow_right (by omega) (by omega);omega
       have w1:IntKind.u64.wrap (10 * (n:Int))=10 * (n:Int):=by rw [IntKind.wrap_u64];omega
       have w2:IntKind.u8.wrap ((y:Int) - 48)=(y:Int) - 48:=by rw [IntKind.wrap_u8];omega
       have w3:IntKind.u64.wrap ((y:Int) - 48)=(y:Int) - 48:=by rw [IntKind.wrap_u64];omega
       have w4:IntKind.u64.wrap (10 * (n:Int)+((y:Int) - 48))=10 * (n:Int)+((y:Int) - 48):=by rw [IntKind.wrap_u64];omega
       have hy3:48≤y:=by omega
       clear HD HNO HN2 HN3 hlt18;go_wp2_with fail
       go_roundg (m - (k+1))
       case measure=>rw [Hg.out];omega
       case rel=>exact ⟨k+1,rfl,by omega,by omega,by go_num,by rw [HDG.out];congr 1;omega,HAL.out,HZ3.out,rfl⟩
  ·have HKM:Hid (m=k):=by show _=_;omega
   have ti:decide ((k:Int)<(m:Int))=false:=dF_ (by omega)
   have hall:t.all isDg=true:=by
    have:=HA.out
    rwa [List.take_of_length_le (by rw [Hm.out,HKM.out];exact Nat.le_refl _)] at this
   have hdt:digF t 0=n:=by rw [←Hdn.out,List.take_of_length_le (by rw [Hm.out,HKM.out];exact Nat.le_refl _)]
   have HM:Hid (r=if m≠0∧n≤most then some n else none):=by
    show _=_;rw [HR1.out];unfold numR;rw [hdt];have hne:t≠[]↔m≠0:=by rw [←Hm.out];simp
    by_cases hq:m≠0∧n≤most
    ·rw [if_pos hq,if_pos ⟨hne.2 hq.1,by rw [Hm.out,HKM.out];exact hk19,by rw [Hm.out,HKM.out];exact HZ.out,hall,hq.2⟩]
    ·rw [if_neg hq,if_neg (fun q2=>hq ⟨hne.1 q2.1,q2.2.2.2.2⟩)]
   clear hall hdt HA HZ hlt18 hkl;by_cases hm0:m=0
   ·have fe:(q.toList==[])=true:=by rw [HE.out];exact dT_ hm0
    have HN:Hid (r=none):=by show _=_;rw [HM.out,if_neg (fun h=>h.1 hm0)]
    clear HM hm0 HE;obtain ⟨rfl,rfl⟩:=HNN.out HN.out;go_wp2_with fail
    go_ret2;exact ⟨rfl,rfl⟩
   ·have fe:(q.toList==[])=false:=by rw [HE.out];exact dF_ hm0
    by_cases hb:n≤most
    ·have fb:decide ((most:Int)<(n:Int))=false:=dF_ (by omega);have HS:Hid (r=some n):=by show _=_;rw [HM.out,if_pos ⟨hm0,hb⟩]
     obtain ⟨h1,h2⟩:=HNS.out n HS.out;have H1:=h_ h1;have H2:=h_ h2;clear HM hm0 HE h1 h2;go_wp2_with fail
     go_ret2;exact ⟨by rw [H1.out,H2.out];rfl,rfl⟩
    ·have fb:decide ((most:Int)<(n:Int))=true:=dT_ (by omega);have HN:Hid (r=none):=by show _=_;rw [HM.out,if_neg (fun h=>hb h.2)]
     clear HM hm0 HE;obtain ⟨rfl,rfl⟩:=HNN.out HN.out;go_wp2_with fail
     go_ret2;exact ⟨rfl,rfl⟩
set_option maxRecDepth 100000 in
set_option maxHeartbeats 4000000 in
theorem r1Parse_c (s:Bs) (w:World) (hs:s.length≤1000000) :
  Calls Tryz.prog 173 #[.string (kstr s)] w fun e w'=>e=.returned (.tuple #[.int .i64 ((decF s).getD 0),.bool (decF s).isSome])∧w'=w:=by
 have HD:Hid (decF s=magF (if decide (s.head?=some 45) then s.tail else s) (decide (s.head?=some 45))):=decF_eq s;obtain ⟨r,Hr⟩:=nm (decF s);rw [Hr.out] at HD ⊢;obtain ⟨n0,Hn0⟩:=nm s.length;have hz0:(kstr s).size=n0:=by rw [kstr_size,Hn0.out]
 have HE:Hid (((kstr s).toList==[])=decide (n0=0)):=by
  show _=_;rw [xktl,←Hn0.out]
  cases s with
  | nil=>rfl
  | cons c l=>simp
 have C1:=h_ (fun W=>r1Number_c s 9223372036854775807 W hs);have C2:=h_ (fun W=>r1Number_c (s.drop 1) 9223372036854775808 W (by rw [List.length_drop];omega))
 have HM1:Hid (decide (s.head?=some 45)=false→r=(numR s 9223372036854775807).map fun n=>(n:Int)):=fun h=>by
  rw [HD.out,h];simp only [Bool.false_eq_true,if_false];rw [magF_num];show (match numR s 9223372036854775807 with | some n=>_ | none=>_)=_
  cases numR s 9223372036854775807 with
  | none=>rfl
  | some n=>simp [sgnF]
 have HM2:Hid (decide (s.head?=some 45)=true→r=match numR (s.drop 1) 9223372036854775808 with | some n=>if n=0 then none else some (-(n:Int)) | none=>none):=fun h=>by
  rw [HD.out,h];simp only [if_true];rw [magF_num,show s.tail=s.drop 1 by cases s <;> rfl];show (match numR (s.drop 1) 9223372036854775808 with | some n=>_ | none=>_)=_
  cases numR (s.drop 1) 9223372036854775808 with
  | none=>rfl
  | some n =>
   dsimp only;by_cases h0:n=0 <;> simp [h0,sgnF]
 have HB1:Hid (∀n,numR s 9223372036854775807=some n→n≤9223372036854775807):=fun n h=>by
  unfold numR at h
  split at h
  ·rename_i q;injection h with h;omega
  ·cases h
 have HB2:Hid (∀n,numR (s.drop 1) 9223372036854775808=some n→n≤9223372036854775808):=fun n h=>by
  unfold numR at h
  split at h
  ·rename_i q;injection h with h;omega
  ·cases h
 have hsl:1≤n0→∀W,(Instr.slice 9 (.string (kstr s)) (some (.int .i64 (1:Int))) none none).run Tryz.prog W=.ok (.string (kstr (s.drop 1))) W:=fun h W=>by
  have:=run_from_str Hn0.out h W;exact this
 obtain ⟨k1,Hk1⟩:=nm (numR s 9223372036854775807);obtain ⟨k2,Hk2⟩:=nm (numR (s.drop 1) 9223372036854775808);rw [Hk1.out] at C1 HM1 HB1;rw [Hk2.out] at C2 HM2 HB2;obtain ⟨q1,Hq1⟩:=nm (kstr (s.drop 1));rw [Hq1.out] at hsl C2;clear HD hs;by_cases h0:n0=0
 ·have fe:((kstr s).toList==[])=true:=by rw [HE.out];exact dT_ h0
  have hneg:decide (s.head?=some 45)=false:=by
   have:=Hn0.out;rw [h0] at this;rw [List.eq_nil_of_length_eq_zero this];rfl
  obtain ⟨qs,Hqs⟩:=nm (kstr s);rw [Hqs.out] at fe C1 hsl hz0 ⊢;clear HE h0;have HMR:=h_ (HM1.out hneg);have C1w:=h_ (C1.out w);clear HM1 HM2 HB2 C1 C2 hsl hneg
  cases k1 with
  | none =>
   go_enter Tryz.func173,Tryz.ntmps173;go_wp2_with fail
   refine C1w.out.mono ?_;rintro e w2 ⟨rfl,rfl⟩;go_wp2_with fail
   go_ret2;exact ⟨by rw [HMR.out];rfl,rfl⟩
  | some n =>
   have hn:=HB1.out n rfl;have w5:wrap64 (n:Int)=(n:Int):=wrap64_of (by unfold I64;omega);go_enter Tryz.func173,Tryz.ntmps173;go_wp2_with fail
   refine C1w.out.mono ?_;rintro e w2 ⟨rfl,rfl⟩;go_wp2_with fail
   go_ret2;exact ⟨by rw [HMR.out];first | rfl | (simp [w5]),rfl⟩
 ·have fe:((kstr s).toList==[])=false:=by rw [HE.out];exact dF_ h0
  have i0:=fun W=>run_at_str hz0 (show 0<n0 by omega) W
  rw [kx_kstr,show ((0:Nat):Int)=0 from rfl] at i0
  have hh:s.head?=some 45↔(s.getD 0 0).toNat=45:=by
   cases s with
   | nil=>have:=Hn0.out;simp at this;omega
   | cons a r =>
    simp only [List.head?_cons,Option.some.injEq,List.getD_cons_zero];constructor
    ·rintro rfl;rfl
    ·intro e;exact UInt8.toNat_inj.1 e
  have hsl2:=hsl (by omega);generalize (s.getD 0 0).toNat=y at i0 hh;obtain ⟨qs,Hqs⟩:=nm (kstr s);rw [Hqs.out] at fe C1 hsl hsl2 hz0 i0 ⊢;by_cases hy:y=45
  ·have fy:((y:Int) != 45)=false:=by rw [hy];rfl
   have hneg:decide (s.head?=some 45)=true:=dT_ (hh.2 hy);have HMR:=h_ (HM2.out hneg);have C2w:=h_ (C2.out w);clear HM1 HM2 HB1 C1 C2 hsl hneg hh hy HE h0
   cases k2 with
   | none =>
    go_enter Tryz.func173,Tryz.ntmps173;go_wp2_with fail
    refine C2w.out.mono ?_;rintro e w2 ⟨rfl,rfl⟩;go_wp2_with fail
    go_ret2;exact ⟨by rw [HMR.out];rfl,rfl⟩
   | some n =>
    have hn:=HB2.out n rfl;by_cases hn0:n=0
    ·subst hn0;go_enter Tryz.func173,Tryz.ntmps173;go_wp2_with fail
     refine C2w.out.mono ?_;rintro e w2 ⟨rfl,rfl⟩;go_wp2_with fail
     go_ret2;exact ⟨by rw [HMR.out];rfl,rfl⟩
    ·have fn:((n:Int)==0)=false:=by simp;omega
     have w1:IntKind.u64.wrap ((n:Int) - 1)=(n:Int) - 1:=by rw [IntKind.wrap_u64];omega
     have w2:wrap64 ((n:Int) - 1)=(n:Int) - 1:=wrap64_of (by unfold I64;omega);have w3:wrap64 (-((n:Int) - 1)) = -((n:Int) - 1):=wrap64_of (by unfold I64;omega);have w4:wrap64 (-((n:Int) - 1) - 1) = -((n:Int) - 1) - 1:=wrap64_of (by unfold I64;omega);have HMR2:Hid (r=some (-(n:Int))):=by show _=_;rw [HMR.out];dsimp only;rw [if_neg hn0]
     clear HMR hn0 hn;go_enter Tryz.func173,Tryz.ntmps173;go_wp2_with fail
     refine C2w.out.mono ?_;rintro e w2 ⟨rfl,rfl⟩;go_wp2_with fail
     go_ret2;exact ⟨by rw [HMR2.out];show Ending.returned (.tuple #[.int .i64 (wrap64 (-((n:Int) - 1) - 1)),.bool true])=_;rw [w4,show -((n:Int) - 1) - 1 = -(n:Int) by omega];rfl,rfl⟩
  ·have fy:((y:Int) != 45)=true:=by simp;omega
   have hneg:decide (s.head?=some 45)=false:=dF_ (fun q=>hy (hh.1 q));clear hh hy HE h0 hsl2;have HMR:=h_ (HM1.out hneg);have C1w:=h_ (C1.out w);clear HM1 HM2 HB2 C1 C2 hsl hneg
   cases k1 with
   | none =>
    go_enter Tryz.func173,Tryz.ntmps173;go_wp2_with fail
    refine C1w.out.mono ?_;rintro e w2 ⟨rfl,rfl⟩;go_wp2_with fail
    go_ret2;exact ⟨by rw [HMR.out];rfl,rfl⟩
   | some n =>
    have hn:=HB1.out n rfl;have w5:wrap64 (n:Int)=(n:Int):=wrap64_of (by unfold I64;omega);go_enter Tryz.func173,Tryz.ntmps173;go_wp2_with fail
    refine C1w.out.mono ?_;rintro e w2 ⟨rfl,rfl⟩;go_wp2_with fail
    go_ret2;exact ⟨by rw [HMR.out];first | rfl | (simp [w5]),rfl⟩
set_option maxRecDepth 100000 in
theorem r10names_c (w:World):Calls Tryz.prog 214 #[] w fun e w'=>e=.returned (.slice (some ⟨w.heap.size,0,none⟩) 28 28)∧Sl w' (fun _=>True) (some ⟨w.heap.size,0,none⟩) (sCells nameL)∧Upd Non w w':=by
 go_enter Tryz.func214,Tryz.ntmps214;go_wp2_with fail
 go_ret;exact ⟨rfl,Sl.new' w _ _ rfl,Upd.refl.alloc _⟩
set_option maxRecDepth 100000 in
set_option maxHeartbeats 1000000 in
theorem r10Op_c (s:Bs) (w:World):Calls Tryz.prog 226 #[.string (kstr s)] w fun e w'=>e=.returned (.tuple #[.int .i64 ((opF s).getD 0),.bool (opF s).isSome])∧Upd Non w w':=by
 have C:=h_ (r10names_c w);have HO:Hid (opF s=(findL nameL s 0).map (4+·)):=rfl;obtain ⟨r,Hr⟩:=nm (opF s);rw [Hr.out] at HO;rw [Hr.out];obtain ⟨z1,Hz1⟩:=nm (r.getD 0);obtain ⟨z2,Hz2⟩:=nm r.isSome;rw [Hz1.out,Hz2.out];obtain ⟨str,Hstr⟩:=nm (kstr s);rw [Hstr.out];go_enter Tryz.func226,Tryz.ntmps226;go_wp2_with fail
 refine C.out.mono ?_;rintro e W ⟨rfl,hs,hu⟩;clear C;go_wp2_with fail
 obtain ⟨A,HA⟩:=nm (some (⟨w.heap.size,0,none⟩:Addr));rw [HA.out] at hs ⊢
 go_loopg [5] 28 (fun g i wr=>∃k:Nat,Hid (g=28 - k)∧k≤28∧i=.int .i64 k∧Hid (findL nameL s 0=findL (nameL.drop k) s k)∧wr=W)
 case atStart=>exact ⟨0,rfl,by omega,rfl,rfl,rfl⟩
 case round =>
  obtain ⟨k,Hg,hk,rfl,HK,hw⟩:=hrel;subst hw;by_cases hlt:k<28
  ·have ti:decide ((k:Int)<28)=true:=dT_ (by omega);have hkl:k<nameL.length:=hlt;obtain ⟨b,o,rfl,_,_,hc⟩:=hs.at_ (k:=k) (by simpa [sCells] using hkl);have HF:=h_ (findL_step hkl s k);have hc2:wr.cell? ⟨b,o+k,none⟩=some (.string (kstr nameL[k])):=by rw [hc];simp [sCells]
   generalize nameL[k]=nk at hc2 HF;have hq:((kstr nk).toList==str.toList)=decide (nk=s):=by rw [←Hstr.out,str_beq]
   obtain ⟨nks,Hnks⟩:=nm (kstr nk);rw [Hnks.out] at hc2 hq;clear hc hs;by_cases he:nk=s
   ·rw [dT_ he] at hq;have HR:Hid (r=some (4+k)):=by show _=_;rw [HO.out,HK.out,HF.out,if_pos he];rfl
    clear he HF HK HO;go_wp2_with fail
    go_ret2;exact ⟨by rw [←Hz1.out,←Hz2.out,HR.out];rfl,hu⟩
   ·rw [dF_ he] at hq;have HK2:Hid (findL nameL s 0=findL (nameL.drop (k+1)) s (k+1)):=by show _=_;rw [HK.out,HF.out,if_neg he]
    clear he HF HK;go_wp2_with fail
    go_roundg (28 - (k+1))
    case measure=>rw [Hg.out];omega
    case rel=>exact ⟨k+1,rfl,by omega,by go_num,HK2,rfl⟩
  ·obtain rfl:k=28:=by omega
   have HR:Hid (r=none):=by show _=_;rw [HO.out,HK.out,List.drop_of_length_le (by rw [nameL_len];exact Nat.le_refl _)];rfl
   clear HK HO;go_wp2_with fail
   go_ret2;exact ⟨by rw [←Hz1.out,←Hz2.out,HR.out];rfl,hu⟩
theorem ops_eq {op:Int} (h4:4≤op) (h:op<32):allowedF op=(arF op).isSome∧hasImmF op=immOp op∧arityF op=((((arF op).getD 0:Nat):Int),true)∨allowedF op=false∧arF op=none:=by
 obtain ⟨i,hi⟩:∃i:Fin 28,op=4+(i.val:Int):=⟨⟨(op - 4).toNat,by omega⟩,by show op=4+((op - 4).toNat:Int);omega⟩;have key:∀i:Fin 28,(allowedF (4+(i.val:Int))=(arF (4+(i.val:Int))).isSome∧hasImmF (4+(i.val:Int))=immOp (4+(i.val:Int))∧arityF (4+(i.val:Int))=((((arF (4+(i.val:Int))).getD 0:Nat):Int),true))∨(allowedF (4+(i.val:Int))=false∧arF (4+(i.val:Int))=none):=by decide +kernel
 subst hi;exact key i
theorem findL_lt {l:List Bs} {s:Bs}:∀{k i:Nat},findL l s k=some i→i<k+l.length:=by
 induction l with
 | nil=>intro k i h;cases h
 | cons x l ih =>
  intro k i h;rw [findL] at h
  split at h
  ·injection h with h;simp;omega
  ·have:=ih h;simp;omega
theorem opF_lt {s:Bs} {n:Nat} (h:opF s=some n):4≤(n:Int)∧(n:Int)<32:=by
 unfold opF at h
 cases hf:findL nameL s 0 with
 | none=>rw [hf] at h;cases h
 | some i =>
  rw [hf] at h;have:=findL_lt hf;rw [nameL_len] at this;have h:4+i=n:=by simpa using h
  omega
theorem decF_lw {c:UInt8} (h:isLw c=true):decF [c]=none:=by
 simp only [isLw,decide_eq_true_eq] at h;have h1:c≠45:=fun e=>by rw [e] at h;exact absurd h.1 (by decide)
 have h2:c≠48:=fun e=>by rw [e] at h;exact absurd h.1 (by decide)
 have h3:isDg c=false:=by simp only [isDg,decide_eq_false_iff_not];omega
 simp [decF,h1,h2,h3]
theorem isLt_some {t:Bs} (h:isLt t=true):∃c,t=[c]∧isLw c=true:=by
 match t,h with
 | [c],h=>exact ⟨c,rfl,h⟩
def immF (t:Bs) (G:UInt8→Option (Pt×PS)):Option (Pt×PS):=match t with
 | [c]=>G c
 | _=>none
theorem immF_no {t:Bs} {G:UInt8→Option (Pt×PS)} (h:isLt t=false) (hG:∀c,isLw c=false→G c=none):immF t G=none:=by
 match t,h with
 | [],_=>rfl
 | [c],h=>exact hG c h
 | _::_::_,_=>rfl
def XOpP (w:World) (p:Nat) (A:Option Addr) (c:Nat) (T:List (Bs×Nat)) (fin:Nat) (x:Xs) (s:Bs) (pos:Int) (o:Option (Pt×PS)) (e:Ending) (w':World):Prop :=
 ∃(q:Pt) (b:Bool) (y:Xs),e=.returned (.tuple #[pv q none 0,.bool b])∧q.kids=[]∧XdS w' p A c T fin y∧Upd (·=p) w w'∧(b=true→s≠[]∧q.v=0∧arityF q.op=((((arF q.op).getD 0:Nat):Int),true))∧(match o with | some (q',ps)=>b=true∧q=q'∧y={ x with ms:=ps.ms }∧ps.vs=x.vs∧ps.i=x.i | none=>(b=false∧y=x)∨(b=true∧y=x.fail 2 pos))
set_option maxRecDepth 100000 in
set_option maxHeartbeats 4000000 in
theorem xOperation_c {w:World} {p:Nat} {A:Option Addr} {c:Nat} {T:List (Bs×Nat)} {fin:Nat} {x:Xs} (h:XdS w p A c T fin x) (hn:x.ms.length≤100000) (s:Bs) (hs:s.length≤1000000) (pos:Int) :
  Calls Tryz.prog 176 #[.pointer (some ⟨p,0,none⟩),.string (kstr s),.int .i64 pos] w (XOpP w p A c T fin x s pos (operF x.left s x.ps)):=by
 have HO:Hid (operF x.left s x.ps=_):=oper_eq x.left s x.ps;obtain ⟨o,Ho⟩:=nm (operF x.left s x.ps);rw [Ho.out] at HO;rw [Ho.out];have hz:(kstr s).size=s.length:=kstr_size s;obtain ⟨n,Hn⟩:=nm s.length;rw [Hn.out] at hz hs HO;have hdl:=dot_le s;rw [Hn.out] at hdl;obtain ⟨W,HW⟩:=nm (w.alloc (.cells #[.int .i64 0,.int .i64 0,.int .i64 0,.int .i64 0,.slice none 0 0] 38));have hU:Upd Non w W:=by rw [←HW.out];exact Upd.refl.alloc _
 have hb:Blk W w.heap.size 38 #[.int .i64 0,.int .i64 0,.int .i64 0,.int .i64 0,.slice none 0 0]:=by rw [←HW.out];exact Blk.new _ _ _
 have e0:=HW.out;have hpw:p<w.heap.size:=h.blk.lt;have HR:=h_ (h.non hU);have H:=h_ h;have HB:=h_ hb;have HUU:=h_ hU;clear h hb hU HW;go_enter Tryz.func176,Tryz.ntmps176;go_wp2_with fail
 go_loopg [8] (n+1) (fun g a wr=>∃k:Nat,Hid (g=n+1 - k)∧k≤n∧a=.int .i64 k∧Hid (dotF s=k+dotF (s.drop k))∧wr=W)
 case atStart=>exact ⟨0,rfl,by omega,rfl,by show _=_;rw [List.drop_zero];omega,rfl⟩
 case round =>
  obtain ⟨k,Hg,hk,rfl,HK,hwr⟩:=hrel;subst hwr;obtain ⟨D,HD⟩:=nm (decide (k<n)&&decide ((s.getD k 0).toNat≠46))
  go_upto_region 2 with fail
  go_cut [21] (fun s wx=>s=.bool D∧wx=wr)
  case first =>
   by_cases hlt:k<n
   ·have ti:decide ((k:Int)<(n:Int))=true:=dT_ (by omega);have i1:=fun W=>run_at_str hz hlt W
    rw [kx_kstr] at i1;generalize (s.getD k 0).toNat=y at i1 HD;obtain ⟨b,f1⟩:∃b,(((y:Int)) != 46)=b:=⟨_,rfl⟩
    obtain rfl:D=b:=by
     rw [←HD.out,←f1,dT_ hlt,Bool.true_and,Bool.eq_iff_iff,decide_eq_true_eq,bne_iff_ne];omega
    clear HD;go_wp2_with fail
    go_meet
    case rel=>exact ⟨rfl,rfl⟩
   ·have ti:decide ((k:Int)<(n:Int))=false:=dF_ (by omega);obtain rfl:D=false:=by rw [←HD.out,dF_ hlt];rfl
    clear HD;go_wp2_with fail
    go_meet
    case rel=>exact ⟨rfl,rfl⟩
  case rest =>
   obtain ⟨rfl,hwc⟩:=hcut;have hwc2:wr=wc:=hwc.symm;subst hwc2
   cases D with
   | true =>
    have hd:=HD.out;simp only [Bool.and_eq_true,decide_eq_true_eq] at hd;have hk2:=hd.1
    have HK2:Hid (dotF s=k+1+dotF (s.drop (k+1))):=by
     show _=_;have:=dot_step (s:=s) (k:=k) (by rw [Hn.out];exact hd.1);rw [if_neg hd.2] at this;rw [HK.out,this];omega
    clear hd HD HK hwc;go_wp2_with fail
    go_roundg (n+1 - (k+1))
    case measure=>rw [Hg.out];omega
    case rel=>exact ⟨k+1,rfl,by omega,by go_num,HK2,rfl⟩
   | false =>
    have hdk:dotF s=k:=by
     by_cases hlt:k<n
     ·have hd:=HD.out;rw [dT_ hlt,Bool.true_and,decide_eq_false_iff_not] at hd;have:=dot_step (s:=s) (k:=k) (by rw [Hn.out];exact hlt);rw [if_pos (by omega)] at this;rw [HK.out,this];rfl
     ·have : s.drop k=[]:=List.drop_of_length_le (by rw [Hn.out];omega);rw [HK.out,this];rfl
    rw [hdk] at HO;clear HD HK hwc Hg hdl hdk;have hto:=fun W=>run_to_str Hn.out hk W
    have CO:=h_ (r10Op_c (s.take k) wr);obtain ⟨ts,Hts⟩:=nm (kstr (s.take k));rw [Hts.out] at hto CO;have hfr:k+1≤n→∀W,(Instr.slice 9 (.string (kstr s)) (some (.int .i64 ((k:Int)+1))) none none).run Tryz.prog W=.ok (.string (kstr (s.drop (k+1)))) W:=fun q W=>run_from_str Hn.out q W
    obtain ⟨str,Hstr⟩:=nm (kstr s);rw [Hstr.out] at hz hto hfr ⊢;have HFR:=h_ hfr;clear hfr
    cases hop:opF (s.take k) with
    | none =>
     rw [hop] at CO HO;have HN:Hid (o=none):=HO.out;simp only [Option.getD_none,Option.isSome_none] at CO;clear hop HO HFR;go_wp2_with fail
     refine CO.out.mono ?_;rintro e w9 ⟨rfl,hu9⟩;clear CO;have HB9:=h_ (HB.out.upd hu9 (fun f=>f));have b9:=HB9.out;have y0:=b9.cell 0;have y1:=b9.cell 1;have y2:=b9.cell 2;have y3:=b9.cell 3;have y4:=b9.cell 4;have yf:=b9.frozen;clear b9;go_wp2_with fail
     rw [set5_eq];have us:=set5_upd w9 w.heap.size;refine bodyPost_ret (results_cell_row_tmp rfl _ _ w.heap.size 38 _ (0,0) _ rfl (set5_blk HB9.out _ _ _ _ _) Tryz.underlying38 rfl (by kernel_rfl)) rfl ?_;refine ⟨.mk 0 0 0 0 [],false,x,rfl,rfl,(H.out.non (HUU.out.then_non hu9)).upd (us _ _ _ _ _) (fun k _ e=>by subst e;exact hpw),(upd_eq (HUU.out.then_non hu9)).trans (us _ _ _ _ _) (fun j hj e=>by omega),(fun q=>by cases q),?_⟩
     rw [HN.out];exact .inl ⟨rfl,rfl⟩
    | some op =>
     rw [hop] at CO HO
     have HO2:Hid (o=if (arF op).isNone∨immOp op≠decide (k<n) then none
       else if immOp op=false then some (.mk 0 op 0 0 [],x.ps)
       else match decF (s.drop (k+1)) with
        | some n=>some (.mk 0 op n 0 [],x.ps)
        | none=>match s.drop (k+1) with
         | [c]=>if isLw c=true∧0<(lookF x.ms c x.left).1 then some (.mk 0 op 0 (lookF x.ms c x.left).1 [],{ x.ps with ms:=(lookF x.ms c x.left).2 }) else none
         | _=>none):=HO.out
     have HO:=HO2;obtain ⟨ho1,ho2⟩:=opF_lt hop;have hoe:=ops_eq ho1 ho2
     have HSN:Hid (s≠[]):=fun q=>by
      rw [q,List.take_nil] at hop;cases hop
     clear HO2 ho1 ho2;have CA:=h_ (fun W=>r15allowed_c op W);have CI:=h_ (fun W=>r15HasImm_c op W);simp only [Option.getD_some,Option.isSome_some] at CO;clear hop;obtain ⟨oi,Hoi⟩:=nm ((op:Nat):Int);rw [Hoi.out] at CO CA CI HO hoe;rcases hoe with ⟨hoa,hoi,hor⟩ | ⟨hoa,hoi⟩
     rotate_left
     ·rw [hoa] at CA;rw [hoi] at HO;have HN:Hid (o=none):=by show _=_;rw [HO.out,if_pos (.inl rfl)]
      clear hoa hoi HO HFR CI;go_wp2_with fail
      refine CO.out.mono ?_;rintro e w9 ⟨rfl,hu9⟩;go_wp2_with fail
      refine (CA.out _).mono ?_;rintro e w10 ⟨rfl,rfl⟩;clear CO CA;have HB9:=h_ (HB.out.upd hu9 (fun f=>f));have b9:=HB9.out;have y0:=b9.cell 0;have y1:=b9.cell 1;have y2:=b9.cell 2;have y3:=b9.cell 3;have y4:=b9.cell 4;have yf:=b9.frozen;clear b9;go_wp2_with fail
      rw [set5_eq];have us:=set5_upd w9 w.heap.size;refine bodyPost_ret (results_cell_row_tmp rfl _ _ w.heap.size 38 _ (0,0) _ rfl (set5_blk HB9.out _ _ _ _ _) Tryz.underlying38 rfl (by kernel_rfl)) rfl ?_;refine ⟨.mk 0 0 0 0 [],false,x,rfl,rfl,(H.out.non (HUU.out.then_non hu9)).upd (us _ _ _ _ _) (fun k _ e=>by subst e;exact hpw),(upd_eq (HUU.out.then_non hu9)).trans (us _ _ _ _ _) (fun j hj e=>by omega),(fun q=>by cases q),?_⟩
      rw [HN.out];exact .inl ⟨rfl,rfl⟩
     rw [hoa] at CA;rw [hoi] at CI;have HOR:=h_ hor;clear hoa hoi hor
     cases har:arF oi with
     | none =>
      rw [har] at CA HO;have HN:Hid (o=none):=by show _=_;rw [HO.out,if_pos (.inl rfl)]
      simp only [Option.isSome_none] at CA;clear har HO HFR CI;go_wp2_with fail
      refine CO.out.mono ?_;rintro e w9 ⟨rfl,hu9⟩;go_wp2_with fail
      refine (CA.out _).mono ?_;rintro e w10 ⟨rfl,rfl⟩;clear CO CA;have HB9:=h_ (HB.out.upd hu9 (fun f=>f));have b9:=HB9.out;have y0:=b9.cell 0;have y1:=b9.cell 1;have y2:=b9.cell 2;have y3:=b9.cell 3;have y4:=b9.cell 4;have yf:=b9.frozen;clear b9;go_wp2_with fail
      rw [set5_eq];have us:=set5_upd w9 w.heap.size;refine bodyPost_ret (results_cell_row_tmp rfl _ _ w.heap.size 38 _ (0,0) _ rfl (set5_blk HB9.out _ _ _ _ _) Tryz.underlying38 rfl (by kernel_rfl)) rfl ?_;refine ⟨.mk 0 0 0 0 [],false,x,rfl,rfl,(H.out.non (HUU.out.then_non hu9)).upd (us _ _ _ _ _) (fun k _ e=>by subst e;exact hpw),(upd_eq (HUU.out.then_non hu9)).trans (us _ _ _ _ _) (fun j hj e=>by omega),(fun q=>by cases q),?_⟩
      rw [HN.out];exact .inl ⟨rfl,rfl⟩
     | some ar =>
      rw [har] at CA HO;simp only [Option.isSome_some] at CA;obtain ⟨im,Him⟩:=nm (immOp oi);rw [Him.out] at CI HO;by_cases hlt:k<n
      ·have fl:decide ((k:Int)<(n:Int))=true:=dT_ (by omega)
       cases im with
       | false =>
        have HN:Hid (o=none):=by show _=_;rw [HO.out,if_pos (.inr (by simp [hlt]))]
        clear har HO HFR;go_wp2_with fail
        refine CO.out.mono ?_;rintro e w9 ⟨rfl,hu9⟩;go_wp2_with fail
        refine (CA.out _).mono ?_;rintro e w10 ⟨rfl,rfl⟩;clear CO CA;go_wp2_with fail
        refine (CI.out _).mono ?_;rintro e w11 ⟨rfl,rfl⟩;clear CI;have HB9:=h_ (HB.out.upd hu9 (fun f=>f));have b9:=HB9.out;have y0:=b9.cell 0;have y1:=b9.cell 1;have y2:=b9.cell 2;have y3:=b9.cell 3;have y4:=b9.cell 4;have yf:=b9.frozen;clear b9;go_wp2_with fail
        rw [set5_eq];have us:=set5_upd w9 w.heap.size;refine bodyPost_ret (results_cell_row_tmp rfl _ _ w.heap.size 38 _ (0,0) _ rfl (set5_blk HB9.out _ _ _ _ _) Tryz.underlying38 rfl (by kernel_rfl)) rfl ?_;refine ⟨.mk 0 0 0 0 [],false,x,rfl,rfl,(H.out.non (HUU.out.then_non hu9)).upd (us _ _ _ _ _) (fun k _ e=>by subst e;exact hpw),(upd_eq (HUU.out.then_non hu9)).trans (us _ _ _ _ _) (fun j hj e=>by omega),(fun q=>by cases q),?_⟩
        rw [HN.out];exact .inl ⟨rfl,rfl⟩
       | true =>
        have HO3:Hid (o=match decF (s.drop (k+1)) with
          | some n=>some (.mk 0 oi n 0 [],x.ps)
          | none=>immF (s.drop (k+1)) fun c=>if isLw c=true∧0<(lookF x.ms c x.left).1 then some (.mk 0 oi 0 (lookF x.ms c x.left).1 [],{ x.ps with ms:=(lookF x.ms c x.left).2 }) else none):=by
         show _=_;rw [HO.out,if_neg (by simp [hlt]),if_neg (by decide)];rfl
        have hfr:=HFR.out (by omega);clear har HO HFR;obtain ⟨t,Ht⟩:=nm (s.drop (k+1));rw [Ht.out] at HO3 hfr;have htl:t.length≤1000000:=by rw [←Ht.out,List.length_drop];have:=Hn.out;omega
        have CW:=h_ (fun W=>r1Parse_c t W htl);have CL:=h_ (fun W=>xIsLetter_c (kstr t) W);rw [kx_kstr] at CL;obtain ⟨tq,Htq⟩:=nm (kstr t);rw [Htq.out] at hfr CW CL
        cases hl:isLt t with
        | false =>
         rw [hl] at CL;obtain ⟨d,Hd⟩:=nm (decF t);rw [Hd.out] at HO3 CW;obtain ⟨z1,Hz1⟩:=nm (d.getD 0);obtain ⟨z2,Hz2⟩:=nm d.isSome;rw [Hz1.out,Hz2.out] at CW;go_wp2_with fail
         refine CO.out.mono ?_;rintro e w9 ⟨rfl,hu9⟩;go_wp2_with fail
         refine (CA.out _).mono ?_;rintro e w10 ⟨rfl,rfl⟩;clear CO CA;go_wp2_with fail
         refine (CI.out _).mono ?_;rintro e w11 ⟨rfl,rfl⟩;clear CI;obtain ⟨W2,HW2⟩:=nm (w9.alloc (.cells #[.int .i64 0,.int .i64 oi,.int .i64 0,.int .i64 0,.slice none 0 0] 38));have hu2:Upd Non w9 W2:=by rw [←HW2.out];exact Upd.refl.alloc _
         have hb2:Blk W2 w9.heap.size 38 #[.int .i64 0,.int .i64 oi,.int .i64 0,.int .i64 0,.slice none 0 0]:=by rw [←HW2.out];exact Blk.new _ _ _
         have hlt9:w.heap.size<w9.heap.size:=by have:=HB.out.lt;have:=hu9.size;omega
         have HB2:=h_ hb2;have HU92:=h_ (hu9.then_non hu2);clear hb2 hu2
         go_upto_region 8 with fail
         rw [HW2.out];go_wp2_with fail
         refine (CL.out _).mono ?_;rintro e w12 ⟨rfl,rfl⟩;have f2:=HB2.out.frozen;have g2:=HB2.out.cell 2;clear CL HW2;go_wp2_with fail
         refine (CW.out _).mono ?_;rintro e w13 ⟨rfl,rfl⟩
         have HB3:Hid (Blk (w13.setCell ⟨w9.heap.size,2,none⟩ (.int .i64 z1)) w9.heap.size 38 #[.int .i64 0,.int .i64 oi,.int .i64 z1,.int .i64 0,.slice none 0 0]):=by
          have:=HB2.out.set_ 2 (.int .i64 z1);show Blk _ _ _ _;simpa using this
         have u3:Upd (·=w9.heap.size) w13 (w13.setCell ⟨w9.heap.size,2,none⟩ (.int .i64 z1)):=updCell _ _ _ _;obtain ⟨W3,HW3⟩:=nm (w13.setCell ⟨w9.heap.size,2,none⟩ (.int .i64 z1));rw [HW3.out] at HB3 u3;have x0:=HB3.out.cell 0;have x1:=HB3.out.cell 1;have x2:=HB3.out.cell 2;have x3:=HB3.out.cell 3;have x4:=HB3.out.cell 4;have e3:=HW3.out;have HB9:=h_ ((HB.out.upd HU92.out (fun f=>f)).upd u3 (by omega));have HU3:Hid (Upd (·=p) w W3):=((upd_eq (HUU.out.then_non HU92.out)).trans u3 (fun k hk e=>by have:=HUU.out.size;omega));have HX3:Hid (XdS W3 p A c T fin x):=(H.out.non (HUU.out.then_non HU92.out)).upd u3 (fun k _ e=>by omega);obtain ⟨w9,rfl⟩:∃v:World,v=W3:=⟨_,rfl⟩;clear CW u3 HW3;have b9:=HB9.out;have y0:=b9.cell 0;have y1:=b9.cell 1;have y2:=b9.cell 2;have y3:=b9.cell 3;have y4:=b9.cell 4;have yf:=b9.frozen;clear b9;go_wp2_with fail
         rw [set5_eq];have us:=set5_upd w9 w.heap.size;refine bodyPost_ret (results_cell_row_tmp rfl _ _ w.heap.size 38 _ (0,0) _ rfl (set5_blk HB9.out _ _ _ _ _) Tryz.underlying38 rfl (by kernel_rfl)) rfl ?_;refine ⟨.mk 0 oi z1 0 [],z2,x,rfl,rfl,HX3.out.upd (us _ _ _ _ _) (fun k _ e=>by omega),HU3.out.trans (us _ _ _ _ _) (fun j hj e=>by omega),(fun _=>⟨HSN.out,rfl,HOR.out⟩),?_⟩
         rw [HO3.out];have HNO:=immF_no hl (G:=fun c=>if isLw c=true∧0<(lookF x.ms c x.left).1 then some ((Pt.mk 0 oi 0 (lookF x.ms c x.left).1 []:Pt),{ x.ps with ms:=(lookF x.ms c x.left).2 }) else none) (fun c hc=>if_neg (fun q=>by rw [hc] at q;cases q.1))
         rw [←Hz1.out,←Hz2.out]
         cases d with
         | some nn=>exact ⟨rfl,rfl,rfl,rfl,rfl⟩
         | none =>
          dsimp only;rw [HNO];exact .inl ⟨rfl,rfl⟩
        | true =>
         rw [hl] at CL;obtain ⟨cc,rfl,hcc⟩:=isLt_some hl;rw [decF_lw hcc] at HO3;have HO4:Hid (o=if isLw cc=true∧0<(lookF x.ms cc x.left).1 then some (.mk 0 oi 0 (lookF x.ms cc x.left).1 [],{ x.ps with ms:=(lookF x.ms cc x.left).2 }) else none):=HO3.out
         clear hl HO3 CW;go_wp2_with fail
         refine CO.out.mono ?_;rintro e w9 ⟨rfl,hu9⟩;go_wp2_with fail
         refine (CA.out _).mono ?_;rintro e w10 ⟨rfl,rfl⟩;clear CO CA;go_wp2_with fail
         refine (CI.out _).mono ?_;rintro e w11 ⟨rfl,rfl⟩;clear CI;obtain ⟨W2,HW2⟩:=nm (w9.alloc (.cells #[.int .i64 0,.int .i64 oi,.int .i64 0,.int .i64 0,.slice none 0 0] 38));have hu2:Upd Non w9 W2:=by rw [←HW2.out];exact Upd.refl.alloc _
         have hb2:Blk W2 w9.heap.size 38 #[.int .i64 0,.int .i64 oi,.int .i64 0,.int .i64 0,.slice none 0 0]:=by rw [←HW2.out];exact Blk.new _ _ _
         have hlt9:w.heap.size<w9.heap.size:=by have:=HB.out.lt;have:=hu9.size;omega
         have HB2:=h_ hb2;have HU92:=h_ (hu9.then_non hu2);clear hb2 hu2
         go_upto_region 8 with fail
         rw [HW2.out];go_wp2_with fail
         refine (CL.out _).mono ?_;rintro e w12 ⟨rfl,rfl⟩;clear CL HW2
         go_upto_region 10 with fail
         obtain ⟨wD,HwD⟩:=nm w12.drew;have uD:Upd Non w12 wD:=by rw [←HwD.out];exact Upd.refl.drew
         have vD:Upd Non w wD:=(HUU.out.then_non HU92.out).then_non uD;have CK:=h_ (xVariable_g (H.out.non vD) 6 x.ms (fun v=>{ x with ms:=v }) rfl (fun v=>rfl) hn cc pos);rw [Htq.out] at CK;have b2:=HB2.out.upd uD (fun f=>f);have wk:IntKind.i64.wrap ((k:Int)+1)=(k:Int)+1:=i64w_of (by unfold I64;omega);refine wp_region_held_drew (S:=fun _=>True) (by kernel_rfl) trivial (fun hHeld=>?_);rw [HwD.out];refine wpT 0 ?_;(try simp only [y_,z_]);refine wpT 1 ?_;(try simp only [y_,z_]);refine wpT 2 ?_;(try simp only [y_,z_]);refine wpT 3 ?_;(try simp only [y_,z_]);refine wpT 4 ?_;(try simp only [y_,z_]);refine wpT 5 ?_;(try simp only [y_,z_]);refine wpT 6 ?_;(try simp only [y_,z_]);refine wpT 7 ?_;(try simp only [y_,z_]);refine wpT 8 ?_;(try simp only [y_,z_]);refine aR_ (rs:=[9]) (by kernel_rfl) (by simp) ?_;refine aC_ rfl (fun K hK=>?_) aN_;go_simp;refine CK.out.mono ?_;rintro e w2 ⟨rfl,hy,hu2⟩;go_wp2_with fail
         refine hK.out _ _ ?_ (fun hHeld=>?_)
         ·exact trivial
         clear hK K;(try simp only [y_,z_]);refine wpT 10 ?_;(try simp only [y_,z_]);obtain ⟨kk,Hkk⟩:=nm (lookF x.ms cc x.left);rw [Hkk.out] at hy HO4 ⊢;have b2:=b2.upd hu2 (by omega);have d3:=b2.cell 3;have f3:=b2.frozen 3;refine aR_ (rs:=[11]) (by kernel_rfl) (by simp) ?_;refine aC_ rfl (fun K hK=>?_) aN_;go_simp;refine hK.out _ _ ?_ (fun hHeld=>?_)
         ·exact trivial
         clear hK K;(try simp only [y_,z_]);refine aD_ (by kernel_rfl) ?_ _
         have HB3:Hid (Blk (w2.setCell ⟨w9.heap.size,3,none⟩ (.int .i64 (kk.1:Nat))) w9.heap.size 38 #[.int .i64 0,.int .i64 oi,.int .i64 0,.int .i64 (kk.1:Nat),.slice none 0 0]):=by
          have:=b2.set_ 3 (.int .i64 (kk.1:Nat));show Blk _ _ _ _;simpa using this
         have u3:Upd (·=w9.heap.size) w2 (w2.setCell ⟨w9.heap.size,3,none⟩ (.int .i64 (kk.1:Nat))):=updCell _ _ _ _;obtain ⟨W3,HW3⟩:=nm (w2.setCell ⟨w9.heap.size,3,none⟩ (.int .i64 (kk.1:Nat)));rw [HW3.out] at HB3 u3 ⊢;have x0:=HB3.out.cell 0;have x1:=HB3.out.cell 1;have x2:=HB3.out.cell 2;have x3:=HB3.out.cell 3;have x4:=HB3.out.cell 4;have HB9:=h_ ((((HB.out.upd HU92.out (fun f=>f)).upd uD (fun f=>f)).upd hu2 (by omega)).upd u3 (by omega));have HU3:Hid (Upd (·=p) w W3):=(((upd_eq vD).trans hu2 (fun _ _ e=>e)).trans u3 (fun k hk e=>by have:=HUU.out.size;omega));have HX3:=h_ (hy.upd u3 (fun k _ e=>by omega));obtain ⟨w9,rfl⟩:∃v:World,v=W3:=⟨_,rfl⟩;clear CK u3 HW3 hHeld hy hu2 b2 d3 f3 uD vD HwD HB2;obtain ⟨kn,Hkn⟩:=nm kk.1;unfold xvY at HX3;rw [Hkn.out] at HO4 HX3 HB3 x3 ⊢;have b9:=HB9.out;have y0:=b9.cell 0;have y1:=b9.cell 1;have y2:=b9.cell 2;have y3:=b9.cell 3;have y4:=b9.cell 4;have yf:=b9.frozen;clear b9;go_wp2_with fail
         rw [set5_eq];have us:=set5_upd w9 w.heap.size;refine bodyPost_ret (results_cell_row_tmp rfl _ _ w.heap.size 38 _ (0,0) _ rfl (set5_blk HB9.out _ _ _ _ _) Tryz.underlying38 rfl (by kernel_rfl)) rfl ?_;refine ⟨.mk 0 oi 0 kn [],true,_,rfl,rfl,HX3.out.upd (us _ _ _ _ _) (fun k _ e=>by omega),HU3.out.trans (us _ _ _ _ _) (fun j hj e=>by omega),(fun _=>⟨HSN.out,rfl,HOR.out⟩),?_⟩
         rw [HO4.out];by_cases hkn:0<kn
         ·rw [if_pos ⟨hcc,hkn⟩,if_neg (by omega)];exact ⟨rfl,rfl,rfl,rfl,rfl⟩
         ·rw [if_neg (fun q=>hkn q.2),if_pos (by omega)];exact .inr ⟨rfl,rfl⟩
      ·have fl:decide ((k:Int)<(n:Int))=false:=dF_ (by omega)
       cases im with
       | true =>
        have HN:Hid (o=none):=by show _=_;rw [HO.out,if_pos (.inr (by simp [hlt]))]
        clear har HO HFR;go_wp2_with fail
        refine CO.out.mono ?_;rintro e w9 ⟨rfl,hu9⟩;go_wp2_with fail
        refine (CA.out _).mono ?_;rintro e w10 ⟨rfl,rfl⟩;clear CO CA;go_wp2_with fail
        refine (CI.out _).mono ?_;rintro e w11 ⟨rfl,rfl⟩;clear CI;have HB9:=h_ (HB.out.upd hu9 (fun f=>f));have b9:=HB9.out;have y0:=b9.cell 0;have y1:=b9.cell 1;have y2:=b9.cell 2;have y3:=b9.cell 3;have y4:=b9.cell 4;have yf:=b9.frozen;clear b9;go_wp2_with fail
        rw [set5_eq];have us:=set5_upd w9 w.heap.size;refine bodyPost_ret (results_cell_row_tmp rfl _ _ w.heap.size 38 _ (0,0) _ rfl (set5_blk HB9.out _ _ _ _ _) Tryz.underlying38 rfl (by kernel_rfl)) rfl ?_;refine ⟨.mk 0 0 0 0 [],false,x,rfl,rfl,(H.out.non (HUU.out.then_non hu9)).upd (us _ _ _ _ _) (fun k _ e=>by subst e;exact hpw),(upd_eq (HUU.out.then_non hu9)).trans (us _ _ _ _ _) (fun j hj e=>by omega),(fun q=>by cases q),?_⟩
        rw [HN.out];exact .inl ⟨rfl,rfl⟩
       | false =>
        have HS:Hid (o=some (.mk 0 oi 0 0 [],x.ps)):=by show _=_;rw [HO.out,if_neg (by simp [hlt]),if_pos rfl]
        clear har HO HFR;go_wp2_with fail
        refine CO.out.mono ?_;rintro e w9 ⟨rfl,hu9⟩;go_wp2_with fail
        refine (CA.out _).mono ?_;rintro e w10 ⟨rfl,rfl⟩;clear CO CA;go_wp2_with fail
        refine (CI.out _).mono ?_;rintro e w11 ⟨rfl,rfl⟩;clear CI;obtain ⟨W2,HW2⟩:=nm (w9.alloc (.cells #[.int .i64 0,.int .i64 oi,.int .i64 0,.int .i64 0,.slice none 0 0] 38));have hu2:Upd Non w9 W2:=by rw [←HW2.out];exact Upd.refl.alloc _
        have hb2:Blk W2 w9.heap.size 38 #[.int .i64 0,.int .i64 oi,.int .i64 0,.int .i64 0,.slice none 0 0]:=by rw [←HW2.out];exact Blk.new _ _ _
        have x0:=hb2.cell 0;have x1:=hb2.cell 1;have x2:=hb2.cell 2;have x3:=hb2.cell 3;have x4:=hb2.cell 4;have hu9:=hu9.then_non hu2;have HB9:=h_ (HB.out.upd hu9 (fun f=>f));obtain ⟨w9',Hw9'⟩:=nm w9;rw [Hw9'.out] at HW2 x0 x1 x2 x3 x4
        go_upto_region 8 with fail
        rw [Hw9'.out,HW2.out];obtain ⟨w9,rfl⟩:∃v:World,v=W2:=⟨_,rfl⟩;clear hb2 hu2 HW2;have b9:=HB9.out;have y0:=b9.cell 0;have y1:=b9.cell 1;have y2:=b9.cell 2;have y3:=b9.cell 3;have y4:=b9.cell 4;have yf:=b9.frozen;clear b9;go_wp2_with fail
        rw [set5_eq];have us:=set5_upd w9 w.heap.size;refine bodyPost_ret (results_cell_row_tmp rfl _ _ w.heap.size 38 _ (0,0) _ rfl (set5_blk HB9.out _ _ _ _ _) Tryz.underlying38 rfl (by kernel_rfl)) rfl ?_;refine ⟨.mk 0 oi 0 0 [],true,x,rfl,rfl,(H.out.non (HUU.out.then_non hu9)).upd (us _ _ _ _ _) (fun k _ e=>by subst e;exact hpw),(upd_eq (HUU.out.then_non hu9)).trans (us _ _ _ _ _) (fun j hj e=>by omega),(fun _=>⟨HSN.out,rfl,HOR.out⟩),?_⟩
        rw [HS.out];exact ⟨rfl,rfl,rfl,rfl,rfl⟩
theorem oper_len {left:Bool} {s:Bs} {x ps:PS} {q:Pt} (h:operF left s x=some (q,ps)):ps.vs.length≤x.vs.length+1∧ps.ms.length≤x.ms.length+1:=by
 unfold operF at h;dsimp only at h
 split at h
 ·cases h
 ·split at h
  ·cases h
  ·split at h
   ·injection h with h;injection h with _ h;subst h;exact ⟨Nat.le_succ _,Nat.le_succ _⟩
   ·split at h
    ·injection h with h;injection h with _ h;subst h;exact ⟨Nat.le_succ _,Nat.le_succ _⟩
    ·split at h
     ·split at h
      ·injection h with h;injection h with _ h;subst h;exact ⟨Nat.le_succ _,lookF_len _ _ _⟩
      ·cases h
     ·cases h
theorem xtk_lt {T:List (Bs×Nat)} {i:Nat} {s:Bs} (h:tkF T i=some s):i<T.length:=by
 rcases Nat.lt_or_ge i T.length with q | q
 ·exact q
 ·unfold tkF at h;rw [List.getElem?_eq_none q] at h;cases h
def ResX {α:Type} (x y:Xs) (r:Except Er (α×PS)) (P:α→Prop):Prop :=
 (x.why=0→match r with
  | .ok (v,ps)=>y.why=0∧y.ps=ps∧P v
  | .error e=>y.why=e.1∧y.ea=e.2)∧(x.why≠0→y.why=x.why∧y.ea=x.ea)
def GoodX (T:List (Bs×Nat)) (x:Xs):Prop:=x.i≤T.length∧x.vs.length≤x.i∧x.ms.length≤x.i
structure XOk (T:List (Bs×Nat)):Prop where
 ne:∀t∈T,t.1≠[]
 sz:∀t∈T,t.1.length≤20000
 len:T.length≤20000
theorem xfail_why {x:Xs} {a b:Int} (h:x.why≠0):x.fail a b=x:=if_neg h
theorem xfail_zero {x:Xs} {a b:Int} (h:x.why=0):x.fail a b={ x with why:=a,ea:=b }:=if_pos h
theorem xfail_i (x:Xs) (a b:Int):(x.fail a b).i=x.i:=by unfold Xs.fail;split <;> rfl
theorem xfail_left (x:Xs) (a b:Int):(x.fail a b).left=x.left:=by unfold Xs.fail;split <;> rfl
theorem xfail_vs (x:Xs) (a b:Int):(x.fail a b).vs=x.vs:=by unfold Xs.fail;split <;> rfl
theorem xfail_ms (x:Xs) (a b:Int):(x.fail a b).ms=x.ms:=by unfold Xs.fail;split <;> rfl
theorem xfail_ne (x:Xs) {a b:Int} (h:a≠0):(x.fail a b).why≠0:=by
 unfold Xs.fail
 split
 ·exact h
 ·assumption
theorem GoodX.fail {T:List (Bs×Nat)} {x:Xs} (h:GoodX T x) (a b:Int):GoodX T (x.fail a b):=by
 unfold GoodX;rw [xfail_i,xfail_vs,xfail_ms];exact h
theorem ResX.err {α:Type} {T:List (Bs×Nat)} {fin i:Nat} {x z:Xs} {P:α→Prop} (h:x.why=0→z.why=0) (h2:x.why≠0→z.why=x.why∧z.ea=x.ea):ResX x (z.fail 2 (offF T fin i)) (.error (serr T fin i)) P:=by
 refine ⟨fun h0=>?_,fun h0=>?_⟩
 ·rw [xfail_zero (h h0)];exact ⟨rfl,rfl⟩
 ·have:=h2 h0;rw [xfail_why (by rw [this.1];exact h0)];exact this
section
variable {T:List (Bs×Nat)} {fin:Nat} {x y:Xs} {s:Bs}
theorem nx_none (h:¬(x.why=0∧x.i<T.length)):nxS T x=[]∧nxY T fin x=x.fail 2 (offF T fin x.i):=by
 unfold nxS nxY;rw [if_neg h];refine ⟨?_,rfl⟩
 split
 ·rename_i q;unfold tkF;rw [List.getElem?_eq_none (by have : ¬x.i<T.length:=fun r=>h ⟨q,r⟩;omega)];rfl
 ·rfl
theorem nx_some (h0:x.why=0) (ht:tkF T x.i=some s):nxS T x=s∧nxY T fin x={ x with i:=x.i+1 }∧x.i<T.length:=by
 have hl:=xtk_lt ht;unfold nxS nxY;rw [if_pos h0,if_pos ⟨h0,hl⟩,ht];exact ⟨rfl,rfl,hl⟩
theorem tk_none (h:¬x.i<T.length):tkF T x.i=none:=by
 unfold tkF;rw [List.getElem?_eq_none (by omega)];rfl
theorem tk_some (h:x.i<T.length):∃s,tkF T x.i=some s:=by
 unfold tkF;rw [List.getElem?_eq_getElem h];exact ⟨_,rfl⟩
theorem XOk.tk (h:XOk T) {i:Nat} (ht:tkF T i=some s):s≠[]∧s.length≤20000:=by
 have hl:=xtk_lt ht;unfold tkF at ht;rw [List.getElem?_eq_getElem hl] at ht;injection ht with ht
 rw [←ht];exact ⟨h.ne _ (List.getElem_mem hl),h.sz _ (List.getElem_mem hl)⟩
theorem nxY_good (h:GoodX T x):GoodX T (nxY T fin x)∧x.i≤(nxY T fin x).i∧(nxY T fin x).left=x.left∧(nxY T fin x).vs=x.vs∧(nxY T fin x).ms=x.ms:=by
 unfold nxY
 split
 ·rename_i q;exact ⟨⟨q.2,by have:=h.2.1;show x.vs.length≤x.i+1;omega,by have:=h.2.2;show x.ms.length≤x.i+1;omega⟩,Nat.le_succ _,rfl,rfl,rfl⟩
 ·exact ⟨h.fail _ _,by rw [xfail_i];exact Nat.le_refl _,xfail_left _ _ _,xfail_vs _ _ _,xfail_ms _ _ _⟩
theorem wrd_none {α:Type} {f:Bs→PS→Option (α×PS)} {z:PS} (h:tkF T z.i=none):wrdF T fin f z=.error (serr T fin z.i):=by unfold wrdF;rw [h]
theorem wrd_some {α:Type} {f:Bs→PS→Option (α×PS)} {z:PS} (h:tkF T z.i=some s):wrdF T fin f z=if isPn (s.headD 0) then .error (serr T fin z.i) else match f s z with
  | some (a,y)=>.ok (a,{ y with i:=z.i+1 })
  | none=>.error (serr T fin z.i):=by
 unfold wrdF;rw [h];rfl
theorem wrd_bad {α:Type} {f:Bs→PS→Option (α×PS)} {z:PS} (h:tkF T z.i=some s) (hf:f s z=none):wrdF T fin f z=.error (serr T fin z.i):=by
 rw [wrd_some h,hf]
 split <;> rfl
theorem wrd_good {α:Type} {f:Bs→PS→Option (α×PS)} {z u:PS} {a:α} (h:tkF T z.i=some s) (hp:isPn (s.headD 0)=false) (hf:f s z=some (a,u)):wrdF T fin f z=.ok (a,{ u with i:=z.i+1 }):=by
 rw [wrd_some h,hf,hp];rfl
theorem exY_err (h0:y.why≠0):exY T fin s y=y:=by
 unfold exY;rw [if_neg (fun q=>h0 q.1)];exact xfail_why h0
theorem exY_res (h0:y.why=0):match expF T fin s y.ps with | .ok u=>(exY T fin s y).why=0∧(exY T fin s y).ps=u | .error e=>(exY T fin s y).why=e.1∧(exY T fin s y).ea=e.2:=by
 unfold exY expF;rw [show y.ps.i=y.i from rfl];by_cases ht:tkF T y.i=some s
 ·rw [if_pos ht,if_pos ⟨h0,ht⟩];exact ⟨h0,rfl⟩
 ·rw [if_neg ht,if_neg (fun q=>ht q.2)];dsimp only;rw [xfail_zero h0];exact ⟨rfl,rfl⟩
theorem exY_left:(exY T fin s y).left=y.left:=by
 unfold exY
 split
 ·rfl
 ·exact xfail_left _ _ _
theorem exY_i:y.i≤(exY T fin s y).i:=by
 unfold exY
 split
 ·exact Nat.le_succ _
 ·exact Nat.le_of_eq (xfail_i _ _ _).symm
theorem exY_good (h:GoodX T y):GoodX T (exY T fin s y):=by
 unfold exY
 split
 ·rename_i q;have:=xtk_lt q.2;exact ⟨this,by have:=h.2.1;show y.vs.length≤y.i+1;omega,by have:=h.2.2;show y.ms.length≤y.i+1;omega⟩
 ·exact h.fail _ _
end
theorem kids_stepX {g:PS→Except Er (Pt×PS)} {y0 y y':Xs} {j:Nat} {ks:List Pt} {q:Pt} (hs:ResX y0 y (kidsF g j y0.ps) (fun v=>v=ks)) (h0:y.why=0) (hg:∀x e,g x=.error e→e.1≠0)
  (hr:ResX y y' (g y.ps) (fun v=>v=q∧q.size+y.i≤y'.i)) (hz:y.why=0→Pt.sizeL ks+y0.i≤y.i) :
  ResX y0 y' (kidsF g (j+1) y0.ps) (fun v=>v=ks++[q])∧(y'.why=0→Pt.sizeL (ks++[q])+y0.i≤y'.i):=by
 have h00:y0.why=0:=by
  by_cases h:y0.why=0
  ·exact h
  ·exact absurd ((hs.2 h).1 ▸ h0) h
 have h1:=hs.1 h00;have h2:=hr.1 h0;have hz:=hz h0
 cases hk:kidsF g j y0.ps with
 | error e=>rw [hk] at h1;exact absurd (h1.1 ▸ h0) (kidsF_e0 hg hk)
 | ok v =>
  obtain ⟨l,ps⟩:=v;rw [hk] at h1;obtain ⟨_,rfl,rfl⟩:=h1;refine ⟨⟨fun _=>?_,fun h=>absurd h00 h⟩,fun hy=>?_⟩
  ·rw [kidsF_snoc,hk];dsimp only
   cases ht:g y.ps with
   | error e=>rw [ht] at h2;exact h2
   | ok v =>
    obtain ⟨q2,z⟩:=v;rw [ht] at h2;exact ⟨h2.1,h2.2.1,by rw [h2.2.2.1]⟩
  ·cases ht:g y.ps with
   | error e=>rw [ht] at h2;exact absurd (h2.1 ▸ hy) (hg _ _ ht)
   | ok v =>
    rw [ht] at h2;have h3:q.size+y.i≤y'.i:=h2.2.2.2;rw [sizeL_snoc];omega
theorem kids_exitX {g:PS→Except Er (Pt×PS)} {y0 y:Xs} {j n:Nat} {ks:List Pt} (hs:ResX y0 y (kidsF g j y0.ps) (fun v=>v=ks)) (hj:j≤n) (hd:(decide (j<n)&&(y.why==0))=false):ResX y0 y (kidsF g n y0.ps) (fun v=>v=ks):=by
 by_cases hlt:j<n
 ·have h0:y.why≠0:=fun h=>by rw [h,dT_ hlt] at hd;cases hd
  refine ⟨fun h00=>?_,hs.2⟩;have h1:=hs.1 h00
  cases hk:kidsF g j y0.ps with
  | error e=>rw [hk] at h1;rw [kidsF_err hk hj];exact h1
  | ok v=>rw [hk] at h1;exact absurd h1.1 h0
 ·obtain rfl:j=n:=by omega
  exact hs
theorem app_finX {T:List (Bs×Nat)} {fin:Nat} {y:Xs} {left:Bool} {f n:Nat} {x y0:Xs} {q:Pt} {ks:List Pt} (hx:x.why=0)
  (hr:ResX x y0 (wrdF T fin (operF left) x.ps) (fun v=>v=q∧x.i+1≤y0.i)) (hn:n=(arF q.op).getD 0)
  (hs:ResX y0 y (kidsF (termF T fin left f) n y0.ps) (fun v=>v=ks)) (hz:y.why=0→Pt.sizeL ks+y0.i≤y.i) :
  ResX x (exY T fin [41] y) (appF T fin left f x.ps) (fun v=>v=.mk q.v q.op q.imm q.iv ks∧(Pt.mk q.v q.op q.imm q.iv ks).size+x.i≤(exY T fin [41] y).i):=by
 refine ⟨fun _=>?_,fun h=>absurd hx h⟩;have h1:=hr.1 hx;unfold appF
 cases hw:wrdF T fin (operF left) x.ps with
 | error e =>
  rw [hw] at h1;have hne:y0.why≠0:=by rw [h1.1];exact wrdF_err hw
  have h2:=hs.2 hne;rw [exY_err (by rw [h2.1];exact hne)];exact ⟨h2.1.trans h1.1,h2.2.trans h1.2⟩
 | ok v =>
  obtain ⟨q',ps⟩:=v;rw [hw] at h1;obtain ⟨h00,rfl,h1q,h1i⟩:=h1;subst h1q;have h2:=hs.1 h00;dsimp only;rw [←hn]
  cases hk:kidsF (termF T fin left f) n y0.ps with
  | error e =>
   rw [hk] at h2;have hne:y.why≠0:=by rw [h2.1];exact kidsF_e0 (termF_err f) hk
   rw [exY_err hne];exact h2
  | ok v =>
   obtain ⟨l,ps⟩:=v;rw [hk] at h2;obtain ⟨hy0,rfl,h2l⟩:=h2;subst h2l;dsimp only;have h3:=exY_res (T:=T) (fin:=fin) (s:=[41]) hy0
   cases he:expF T fin [41] y.ps with
   | error e=>rw [he] at h3;exact h3
   | ok u =>
    rw [he] at h3;refine ⟨h3.1,h3.2,by rw [wrdF_v hw],?_⟩;have h4:=hz hy0;have h5:y.i≤(exY T fin [41] y).i:=exY_i;rw [Pt.size_eq];show 1+Pt.sizeL l+x.i≤_;omega
theorem dec_pn {s:Bs} {n:Int} (h:decF s=some n):isPn (s.headD 0)=false:=by
 cases s with
 | nil=>rfl
 | cons c l =>
  show isPn c=false
  cases hp:isPn c with
  | false=>rfl
  | true =>
   exfalso
   simp only [isPn,decide_eq_true_eq] at hp;have h1:c≠45:=fun e=>by rw [e] at hp;exact absurd hp (by decide)
   have h3:isDg c=false:=by simp only [isDg,decide_eq_false_iff_not];omega
   unfold decF at h;simp [h1,h3] at h
theorem atom_dec {left:Bool} {s:Bs} {x:PS} {n:Int} (h:decF s=some n):atomF left s x=some (.mk 0 1 n 0 [],x):=by
 unfold atomF;rw [h]
theorem decF_q (b:UInt8):decF [63,b]=none:=by simp [decF,isDg]
theorem decF_d (b:UInt8):decF [36,b]=none:=by simp [decF,isDg]
theorem atom_q {left:Bool} {b:UInt8} (x:PS) (hb:isLw b=true):atomF left [63,b] x=if 0<(lookF x.vs b left).1 then some (.mk (lookF x.vs b left).1 0 0 0 [],{ x with vs:=(lookF x.vs b left).2 }) else none:=by
 unfold atomF;rw [decF_q];dsimp only
 have e1:varF [63,b] 63 x.vs left=lookF x.vs b left:=by
  show (if (63:UInt8).toNat=63∧isLw b=true then lookF x.vs b left else (0,x.vs))=_;rw [if_pos ⟨rfl,hb⟩]
 have e2:varF [63,b] 36 x.ms left=(0,x.ms):=by
  show (if (63:UInt8).toNat=36∧isLw b=true then lookF x.ms b left else (0,x.ms))=_;rw [if_neg (fun q=>absurd q.1 (by decide))]
 rw [e1,e2]
 split
 ·rfl
 ·exact if_neg (Nat.lt_irrefl 0)
theorem atom_d {left:Bool} {b:UInt8} (x:PS) (hb:isLw b=true):atomF left [36,b] x=if 0<(lookF x.ms b left).1 then some (.mk 0 1 0 (lookF x.ms b left).1 [],{ x with ms:=(lookF x.ms b left).2 }) else none:=by
 unfold atomF;rw [decF_d];dsimp only
 have e1:varF [36,b] 63 x.vs left=(0,x.vs):=by
  show (if (36:UInt8).toNat=63∧isLw b=true then lookF x.vs b left else (0,x.vs))=_;rw [if_neg (fun q=>absurd q.1 (by decide))]
 have e2:varF [36,b] 36 x.ms left=lookF x.ms b left:=by
  show (if (36:UInt8).toNat=36∧isLw b=true then lookF x.ms b left else (0,x.ms))=_;rw [if_pos ⟨rfl,hb⟩]
 rw [e1,e2];rw [if_neg (Nat.lt_irrefl 0)]
theorem varF_no {s:Bs} {c:Nat} {l:Bs} {left:Bool} (h:∀a b,s=[a,b]→isLw b=true→a.toNat≠c):varF s c l left=(0,l):=by
 match s,h with
 | [],_=>rfl
 | [_],_=>rfl
 | [a,b],h =>
  show (if a.toNat=c∧isLw b=true then lookF l b left else (0,l))=_;rw [if_neg (fun q=>h a b rfl q.2 q.1)]
 | _::_::_::_,_=>rfl
theorem atom_no {left:Bool} {s:Bs} {x:PS} (hd:decF s=none) (h:∀a b,s=[a,b]→isLw b=true→a.toNat≠63∧a.toNat≠36):atomF left s x=none:=by
 unfold atomF;rw [hd];dsimp only;rw [varF_no (c:=63) (fun a b e hb=>(h a b e hb).1),varF_no (c:=36) (fun a b e hb=>(h a b e hb).2)];rfl
theorem oper_i {left:Bool} {s:Bs} {i j:Nat} {vs ms:Bs}:operF left s ⟨j,vs,ms⟩=(operF left s ⟨i,vs,ms⟩).map fun v=>(v.1,{ v.2 with i:=j }):=by
 unfold operF;dsimp only
 split
 ·rfl
 ·split
  ·rfl
  ·split
   ·rfl
   ·split
    ·rfl
    ·split
     ·split <;> rfl
     ·rfl
theorem nameL_pn:∀s∈nameL,s≠[]∧isPn (s.headD 0)=false:=by decide
theorem findL_mem {l:List Bs} {s:Bs}:∀{k i:Nat},findL l s k=some i→s∈l:=by
 induction l with
 | nil=>intro k i h;cases h
 | cons x l ih =>
  intro k i h;rw [findL] at h
  split at h
  ·rename_i e;rw [e];exact List.mem_cons_self
  ·exact List.mem_cons_of_mem _ (ih h)
theorem oper_pn {left:Bool} {s:Bs} {z:PS} {v:Pt×PS} (h:operF left s z=some v):isPn (s.headD 0)=false:=by
 unfold operF at h;dsimp only at h
 split at h
 ·cases h
 ·rename_i op ho;unfold opF at ho
  cases hf:findL nameL (List.takeWhile (fun c=>decide (c.toNat≠46)) s) 0 with
  | none=>rw [hf] at ho;cases ho
  | some i =>
   have:=nameL_pn _ (findL_mem hf)
   cases s with
   | nil=>exact absurd rfl this.1
   | cons c l =>
    rw [List.takeWhile_cons] at this
    split at this
    ·exact this.2
    ·exact absurd rfl this.1
theorem op_resX {T:List (Bs×Nat)} {fin:Nat} {left:Bool} {y1 y2 y0:Xs} {s2:Bs} {q0:Pt} {b:Bool} (hg:GoodX T y1) (h0:y1.why=0) (hs:nxS T y1=s2) (hy2:nxY T fin y1=y2) (hl:y1.left=left) (hb:b=true→s2≠[])
  (ho:match operF y2.left s2 y2.ps with | some (q',ps)=>b=true∧q0=q'∧y0={ y2 with ms:=ps.ms }∧ps.vs=y2.vs∧ps.i=y2.i | none=>(b=false∧y0=y2)∨(b=true∧y0=y2.fail 2 (offF T fin y1.i))) :
  ResX y1 (bif b then y0 else y0.fail 2 (offF T fin y1.i)) (wrdF T fin (operF left) y1.ps) (fun v=>v=q0∧y1.i+1≤y0.i)∧GoodX T y0∧y0.left=left∧y1.i≤y0.i∧(b=true→y0.i=y1.i+1):=by
 subst hl;by_cases q:y1.i<T.length
 ·obtain ⟨t,ht⟩:=tk_some q;obtain ⟨e1,e2,_⟩:=nx_some (fin:=fin) h0 ht;rw [e1] at hs;rw [e2] at hy2;subst hs hy2;have hg2:GoodX T { y1 with i:=y1.i+1 }:=⟨q,by have:=hg.2.1;show y1.vs.length≤y1.i+1;omega,by have:=hg.2.2;show y1.ms.length≤y1.i+1;omega⟩
  have e3:operF y1.left t y1.ps=(operF y1.left t ⟨y1.i+1,y1.vs,y1.ms⟩).map fun v=>(v.1,{ v.2 with i:=y1.i }):=oper_i
  change match operF y1.left t ⟨y1.i+1,y1.vs,y1.ms⟩ with | some (q',ps)=>b=true∧q0=q'∧y0={ ({ y1 with i:=y1.i+1 }:Xs) with ms:=ps.ms }∧ps.vs=y1.vs∧ps.i=y1.i+1 | none=>(b=false∧y0={ y1 with i:=y1.i+1 })∨(b=true∧y0=({ y1 with i:=y1.i+1 }:Xs).fail 2 (offF T fin y1.i)) at ho
  cases ho2:operF y1.left t ⟨y1.i+1,y1.vs,y1.ms⟩ with
  | some v =>
   obtain ⟨q',ps⟩:=v;rw [ho2] at ho e3;obtain ⟨rfl,rfl,rfl,h4,h5⟩:=ho;have hol:=oper_len ho2;refine ⟨?_,⟨q,hg2.2.1,?_⟩,rfl,Nat.le_succ _,fun _=>rfl⟩
   ·rw [wrd_good (z:=y1.ps) ht (oper_pn ho2) e3];refine ⟨fun _=>⟨h0,?_,rfl,Nat.le_refl _⟩,fun q=>absurd h0 q⟩;show (⟨y1.i+1,y1.vs,ps.ms⟩:PS)=⟨y1.i+1,ps.vs,ps.ms⟩;rw [h4]
   ·have:=hol.2;have:=hg.2.2;show ps.ms.length≤y1.i+1;dsimp only at *;omega
  | none =>
   rw [ho2] at ho e3;rw [wrd_bad (z:=y1.ps) ht e3];rcases ho with ⟨rfl,rfl⟩ | ⟨rfl,rfl⟩
   ·exact ⟨ResX.err (fun _=>h0) (fun q=>absurd h0 q),hg2,rfl,Nat.le_succ _,fun q=>by cases q⟩
   ·exact ⟨ResX.err (z:={ y1 with i:=y1.i+1 }) (fun _=>h0) (fun q=>absurd h0 q),hg2.fail _ _,by rw [xfail_left],by rw [xfail_i];exact Nat.le_succ _,fun _=>xfail_i _ _ _⟩
 ·obtain ⟨e1,e2⟩:=nx_none (T:=T) (fin:=fin) (x:=y1) (fun r=>q r.2);rw [e1] at hs;rw [e2] at hy2;subst hs hy2
  have hbf:b=false:=by
   cases b with
   | false=>rfl
   | true=>exact absurd rfl (hb rfl)
  subst hbf
  have e3:y0=y1.fail 2 (offF T fin y1.i):=by
   split at ho
   ·cases ho.1
   ·rcases ho with ho | ho
    ·exact ho.2
    ·cases ho.1
  subst e3;refine ⟨?_,hg.fail _ _,by rw [xfail_left],by rw [xfail_i];exact Nat.le_refl _,fun q=>by cases q⟩;rw [wrd_none (z:=y1.ps) (tk_none q),cond_false,xfail_why (xfail_ne _ (by decide))];exact ResX.err (fun _=>h0) (fun q=>absurd h0 q)
theorem var_resX {T:List (Bs×Nat)} {fin:Nat} {left:Bool} {x y1:Xs} {Yf:Bs→Xs} {s:Bs} {K:Nat×Bs} {q:Pt} {u:PS} (hg:GoodX T x) (h0:x.why=0) (hy:y1={ x with i:=x.i+1 }) (ht:tkF T x.i=some s) (hp:isPn (s.headD 0)=false)
  (ha:atomF left s x.ps=if 0<K.1 then some (q,u) else none) (hY:(Yf K.2).why=0) (hi:(Yf K.2).i=x.i+1) (hps:(Yf K.2).ps={ u with i:=x.i+1 }) (hv:(Yf K.2).vs.length≤x.i+1) (hm:(Yf K.2).ms.length≤x.i+1) (hl:(Yf K.2).left=x.left) (hq:q.size=1) :
  ∀y,y=xvY y1 (offF T fin x.i) Yf K→GoodX T y∧y.left=x.left∧y.i=x.i+1∧ResX x y (wrdF T fin (atomF left) x.ps) (fun v=>v=q∧q.size+x.i≤y.i):=by
 intro y ey;unfold xvY at ey;have hlt:=xtk_lt ht;have hg1:GoodX T y1:=by subst hy;exact ⟨hlt,by have:=hg.2.1;show x.vs.length≤x.i+1;omega,by have:=hg.2.2;show x.ms.length≤x.i+1;omega⟩
 by_cases h:K.1=0
 ·rw [if_pos h] at ey;subst ey;refine ⟨hg1.fail _ _,by rw [xfail_left,hy],by rw [xfail_i,hy],?_⟩;rw [wrd_bad (z:=x.ps) ht (by rw [ha,if_neg (by omega)])];exact ResX.err (fun _=>by rw [hy];exact h0) (fun q=>absurd h0 q)
 ·rw [if_neg h] at ey;subst ey;refine ⟨⟨by omega,by omega,by omega⟩,hl,hi,?_⟩;rw [wrd_good (z:=x.ps) ht hp (by rw [ha,if_pos (by omega)])];exact ⟨fun _=>⟨hY,hps,rfl,by omega⟩,fun q=>absurd h0 q⟩
def XTermP (w:World) (p:Nat) (A:Option Addr) (c:Nat) (T:List (Bs×Nat)) (fin:Nat) (x:Xs) (r:Except Er (Pt×PS)) (e:Ending) (w':World):Prop :=
 ∃(q:Pt) (KA:Option Addr) (kc:Nat) (y:Xs),e=.returned (pv q KA kc)∧PtK w' (fun k=>w.heap.size≤k) q KA kc∧XdS w' p A c T fin y∧GoodX T y∧y.left=x.left∧x.i≤y.i∧q.size+x.i≤y.i+1∧Upd (·=p) w w'∧ResX x y r (fun v=>v=q∧q.size+x.i≤y.i)
structure XAp (w0 w:World) (g p:Nat) (A:Option Addr) (c:Nat) (T:List (Bs×Nat)) (fin:Nat) (y:Xs) (pc:Array Value):Prop where
 xd:XdS w p A c T fin y
 res:Blk w w0.heap.size 38 (p0 (.mk 0 0 0 0 []))
 pat:Blk w g 38 pc
 lt:w0.heap.size<g
 plt:p<w0.heap.size
 upd:Upd (·=p) w0 w
section
variable {w0 w w':World} {g p:Nat} {A:Option Addr} {c:Nat} {T:List (Bs×Nat)} {fin:Nat} {y y':Xs} {pc pc':Array Value} {S:Nat→Prop}
theorem XAp.non (h:XAp w0 w g p A c T fin y pc) (u:Upd Non w w'):XAp w0 w' g p A c T fin y pc :=
 ⟨h.xd.non u,h.res.upd u (fun f=>f),h.pat.upd u (fun f=>f),h.lt,h.plt,h.upd.then_non u⟩
theorem XAp.call (h:XAp w0 w g p A c T fin y pc) (hr:XdS w' p A c T fin y') (u:Upd (·=p) w w'):XAp w0 w' g p A c T fin y' pc :=
 ⟨hr,h.res.upd u (by have:=h.plt;omega),h.pat.upd u (by have:=h.plt;have:=h.lt;omega),h.lt,h.plt,h.upd.trans u (fun _ _ e=>e)⟩
theorem XAp.far (h:XAp w0 w g p A c T fin y pc) (u:Upd S w w') (hS:∀k,S k→g<k):XAp w0 w' g p A c T fin y pc :=
 ⟨h.xd.upd u (fun k _ s=>by have:=hS k s;have:=h.lt;have:=h.plt;omega),h.res.upd u (fun s=>by have:=hS _ s;have:=h.lt;omega),h.pat.upd u (fun s=>by have:=hS _ s;omega),h.lt,h.plt,h.upd.trans u (fun k hk s=>by have:=hS k s;have:=h.lt;omega)⟩
theorem XAp.setPat (h:XAp w0 w g p A c T fin y pc) (u:Upd (·=g) w w') (hb:Blk w' g 38 pc'):XAp w0 w' g p A c T fin y pc' :=
 ⟨h.xd.upd u (fun k _ s=>by have:=h.lt;have:=h.plt;omega),h.res.upd u (by have:=h.lt;omega),hb,h.lt,h.plt,h.upd.trans u (fun k hk s=>by have:=h.lt;omega)⟩
end
set_option maxRecDepth 100000 in
set_option maxHeartbeats 4000000 in
theorem xTerm_c {T:List (Bs×Nat)} {fin:Nat} (hT:XOk T) (left:Bool) (f:Nat)
  (HT:Hid (∀{w:World} {p:Nat} {A:Option Addr} {c:Nat} {x:Xs},XdS w p A c T fin x→GoodX T x→x.left=left→x.why=0→T.length<x.i+f→Calls Tryz.prog 125 #[.pointer (some ⟨p,0,none⟩)] w (XTermP w p A c T fin x (termF T fin left f x.ps))))
  {w:World} {p:Nat} {A:Option Addr} {c:Nat} {x:Xs} (h:XdS w p A c T fin x) (hx:GoodX T x) (hl:x.left=left) (hf:x.why=0→T.length<x.i+(f+1)) :
  Calls Tryz.prog 125 #[.pointer (some ⟨p,0,none⟩)] w (XTermP w p A c T fin x (termF T fin left (f+1) x.ps)):=by
 have HS:Hid (termF T fin left (f+1) x.ps=if tkF T x.i=some [40] then appF T fin left f { x.ps with i:=x.i+1 } else wrdF T fin (atomF left) x.ps):=rfl
 obtain ⟨r,Hr⟩:=nm (termF T fin left (f+1) x.ps);rw [Hr.out] at HS ⊢;have hTl:=hT.len;have hxi:=hx.1;obtain ⟨W1,HW1⟩:=nm (w.alloc (.cells #[.int .i64 0,.int .i64 0,.int .i64 0,.int .i64 0,.slice none 0 0] 38));have u1:Upd Non w W1:=by rw [←HW1.out];exact Upd.refl.alloc _
 have b1:Blk W1 w.heap.size 38 (p0 (.mk 0 0 0 0 [])):=by rw [←HW1.out];exact Blk.new _ _ _
 have e1:=HW1.out;have hpw:p<w.heap.size:=h.blk.lt;have CO:=h_ (xOffset_c (h.non u1));have CN:=h_ (fun W (u:Upd Non W1 W)=>xNext_c ((h.non u1).non u) (by omega));have HX:=h_ hx;have HB1:=h_ b1;have HU1:=h_ u1;have HXT:=h_ hT;have HNG:=h_ (nxY_good (fin:=fin) hx);have HNN:Hid (¬(x.why=0∧x.i<T.length)→nxS T x=[]∧nxY T fin x=x.fail 2 (offF T fin x.i)):=nx_none;have HNS:Hid (∀s,x.why=0→tkF T x.i=some s→nxS T x=s∧nxY T fin x={ x with i:=x.i+1 }∧x.i<T.length):=fun s=>nx_some
 have hsl:(nxS T x).length≤20000:=by
  by_cases q:x.why=0∧x.i<T.length
  ·obtain ⟨s,hs⟩:=tk_some q.2;rw [(nx_some (fin:=fin) q.1 hs).1];exact (hT.tk hs).2
  ·rw [(nx_none (fin:=fin) q).1];simp
 obtain ⟨off,Hoff⟩:=nm (offF T fin x.i);obtain ⟨s,Hs⟩:=nm (nxS T x);obtain ⟨y1,Hy1⟩:=nm (nxY T fin x);rw [Hs.out] at hsl HNN HNS;rw [Hs.out] at CN;rw [Hy1.out] at CN HNG HNN HNS;rw [Hoff.out] at CO HNN
 have HTK:Hid (s≠[]→x.why=0∧tkF T x.i=some s∧y1={ x with i:=x.i+1 }∧x.i<T.length):=fun hne=>by
  by_cases q:x.why=0∧x.i<T.length
  ·obtain ⟨t,ht⟩:=tk_some q.2;obtain ⟨e1,e2,e3⟩:=HNS.out t q.1 ht;subst e1;exact ⟨q.1,ht,e2,e3⟩
  ·exact absurd (HNN.out q).1 hne
 have CP:=h_ (fun W=>r1Parse_c s W (by omega));obtain ⟨m,Hm⟩:=nm s.length;have hqz:(kstr s).size=m:=by rw [kstr_size,Hm.out]
 obtain ⟨qs,Hqs⟩:=nm (kstr s);rw [Hqs.out] at CN CP hqz;clear h hx HW1 u1 b1 hT
 cases hd:decF s with
 | some n =>
  obtain ⟨k1,k2,k3,k4⟩:=HTK.out (fun q=>by rw [q] at hd;cases hd)
  have HR:Hid (r=.ok (.mk 0 1 n 0 [],{ x.ps with i:=x.i+1 })):=by
   show _=_;rw [HS.out,if_neg (fun q=>by rw [k2] at q;injection q with q;rw [q] at hd;cases hd)];exact wrd_good (z:=x.ps) k2 (dec_pn hd) (atom_dec hd)
  have HY:Hid (y1={ x with i:=x.i+1 }):=k3;rw [hd] at CP;simp only [Option.getD_some,Option.isSome_some] at CP;have hw0:=k1;clear HS HNN HNS HTK hd k1 k2 k3 HT hf;go_enter Tryz.func125,Tryz.ntmps125;go_wp2_with fail
  refine CO.out.mono ?_;rintro e w2 ⟨rfl,u2⟩;have CN2:=h_ (CN.out _ u2);go_wp2_with fail
  refine CN2.out.mono ?_;rintro e w3 ⟨rfl,h3,u3⟩;have H3:=h_ h3;have U3:Hid (Upd (·=p) w w3):=(upd_eq (HU1.out.then_non u2)).trans u3 (fun _ _ e=>e);have HB3:=h_ ((HB1.out.upd u2 (fun f=>f)).upd u3 (by omega));clear CO CN CN2 h3 u2 u3 e1;go_wp2_with fail
  refine (CP.out w3).mono ?_;rintro e w4 ⟨rfl,rfl⟩;clear CP;obtain ⟨w9,rfl⟩:∃v:World,v=w4:=⟨_,rfl⟩;have HB9:=HB3;unfold p0 at HB9;have b9:=HB9.out;have rc0:=b9.cell 0;have rc1:=b9.cell 1;have rc2:=b9.cell 2;have rc3:=b9.cell 3;have rc4:=b9.cell 4;have rcf:=b9.frozen;clear b9;go_wp2_with fail
  rw [set5_eq];have us:=set5_upd w9 w.heap.size;refine bodyPost_ret (results_cell_row rfl _ _ w.heap.size 38 _ (0,0) _ rfl (set5_blk HB9.out _ _ _ _ _) Tryz.underlying38 rfl (by kernel_rfl)) rfl ?_;refine ⟨.mk 0 1 n 0 [],none,0,y1,rfl,PtK.leaf,H3.out.upd (us _ _ _ _ _) (fun k _ e=>by omega),HNG.out.1,HNG.out.2.2.1,HNG.out.2.1,?_,U3.out.trans (us _ _ _ _ _) (fun k hk e=>by omega),?_⟩
  ·rw [Pt.size_leaf];have:=HNG.out.2.1;omega
  ·rw [HR.out];refine ⟨fun _=>?_,fun q=>absurd hw0 q⟩;rw [HY.out];exact ⟨hw0,rfl,rfl,by rw [Pt.size_leaf];show 1+x.i≤x.i+1;omega⟩
 | none =>
  rw [hd] at CP;simp only [Option.getD_none,Option.isSome_none] at CP;have HD:=h_ hd;clear hd
  have HRB:Hid ((∀a b,s=[a,b]→isLw b=true→a.toNat≠63∧a.toNat≠36)→s≠[40]→ResX x (y1.fail 2 off) r (fun v=>v=(Pt.mk 0 0 0 0 [])∧(Pt.mk 0 0 0 0 []).size+x.i≤(y1.fail 2 off).i)):=fun hno h40=>by
   have hr:x.why=0→r=.error (serr T fin x.i):=fun h0=>by
    rw [HS.out];by_cases q:x.i<T.length
    ·obtain ⟨t,ht⟩:=tk_some q;obtain ⟨e1,_⟩:=HNS.out t h0 ht;subst e1;rw [if_neg (fun q=>by rw [ht] at q;injection q with q;exact h40 q)];exact wrd_bad (z:=x.ps) ht (atom_no HD.out hno)
    ·rw [if_neg (fun q2=>by rw [tk_none q] at q2;cases q2)];exact wrd_none (z:=x.ps) (tk_none q)
   by_cases h0:x.why=0
   ·rw [hr h0]
    have key:(y1.fail 2 off).why=2∧(y1.fail 2 off).ea=off:=by
     by_cases q:x.i<T.length
     ·obtain ⟨t,ht⟩:=tk_some q;obtain ⟨_,e2,_⟩:=HNS.out t h0 ht;rw [e2,xfail_zero (show ({ x with i:=x.i+1 }:Xs).why=0 from h0)];exact ⟨rfl,rfl⟩
     ·obtain ⟨_,e2⟩:=HNN.out (fun r=>q r.2);rw [e2,xfail_why (xfail_ne _ (by decide)),xfail_zero h0];exact ⟨rfl,rfl⟩
    refine ⟨fun _=>⟨key.1,key.2.trans ?_⟩,fun q=>absurd h0 q⟩;rw [←Hoff.out];rfl
   ·obtain ⟨_,e2⟩:=HNN.out (fun q=>h0 q.1);rw [e2,xfail_why h0,xfail_why h0];exact ⟨fun q=>absurd q h0,fun _=>⟨rfl,rfl⟩⟩
  by_cases h2:m=2
  ·obtain ⟨a,b,rfl⟩:∃a b,s=[a,b]:=by
    have h3:=Hm.out;rw [h2] at h3
    match s,h3 with
    | [a,b],_=>exact ⟨a,b,rfl⟩
   subst h2
   have hsl1:∀W,(Instr.slice 9 (.string qs) (some (.int .i64 (1:Int))) none none).run Tryz.prog W=.ok (.string (kstr [b])) W:=fun W=>by
    have:=run_from_str (s:=[a,b]) (n:=2) (i:=1) rfl (by omega) W;rw [Hqs.out] at this;exact this
   have CL:=h_ (fun W=>xIsLetter_c (kstr [b]) W);rw [kx_kstr,show isLt [b]=isLw b from rfl] at CL;have i0:=fun W=>run_at_str hqz (show 0<2 by omega) W
   rw [←Hqs.out,kx_kstr,show ([a,b]:Bs).getD 0 0=a from rfl,show ((0:Nat):Int)=0 from rfl,Hqs.out] at i0;have HN40:Hid ([a,b]≠[40]):=by show _≠_;simp
   obtain ⟨qb,Hqb⟩:=nm (kstr [b]);rw [Hqb.out] at hsl1 CL;obtain ⟨lw,Hlw⟩:=nm (isLw b);rw [Hlw.out] at CL
   cases lw with
   | false =>
    have HR:=h_ (HRB.out (fun a' b' e hb=>by injection e with _ e;injection e with e _;subst e;rw [Hlw.out] at hb;cases hb) HN40.out);clear HRB HTK HNS HNN HS HT hf;go_enter Tryz.func125,Tryz.ntmps125;go_wp2_with fail
    refine CO.out.mono ?_;rintro e w2 ⟨rfl,u2⟩;have CN2:=h_ (CN.out _ u2);go_wp2_with fail
    refine CN2.out.mono ?_;rintro e w3 ⟨rfl,h3,u3⟩;have H3:=h_ h3;have U3:Hid (Upd (·=p) w w3):=(upd_eq (HU1.out.then_non u2)).trans u3 (fun _ _ e=>e);have HB3:=h_ ((HB1.out.upd u2 (fun f=>f)).upd u3 (by omega));clear CO CN CN2 h3 u2 u3 e1;go_wp2_with fail
    refine (CP.out w3).mono ?_;rintro e w4 ⟨rfl,rfl⟩;clear CP;go_wp2_with fail
    refine (CL.out _).mono ?_;rintro e w5 ⟨rfl,rfl⟩;obtain ⟨w4,rfl⟩:∃v:World,v=w5:=⟨_,rfl⟩;clear CL
    have hfq:(qs.toList==[40])=false:=by
     rw [←Hqs.out,xktl];exact beq_eq_false_iff_ne.2 HN40.out
    have CF:=h_ (fun W (u:Upd Non w4 W)=>xFail_c (H3.out.non u) 2 off);go_wp2_with fail
    refine (CF.out _ (by first | exact Upd.refl | assumption)).mono ?_;rintro e w9 ⟨rfl,h9,u9⟩;have HB9:=h_ (HB3.out.upd u9 (by omega));have H9:=h_ h9;have U9:Hid (Upd (·=p) w w9):=U3.out.trans u9 (fun _ _ e=>e);clear CF h9 u9;unfold p0 at HB9;have b9:=HB9.out;have rc0:=b9.cell 0;have rc1:=b9.cell 1;have rc2:=b9.cell 2;have rc3:=b9.cell 3;have rc4:=b9.cell 4;have rcf:=b9.frozen;clear b9;go_wp2_with fail
    rw [set5_eq];have us:=set5_upd w9 w.heap.size;refine bodyPost_ret (results_cell_row rfl _ _ w.heap.size 38 _ (0,0) _ rfl (set5_blk HB9.out _ _ _ _ _) Tryz.underlying38 rfl (by kernel_rfl)) rfl ?_;refine ⟨.mk 0 0 0 0 [],none,0,y1.fail 2 off,rfl,PtK.leaf,H9.out.upd (us _ _ _ _ _) (fun k _ e=>by omega),HNG.out.1.fail _ _,by rw [xfail_left];exact HNG.out.2.2.1,by rw [xfail_i];exact HNG.out.2.1,?_,U9.out.trans (us _ _ _ _ _) (fun k hk e=>by omega),HR.out⟩
    rw [Pt.size_leaf,xfail_i];have:=HNG.out.2.1;omega
   | true =>
    obtain ⟨k1,k2,k3,k4⟩:=HTK.out (by simp);by_cases h63:a.toNat=63
    ·obtain rfl:a=63:=UInt8.toNat_inj.1 h63;have f63:((((63:UInt8).toNat:Nat):Int)==63)=true:=rfl;have HR:Hid (r=wrdF T fin (atomF left) x.ps):=by show _=_;rw [HS.out,if_neg (fun q=>by rw [k2] at q;cases q)]
     have HA:=h_ (atom_q (left:=left) x.ps Hlw.out);have HK1:=h_ k1;have HK2:=h_ k2;have HK3:=h_ k3;clear HRB HTK HNS HNN HS HT hf k1 k2 k3 h63;go_enter Tryz.func125,Tryz.ntmps125;go_wp2_with fail
     refine CO.out.mono ?_;rintro e w2 ⟨rfl,u2⟩;have CN2:=h_ (CN.out _ u2);go_wp2_with fail
     refine CN2.out.mono ?_;rintro e w3 ⟨rfl,h3,u3⟩;have H3:=h_ h3;have U3:Hid (Upd (·=p) w w3):=(upd_eq (HU1.out.then_non u2)).trans u3 (fun _ _ e=>e);have HB3:=h_ ((HB1.out.upd u2 (fun f=>f)).upd u3 (by omega));clear CO CN CN2 h3 u2 u3 e1;go_wp2_with fail
     refine (CP.out w3).mono ?_;rintro e w4 ⟨rfl,rfl⟩;clear CP;go_wp2_with fail
     refine (CL.out _).mono ?_;rintro e w5 ⟨rfl,rfl⟩;obtain ⟨w4,rfl⟩:∃v:World,v=w5:=⟨_,rfl⟩;clear CL
     go_upto_region 8 with fail
     have CK:=h_ (fun W (u:Upd Non w4 W)=>xVariable_g (H3.out.non u) 5 y1.vs (fun v=>{ y1 with vs:=v }) rfl (fun v=>rfl) (by have h5:=HNG.out.1.2.1;have h6:=HNG.out.1.1;omega) b off)
     obtain ⟨wD,HwD⟩:=nm w4.drew;have uD:Upd Non w4 wD:=by rw [←HwD.out];exact Upd.refl.drew
     have HYLE:Hid (y1.left=left):=HNG.out.2.2.1.trans hl;rw [Hqb.out] at CK;refine wp_region_held_drew (S:=fun _=>True) (by kernel_rfl) trivial (fun hHeld=>?_);rw [HwD.out];refine wpT 0 ?_;(try simp only [y_,z_]);refine wpT 1 ?_;(try simp only [y_,z_]);refine wpT 2 ?_;(try simp only [y_,z_]);refine wpT 3 ?_;(try simp only [y_,z_]);refine wpT 4 ?_;(try simp only [y_,z_]);refine wpT 5 ?_;(try simp only [y_,z_]);refine wpT 6 ?_;(try simp only [y_,z_]);refine aR_ (rs:=[7]) (by kernel_rfl) (by simp) ?_;refine aC_ rfl (fun K hK=>?_) aN_;go_simp;refine (CK.out _ uD).mono ?_;rintro e w7 ⟨rfl,h7,u7⟩;go_wp2_with fail
     refine hK.out _ _ ?_ (fun hHeld=>?_)
     ·exact trivial
     clear hK K;(try simp only [y_,z_]);refine wpT 8 ?_;(try simp only [y_,z_]);have HB9:=h_ ((HB3.out.upd uD (fun f=>f)).upd u7 (by omega));have H7:=h_ h7;have U7:Hid (Upd (·=p) w w7):=(U3.out.then_non uD).trans u7 (fun _ _ e=>e);clear h7 u7 CK uD;unfold p0 at HB9;have b9:=HB9.out;have rc0:=b9.cell 0;have rc1:=b9.cell 1;have rc2:=b9.cell 2;have rc3:=b9.cell 3;have rc4:=b9.cell 4;have rcf:=b9.frozen;clear b9;refine aR_ (rs:=[9]) (by kernel_rfl) (by simp) ?_;refine aC_ rfl (fun K hK=>?_) aN_;go_simp;rw [set5_eq];refine hK.out _ _ ?_ (fun hHeld=>?_)
     ·exact trivial
     clear hK K;(try simp only [y_,z_]);refine aD_ (by kernel_rfl) ?_ _;go_wp2_with fail
     have us:=set5_upd w7 w.heap.size;refine bodyPost_ret (results_cell_row rfl _ _ w.heap.size 38 _ (0,0) _ rfl (set5_blk HB9.out _ _ _ _ _) Tryz.underlying38 rfl (by kernel_rfl)) rfl ?_;have hyv:y1.vs=x.vs:=HNG.out.2.2.2.1;have hkl:=lookF_len y1.vs b y1.left;have hv7:y1.vs.length=x.vs.length:=by rw [hyv]
     have hv:=var_resX (fin:=fin) (left:=left) (Yf:=fun v=>{ y1 with vs:=v }) (K:=lookF y1.vs b y1.left) (q:=.mk (lookF y1.vs b y1.left).1 0 0 0 []) (u:={ x.ps with vs:=(lookF x.vs b left).2 }) HX.out HK1.out HK3.out HK2.out rfl (by have h5:=HA.out;rw [hyv,HYLE.out];exact h5) (by rw [HK3.out];exact HK1.out) (by rw [HK3.out]) (by rw [HK3.out];show (⟨x.i+1,(lookF x.vs b x.left).2,x.ms⟩:PS)=⟨x.i+1,(lookF x.vs b left).2,x.ms⟩;rw [hl]) (by have h5:=HX.out.2.1;show (lookF y1.vs b y1.left).2.length≤x.i+1;omega) (by rw [HK3.out];have h5:=HX.out.2.2;show x.ms.length≤x.i+1;omega) (by rw [HK3.out]) (Pt.size_leaf _ _ _ _) _ rfl
     rw [Hoff.out] at hv;refine ⟨_,none,0,_,rfl,PtK.leaf,H7.out.upd (us _ _ _ _ _) (fun k _ e=>by omega),hv.1,hv.2.1,by rw [hv.2.2.1];omega,?_,U7.out.trans (us _ _ _ _ _) (fun k hk e=>by omega),by rw [HR.out];exact hv.2.2.2⟩
     rw [Pt.size_leaf,hv.2.2.1];omega
    ·have f63:(((a.toNat:Nat):Int)==63)=false:=by simp;omega
     by_cases h36:a.toNat=36
     ·obtain rfl:a=36:=UInt8.toNat_inj.1 h36;have f36:((((36:UInt8).toNat:Nat):Int)==36)=true:=rfl;have HR:Hid (r=wrdF T fin (atomF left) x.ps):=by show _=_;rw [HS.out,if_neg (fun q=>by rw [k2] at q;cases q)]
      have HA:=h_ (atom_d (left:=left) x.ps Hlw.out);have HK1:=h_ k1;have HK2:=h_ k2;have HK3:=h_ k3;clear HRB HTK HNS HNN HS HT hf k1 k2 k3 h63 h36;go_enter Tryz.func125,Tryz.ntmps125;go_wp2_with fail
      refine CO.out.mono ?_;rintro e w2 ⟨rfl,u2⟩;have CN2:=h_ (CN.out _ u2);go_wp2_with fail
      refine CN2.out.mono ?_;rintro e w3 ⟨rfl,h3,u3⟩;have H3:=h_ h3;have U3:Hid (Upd (·=p) w w3):=(upd_eq (HU1.out.then_non u2)).trans u3 (fun _ _ e=>e);have HB3:=h_ ((HB1.out.upd u2 (fun f=>f)).upd u3 (by omega));clear CO CN CN2 h3 u2 u3 e1;go_wp2_with fail
      refine (CP.out w3).mono ?_;rintro e w4 ⟨rfl,rfl⟩;clear CP;go_wp2_with fail
      refine (CL.out _).mono ?_;rintro e w5 ⟨rfl,rfl⟩;obtain ⟨w4,rfl⟩:∃v:World,v=w5:=⟨_,rfl⟩;clear CL
      go_upto_region 10 with fail
      have CK:=h_ (fun W (u:Upd Non w4 W)=>xVariable_g (H3.out.non u) 6 y1.ms (fun v=>{ y1 with ms:=v }) rfl (fun v=>rfl) (by have h5:=HNG.out.1.2.2;have h6:=HNG.out.1.1;omega) b off)
      obtain ⟨wD,HwD⟩:=nm w4.drew;have uD:Upd Non w4 wD:=by rw [←HwD.out];exact Upd.refl.drew
      have HYLE:Hid (y1.left=left):=HNG.out.2.2.1.trans hl;rw [Hqb.out] at CK;refine wp_region_held_drew (S:=fun _=>True) (by kernel_rfl) trivial (fun hHeld=>?_);rw [HwD.out];refine wpT 0 ?_;(try simp only [y_,z_]);refine wpT 1 ?_;(try simp only [y_,z_]);refine wpT 2 ?_;(try simp only [y_,z_]);refine wpT 3 ?_;(try simp only [y_,z_]);refine wpT 4 ?_;(try simp only [y_,z_]);refine wpT 5 ?_;(try simp only [y_,z_]);refine wpT 6 ?_;(try simp only [y_,z_]);refine aR_ (rs:=[7]) (by kernel_rfl) (by simp) ?_;refine aC_ rfl (fun K hK=>?_) aN_;go_simp;refine (CK.out _ uD).mono ?_;rintro e w7 ⟨rfl,h7,u7⟩;go_wp2_with fail
      refine hK.out _ _ ?_ (fun hHeld=>?_)
      ·exact trivial
      clear hK K;(try simp only [y_,z_]);refine wpT 8 ?_;(try simp only [y_,z_]);have HB9:=h_ ((HB3.out.upd uD (fun f=>f)).upd u7 (by omega));have H7:=h_ h7;have U7:Hid (Upd (·=p) w w7):=(U3.out.then_non uD).trans u7 (fun _ _ e=>e);clear h7 u7 CK uD;unfold p0 at HB9;have b9:=HB9.out;have rc0:=b9.cell 0;have rc1:=b9.cell 1;have rc2:=b9.cell 2;have rc3:=b9.cell 3;have rc4:=b9.cell 4;have rcf:=b9.frozen;clear b9;refine aR_ (rs:=[9]) (by kernel_rfl) (by simp) ?_;refine aC_ rfl (fun K hK=>?_) aN_;go_simp;rw [set5_eq];refine hK.out _ _ ?_ (fun hHeld=>?_)
      ·exact trivial
      clear hK K;(try simp only [y_,z_]);refine aD_ (by kernel_rfl) ?_ _;go_wp2_with fail
      have us:=set5_upd w7 w.heap.size;refine bodyPost_ret (results_cell_row rfl _ _ w.heap.size 38 _ (0,0) _ rfl (set5_blk HB9.out _ _ _ _ _) Tryz.underlying38 rfl (by kernel_rfl)) rfl ?_;have hyv:y1.ms=x.ms:=HNG.out.2.2.2.2;have hkl:=lookF_len y1.ms b y1.left;have hv7:y1.ms.length=x.ms.length:=by rw [hyv]
      have hv:=var_resX (fin:=fin) (left:=left) (Yf:=fun v=>{ y1 with ms:=v }) (K:=lookF y1.ms b y1.left) (q:=.mk 0 1 0 (lookF y1.ms b y1.left).1 []) (u:={ x.ps with ms:=(lookF x.ms b left).2 }) HX.out HK1.out HK3.out HK2.out rfl (by have h5:=HA.out;rw [hyv,HYLE.out];exact h5) (by rw [HK3.out];exact HK1.out) (by rw [HK3.out]) (by rw [HK3.out];show (⟨x.i+1,x.vs,(lookF x.ms b x.left).2⟩:PS)=⟨x.i+1,x.vs,(lookF x.ms b left).2⟩;rw [hl]) (by rw [HK3.out];have h5:=HX.out.2.1;show x.vs.length≤x.i+1;omega) (by have h5:=HX.out.2.2;show (lookF y1.ms b y1.left).2.length≤x.i+1;omega) (by rw [HK3.out]) (Pt.size_leaf _ _ _ _) _ rfl
      rw [Hoff.out] at hv;refine ⟨_,none,0,_,rfl,PtK.leaf,H7.out.upd (us _ _ _ _ _) (fun k _ e=>by omega),hv.1,hv.2.1,by rw [hv.2.2.1];omega,?_,U7.out.trans (us _ _ _ _ _) (fun k hk e=>by omega),by rw [HR.out];exact hv.2.2.2⟩
      rw [Pt.size_leaf,hv.2.2.1];omega
     ·have f36:(((a.toNat:Nat):Int)==36)=false:=by simp;omega
      have HR:=h_ (HRB.out (fun a' b' e hb=>by injection e with e _;subst e;exact ⟨h63,h36⟩) HN40.out);clear HRB HTK HNS HNN HS HT hf k1 k2 k3 h63 h36;go_enter Tryz.func125,Tryz.ntmps125;go_wp2_with fail
      refine CO.out.mono ?_;rintro e w2 ⟨rfl,u2⟩;have CN2:=h_ (CN.out _ u2);go_wp2_with fail
      refine CN2.out.mono ?_;rintro e w3 ⟨rfl,h3,u3⟩;have H3:=h_ h3;have U3:Hid (Upd (·=p) w w3):=(upd_eq (HU1.out.then_non u2)).trans u3 (fun _ _ e=>e);have HB3:=h_ ((HB1.out.upd u2 (fun f=>f)).upd u3 (by omega));clear CO CN CN2 h3 u2 u3 e1;go_wp2_with fail
      refine (CP.out w3).mono ?_;rintro e w4 ⟨rfl,rfl⟩;clear CP;go_wp2_with fail
      refine (CL.out _).mono ?_;rintro e w5 ⟨rfl,rfl⟩;obtain ⟨w4,rfl⟩:∃v:World,v=w5:=⟨_,rfl⟩;clear CL
      have hfq:(qs.toList==[40])=false:=by
       rw [←Hqs.out,xktl];exact beq_eq_false_iff_ne.2 HN40.out
      have CF:=h_ (fun W (u:Upd Non w4 W)=>xFail_c (H3.out.non u) 2 off);go_wp2_with fail
      refine (CF.out _ (by first | exact Upd.refl | assumption)).mono ?_;rintro e w9 ⟨rfl,h9,u9⟩;have HB9:=h_ (HB3.out.upd u9 (by omega));have H9:=h_ h9;have U9:Hid (Upd (·=p) w w9):=U3.out.trans u9 (fun _ _ e=>e);clear CF h9 u9;unfold p0 at HB9;have b9:=HB9.out;have rc0:=b9.cell 0;have rc1:=b9.cell 1;have rc2:=b9.cell 2;have rc3:=b9.cell 3;have rc4:=b9.cell 4;have rcf:=b9.frozen;clear b9;go_wp2_with fail
      rw [set5_eq];have us:=set5_upd w9 w.heap.size;refine bodyPost_ret (results_cell_row rfl _ _ w.heap.size 38 _ (0,0) _ rfl (set5_blk HB9.out _ _ _ _ _) Tryz.underlying38 rfl (by kernel_rfl)) rfl ?_;refine ⟨.mk 0 0 0 0 [],none,0,y1.fail 2 off,rfl,PtK.leaf,H9.out.upd (us _ _ _ _ _) (fun k _ e=>by omega),HNG.out.1.fail _ _,by rw [xfail_left];exact HNG.out.2.2.1,by rw [xfail_i];exact HNG.out.2.1,?_,U9.out.trans (us _ _ _ _ _) (fun k hk e=>by omega),HR.out⟩
      rw [Pt.size_leaf,xfail_i];have:=HNG.out.2.1;omega
  ·have fm:((m:Int)==2)=false:=by simp;omega
   by_cases h40:s=[40]
   ·obtain ⟨k1,k2,k3,k4⟩:=HTK.out (by rw [h40];simp);have HR:Hid (r=appF T fin left f { x.ps with i:=x.i+1 }):=by show _=_;rw [HS.out,if_pos (by rw [k2,h40])]
    have hfq:(qs.toList==[40])=true:=by
     rw [←Hqs.out,xktl,h40];rfl
    have HY1:Hid (y1={ x with i:=x.i+1 }):=k3;have h1i:y1.i=x.i+1:=by rw [k3]
    have h1w:y1.why=0:=by rw [k3];exact k1
    have HK1:=h_ k1;have h1l:y1.left=left:=HNG.out.2.2.1.trans hl;have HL1:=h_ h1l;have HW1Y:=h_ h1w;have HNG2:=h_ (nxY_good (fin:=fin) HNG.out.1)
    have hs2l:(nxS T y1).length≤20000:=by
     by_cases q:y1.i<T.length
     ·obtain ⟨t,ht⟩:=tk_some q;rw [(nx_some (fin:=fin) h1w ht).1];exact (HXT.out.tk ht).2
     ·rw [(nx_none (fin:=fin) (fun r=>q r.2)).1];simp
    have HFU:Hid (T.length<x.i+(f+1)):=hf k1;clear HRB HTK HNS HNN HS hf k1 k2 k3 h40 h2;go_enter Tryz.func125,Tryz.ntmps125;go_wp2_with fail
    refine CO.out.mono ?_;rintro e w2 ⟨rfl,u2⟩;have CN2:=h_ (CN.out _ u2);go_wp2_with fail
    refine CN2.out.mono ?_;rintro e w3 ⟨rfl,h3,u3⟩;have H3:=h_ h3;have U3:Hid (Upd (·=p) w w3):=(upd_eq (HU1.out.then_non u2)).trans u3 (fun _ _ e=>e);have HB3:=h_ ((HB1.out.upd u2 (fun f=>f)).upd u3 (by omega));clear CO CN CN2 h3 u2 u3 e1;go_wp2_with fail
    refine (CP.out w3).mono ?_;rintro e w4 ⟨rfl,rfl⟩;clear CP;have CO2:=h_ (xOffset_c H3.out);have CN2:=h_ (fun W (u:Upd Non w4 W)=>xNext_c (H3.out.non u) (by omega));obtain ⟨off2,Hoff2⟩:=nm (offF T fin y1.i);obtain ⟨s2,Hs2⟩:=nm (nxS T y1);obtain ⟨y2,Hy2⟩:=nm (nxY T fin y1)
    have h2ms:y2.ms.length≤100000:=by
     have:=HNG2.out.1;rw [Hy2.out] at this;have h5:=this.2.2;have h6:=this.1;omega
    rw [Hs2.out] at hs2l;have COP:=h_ (fun (W:World) (h:XdS W p A c T fin y2)=>xOperation_c h h2ms s2 (by omega) off2);rw [Hs2.out,Hy2.out] at CN2;rw [Hoff2.out] at CO2;have HLB3:w.heap.size<w4.heap.size:=HB3.out.lt;clear h2ms hs2l h1i h1w h1l;go_wp2_with fail
    refine CO2.out.mono ?_;rintro e w5 ⟨rfl,u5⟩;have CN5:=h_ (CN2.out _ u5);clear CO2 CN2;go_wp2_with fail
    refine CN5.out.mono ?_;rintro e w6 ⟨rfl,h6,u6⟩;have CO6:=h_ (COP.out _ h6);have U6:Hid (Upd (·=p) w w6):=(U3.out.then_non u5).trans u6 (fun _ _ e=>e);have HB6:=h_ ((HB3.out.upd u5 (fun f=>f)).upd u6 (by omega));have z6:=u6.size;have z5:=u5.size;clear CN5 COP h6 u6 u5;go_wp2_with fail
    refine CO6.out.mono ?_;rintro e w8 ⟨q0,b,y0,rfl,hqk,h8,u8,hb8,hop⟩
    have HOP:Hid (ResX y1 (bif b then y0 else y0.fail 2 off2) (wrdF T fin (operF left) y1.ps) (fun v=>v=q0∧y1.i+1≤y0.i)∧GoodX T y0∧y0.left=left∧y1.i≤y0.i∧(b=true→y0.i=y1.i+1)):=by
     have:=op_resX (fin:=fin) (b:=b) (q0:=q0) (y0:=y0) HNG.out.1 HW1Y.out Hs2.out Hy2.out HL1.out (fun q=>(hb8 q).1) (by rw [Hoff2.out];exact hop);rw [Hoff2.out] at this;exact this
    have HB8:=h_ (HB6.out.upd u8 (by omega));have U8:Hid (Upd (·=p) w w8):=U6.out.trans u8 (fun _ _ e=>e);have HQK:=h_ hqk;have z8:=u8.size;have HBT:=h_ hb8;have H8:=h_ h8;clear CO6 hop h8 u8 hqk hb8 HB6 U6 HB3 U3;unfold pv;rw [HQK.out];obtain ⟨W9,HW9⟩:=nm (w8.alloc (.cells #[.int .i64 q0.v,.int .i64 q0.op,.int .i64 q0.imm,.int .i64 q0.iv,.slice none 0 0] 38));have u9:Upd Non w8 W9:=by rw [←HW9.out];exact Upd.refl.alloc _
    have b9:Blk W9 w8.heap.size 38 #[.int .i64 q0.v,.int .i64 q0.op,.int .i64 q0.imm,.int .i64 q0.iv,.slice none 0 0]:=by rw [←HW9.out];exact Blk.new _ _ _
    have s9:W9.heap.size=w8.heap.size+1:=by rw [←HW9.out];simp
    have HS9:Hid (XAp w W9 w8.heap.size p A c T fin y0 #[.int .i64 q0.v,.int .i64 q0.op,.int .i64 q0.imm,.int .i64 q0.iv,.slice none 0 0]):=⟨H8.out.non u9,HB8.out.upd u9 (fun f=>f),b9,by omega,hpw,U8.out.then_non u9⟩
    clear u9 b9
    go_upto_region 16 with fail
    rw [HW9.out];clear HW9
    cases b with
    | false =>
     have CF:=h_ (xFail_c HS9.out.xd 2 off2);go_wp2_with fail
     refine CF.out.mono ?_;rintro e w9 ⟨rfl,h9,u9⟩;have HS10:=h_ (HS9.out.call h9 u9);have HB9:=h_ HS10.out.res;clear CF h9 u9 HT;unfold p0 at HB9;have b9:=HB9.out;have rc0:=b9.cell 0;have rc1:=b9.cell 1;have rc2:=b9.cell 2;have rc3:=b9.cell 3;have rc4:=b9.cell 4;have rcf:=b9.frozen;clear b9;go_wp2_with fail
     rw [set5_eq];have us:=set5_upd w9 w.heap.size;refine bodyPost_ret (results_cell_row rfl _ _ w.heap.size 38 _ (0,0) _ rfl (set5_blk HB9.out _ _ _ _ _) Tryz.underlying38 rfl (by kernel_rfl)) rfl ?_;have hor:=HOP.out;dsimp only [cond_false] at hor;have h1i:y1.i=x.i+1:=by rw [HY1.out]
     refine ⟨.mk 0 0 0 0 [],none,0,y0.fail 2 off2,rfl,PtK.leaf,HS10.out.xd.upd (us _ _ _ _ _) (fun k _ e=>by omega),hor.2.1.fail _ _,by rw [xfail_left,hor.2.2.1,hl],by rw [xfail_i];have:=hor.2.2.2.1;omega,?_,HS10.out.upd.trans (us _ _ _ _ _) (fun k hk e=>by omega),?_⟩
     ·rw [Pt.size_leaf,xfail_i];have:=hor.2.2.2.1;omega
     ·rw [HR.out];refine ⟨fun _=>?_,fun q=>absurd HK1.out q⟩;have h5:=hor.1.1 HW1Y.out;rw [HY1.out] at h5;unfold appF;have e:({ x with i:=x.i+1 }:Xs).ps={ x.ps with i:=x.i+1 }:=rfl;rw [e] at h5
      cases hw:wrdF T fin (operF left) { x.ps with i:=x.i+1 } with
      | error e=>rw [hw] at h5;exact h5
      | ok v=>rw [hw] at h5;exact absurd h5.1 (xfail_ne _ (by decide))
    | true =>
     obtain ⟨-,hv0,har⟩:=HBT.out rfl;have HV0:=h_ hv0;have HOR:=HOP.out;dsimp only [cond_true] at HOR;have h0i:y0.i=x.i+2:=by rw [HOR.2.2.2.2 rfl,HY1.out]
     have H0I:=h_ h0i;have HR0:=h_ HOR.1;have CA:=h_ (fun W=>arity_c q0.op W);rw [har] at CA;obtain ⟨n,Hn⟩:=nm ((arF q0.op).getD 0);rw [Hn.out] at CA;have hn3:n≤3:=by rw [←Hn.out];exact arF_le _
     have HG0:=h_ HOR.2.1;have HYL:=h_ HOR.2.2.1;have d1:=HS9.out.pat.cell 1;clear hv0 har HOR HOP HBT h0i;go_wp2_with fail
     refine (CA.out _).mono ?_;rintro e wa ⟨rfl,rfl⟩;clear CA d1;go_wp2_with fail
     go_loopg [11] n (fun g i wr=>∃(j:Nat) (Ak:Option Addr) (ck:Nat) (ks:List Pt) (y:Xs),Hid (g=n - j)∧j≤n∧i=.int .i64 j∧Hid (XAp w wr w8.heap.size p A c T fin y #[.int .i64 q0.v,.int .i64 q0.op,.int .i64 q0.imm,.int .i64 q0.iv,.slice Ak j ck])∧Hid (PtO wr (fun k=>w8.heap.size<k) Ak j ck ks)∧Hid (∀k,At Ak k→w8.heap.size<k)∧Hid (GoodX T y)∧Hid (y.left=left)∧Hid (ResX y0 y (kidsF (termF T fin left f) j y0.ps) (fun v=>v=ks))∧Hid ((y.why=0→Pt.sizeL ks+y0.i≤y.i)∧Pt.sizeL ks+y0.i≤y.i+1∧y0.i≤y.i))
     case atStart=>exact ⟨0,none,0,[],y0,rfl,Nat.zero_le _,rfl,HS9.out,PtO.none_,fun k h=>(At.none_ h).elim,HG0.out,HYL.out,⟨fun h=>⟨h,rfl,rfl⟩,fun h=>⟨rfl,rfl⟩⟩,⟨fun _=>by show Pt.sizeL []+y0.i≤y0.i;simp [Pt.sizeL],by show Pt.sizeL []+y0.i≤y0.i+1;simp [Pt.sizeL],Nat.le_refl _⟩⟩
     case round =>
      obtain ⟨j,Ak,ck,ks,y,Hg,hj,rfl,HS1,HK,HAT,HG1,HL2,HRK,HZ⟩:=hrel;obtain ⟨D,HD⟩:=nm (decide (j<n)&&(y.why==0));have c3:=HS1.out.xd.cells.2.2.2.1;clear HS9 HYL
      go_upto_region 21 with fail
      go_cut [94] (fun s wx=>s=.bool D∧wx=wr)
      case first =>
       obtain ⟨yw,Hyw⟩:=nm y.why;rw [Hyw.out] at c3 HD;obtain ⟨bw,Hbw⟩:=nm (yw==0);rw [Hbw.out] at HD;have hbw:=Hbw.out;by_cases hlt:j<n
       ·have tj:decide ((j:Int)<(n:Int))=true:=dT_ (by omega);have hD:D=bw:=by rw [←HD.out,dT_ hlt];rfl
        subst hD;go_wp2_with fail
        go_meet
        case rel=>exact ⟨rfl,rfl⟩
       ·have tj:decide ((j:Int)<(n:Int))=false:=dF_ (by omega);have hD:D=false:=by rw [←HD.out,dF_ hlt];rfl
        subst hD;go_wp2_with fail
        go_meet
        case rel=>exact ⟨rfl,rfl⟩
      case rest =>
       obtain ⟨rfl,hwc⟩:=hcut;subst hwc;obtain ⟨wr,rfl⟩:∃v:World,v=wc:=⟨_,rfl⟩
       cases D with
       | true =>
        have hDD:=HD.out;simp only [Bool.and_eq_true,decide_eq_true_eq,beq_iff_eq] at hDD;have hlt:=hDD.1;have H0Y:Hid (y.why=0):=hDD.2
        have HF2:Hid (T.length<y.i+f):=by
         show T.length<y.i+f;have h5:=HFU.out;have h6:=HZ.out.2.2;have h7:=H0I.out;omega
        clear hDD HD c3
        go_upto_region 23 with fail
        obtain ⟨wD,HwD⟩:=nm wr.drew;have uD:Upd Non wr wD:=by rw [←HwD.out];exact Upd.refl.drew
        have HS:=h_ (HS1.out.non uD);have HKD:=h_ (HK.out.upd uD (fun _ _ f=>f) (fun _ _ _ f=>f));have CT:=h_ (HT.out HS.out.xd HG1.out HL2.out H0Y.out HF2.out);have hckj:j≤ck:=HK.out.le;clear HS1 HK uD;refine wp_region_held_drew (S:=fun _=>True) (by kernel_rfl) trivial (fun hHeld=>?_);rw [HwD.out];refine wpT 0 ?_;(try simp only [y_,z_]);refine wpT 2 ?_;(try simp only [y_,z_]);refine aR_ (rs:=[1,3]) (by kernel_rfl) (by simp) ?_;refine aC_ rfl (fun K hK=>?_) (aC_ rfl (fun K hK=>?_) aN_)
        ·have d4:=HS.out.pat.cell 4;go_simp;refine hK.out _ _ ?_ (fun hHeld=>?_)
         ·exact trivial
         clear hK K;(try simp only [y_,z_]);clear d4;refine aR_ (rs:=[3]) (by kernel_rfl) (by simp) ?_;refine aC_ rfl (fun K hK=>?_) aN_;go_simp;refine CT.out.mono ?_;rintro e w7 ⟨q,KA,kc,y',rfl,hq,h7,hg7,hl7,hi7,hz7,u7,hr7⟩;unfold pv;go_wp2_with fail
         refine hK.out _ _ ?_ (fun hHeld=>?_)
         ·exact trivial
         clear hK K;(try simp only [y_,z_]);have HS7:=h_ (HS.out.call h7 u7);have HLT:Hid (∀k,At Ak k→k<wD.heap.size):=fun k h=>HKD.out.lt h
         have HGD:Hid (w8.heap.size<wD.heap.size):=HS.out.pat.lt;have HK7:=h_ (HKD.out.upd u7 (fun k h e=>by have h5:=HAT.out k h;have h6:=HS.out.lt;have h7:=HS.out.plt;omega) (fun k _ h e=>by have h6:=HS.out.lt;have h7:=HS.out.plt;omega))
         have HQ7:Hid (PtK w7 (fun k=>w8.heap.size<k∧¬At Ak k) q KA kc):=PtK.mono (fun k _ h=>⟨Nat.lt_of_lt_of_le HGD.out h,fun r=>Nat.lt_irrefl _ (Nat.lt_of_lt_of_le (HLT.out k r) h)⟩) _ _ _ hq
         have HG7:=h_ hg7;have HL7:Hid (y'.left=left):=hl7.trans HL2.out;have HI7:=h_ hi7;have HZ7:=h_ hz7;have HR7:=h_ hr7;clear hq h7 hg7 hl7 hi7 hz7 u7 hr7;refine aR_ (rs:=[4]) (by kernel_rfl) (by simp) ?_;refine aC_ rfl (fun K hK=>?_) aN_;go_simp;have HAL:Hid (Upd Non w7 (w7.alloc (.cells #[.int .i64 q.v,.int .i64 q.op,.int .i64 q.imm,.int .i64 q.iv,.slice KA q.kids.length kc] 38))):=Upd.refl.alloc _
         have HS8:=h_ (HS7.out.non HAL.out);have HK8:=h_ (HK7.out.upd HAL.out (fun _ _ f=>f) (fun _ _ _ f=>f));have HQ8:=h_ (PtK.upd HAL.out (fun _ _ _ f=>f) _ _ _ HQ7.out);obtain ⟨hkn,cs8,hko,hkc⟩:=id HK8.out;refine hK.out _ _ ?_ (fun hHeld=>?_)
         ·exact trivial
         clear hK K;(try simp only [y_,z_]);refine aR_ (rs:=[5]) (by kernel_rfl) (by simp) ?_;refine aC_ rfl (fun K hK=>?_) aN_;refine step_app rfl rfl T_pats rfl hko rfl (Sl.new _ _ _) rfl (by simp [Value.oneCell']) (by simp only [maxLen];omega) (by omega) ?_;intro A8 c8 w10 ho10 hu10 hat10
         have HA8:Hid (∀k,At A8 k→w8.heap.size<k):=fun k h=>by
          rcases hat10 k h with h | h
          ·exact HAT.out k h
          ·have h6:=HS8.out.pat.lt;omega
         have HS10:=h_ (HS8.out.far hu10 (fun k h=>HAT.out k h));have HK10:=h_ (PtO.snoc (G':=fun k=>w8.heap.size<k) HK8.out hkc HQ8.out ho10 hu10 hat10 (fun _ _ h=>h));clear hkn hko hkc ho10 hu10 hat10;have d8:=HS10.out.pat.cell 4;have f8:=HS10.out.pat.frozen 4;refine hK.out _ _ ?_ (fun hHeld=>?_)
         ·exact trivial
         clear hK K;(try simp only [y_,z_]);refine wpT 6 ?_;(try simp only [y_,z_]);refine aR_ (rs:=[7]) (by kernel_rfl) (by simp) ?_;refine aC_ rfl (fun K hK=>?_) aN_;go_simp;have u11:Upd (·=w8.heap.size) w10 (w10.setCell ⟨w8.heap.size,4,none⟩ (.slice A8 (j+1) c8)):=updCell _ _ _ _;have b11:=HS10.out.pat.set_ 4 (.slice A8 (j+1) c8);have HS11:Hid (XAp w (w10.setCell ⟨w8.heap.size,4,none⟩ (.slice A8 (j+1) c8)) w8.heap.size p A c T fin y' #[.int .i64 q0.v,.int .i64 q0.op,.int .i64 q0.imm,.int .i64 q0.iv,.slice A8 (j+1) c8]):=HS10.out.setPat u11 (by simpa using b11)
         have HK11:=h_ (HK10.out.upd u11 (fun k h e=>by have:=HA8.out k h;omega) (fun k _ h e=>by omega));refine hK.out _ _ ?_ (fun hHeld=>?_)
         ·exact trivial
         clear hK K;(try simp only [y_,z_]);refine aD_ (by kernel_rfl) ?_ _;clear d8 f8 u11 b11 hHeld;go_wp2_with fail
         go_roundg (n - (j+1))
         case measure=>rw [Hg.out];omega
         case rel =>
          have hks:=kids_stepX HRK.out H0Y.out (termF_err f) HR7.out HZ.out.1;refine ⟨j+1,A8,c8,ks++[q],y',rfl,by omega,by go_num,HS11.out,HK11.out,HA8.out,HG7.out,HL7.out,hks.1,hks.2,?_,?_⟩
          ·rw [sizeL_snoc];have h5:=HZ.out.1 H0Y.out;have h6:=HZ7.out;omega
          ·have h5:=HZ.out.2.2;have h6:=HI7.out;omega
        ·go_simp;refine CT.out.mono ?_;rintro e w7 ⟨q,KA,kc,y',rfl,hq,h7,hg7,hl7,hi7,hz7,u7,hr7⟩;unfold pv;go_wp2_with fail
         refine hK.out _ _ ?_ (fun hHeld=>?_)
         ·exact trivial
         clear hK K;(try simp only [y_,z_]);have d4:w7.cell? ⟨w8.heap.size,4,none⟩=some (.slice Ak j ck):=(HS.out.call h7 u7).pat.cell 4;refine wpAnyH_takeM (fun w'=>w'.cell? ⟨w8.heap.size,4,none⟩=some (.slice Ak j ck)) (calm_cell _ _) [5,6,7] (i:=1) (v:=?_) rfl (by kernel_rfl) (by kernel_rfl) (by kernel_rfl) (by kernel_rfl) (fun _ _ _ h=>h) (Or.inl ⟨by rfl,?_⟩) (d4) (by assumption) ?_
         rotate_left
         ·intro w hSw;(try dsimp only at hSw);go_simp;try with_reducible rfl
         (try simp only [y_,z_]);clear d4;have HS7:=h_ (HS.out.call h7 u7);have HLT:Hid (∀k,At Ak k→k<wD.heap.size):=fun k h=>HKD.out.lt h
         have HGD:Hid (w8.heap.size<wD.heap.size):=HS.out.pat.lt;have HK7:=h_ (HKD.out.upd u7 (fun k h e=>by have h5:=HAT.out k h;have h6:=HS.out.lt;have h7:=HS.out.plt;omega) (fun k _ h e=>by have h6:=HS.out.lt;have h7:=HS.out.plt;omega))
         have HQ7:Hid (PtK w7 (fun k=>w8.heap.size<k∧¬At Ak k) q KA kc):=PtK.mono (fun k _ h=>⟨Nat.lt_of_lt_of_le HGD.out h,fun r=>Nat.lt_irrefl _ (Nat.lt_of_lt_of_le (HLT.out k r) h)⟩) _ _ _ hq
         have HG7:=h_ hg7;have HL7:Hid (y'.left=left):=hl7.trans HL2.out;have HI7:=h_ hi7;have HZ7:=h_ hz7;have HR7:=h_ hr7;clear hq h7 hg7 hl7 hi7 hz7 u7 hr7;refine aR_ (rs:=[4]) (by kernel_rfl) (by simp) ?_;refine aC_ rfl (fun K hK=>?_) aN_;go_simp;have HAL:Hid (Upd Non w7 (w7.alloc (.cells #[.int .i64 q.v,.int .i64 q.op,.int .i64 q.imm,.int .i64 q.iv,.slice KA q.kids.length kc] 38))):=Upd.refl.alloc _
         have HS8:=h_ (HS7.out.non HAL.out);have HK8:=h_ (HK7.out.upd HAL.out (fun _ _ f=>f) (fun _ _ _ f=>f));have HQ8:=h_ (PtK.upd HAL.out (fun _ _ _ f=>f) _ _ _ HQ7.out);obtain ⟨hkn,cs8,hko,hkc⟩:=id HK8.out;refine hK.out _ _ ?_ (fun hHeld=>?_)
         ·exact trivial
         clear hK K;(try simp only [y_,z_]);refine aR_ (rs:=[5]) (by kernel_rfl) (by simp) ?_;refine aC_ rfl (fun K hK=>?_) aN_;refine step_app rfl rfl T_pats rfl hko rfl (Sl.new _ _ _) rfl (by simp [Value.oneCell']) (by simp only [maxLen];omega) (by omega) ?_;intro A8 c8 w10 ho10 hu10 hat10
         have HA8:Hid (∀k,At A8 k→w8.heap.size<k):=fun k h=>by
          rcases hat10 k h with h | h
          ·exact HAT.out k h
          ·have h6:=HS8.out.pat.lt;omega
         have HS10:=h_ (HS8.out.far hu10 (fun k h=>HAT.out k h));have HK10:=h_ (PtO.snoc (G':=fun k=>w8.heap.size<k) HK8.out hkc HQ8.out ho10 hu10 hat10 (fun _ _ h=>h));clear hkn hko hkc ho10 hu10 hat10;have d8:=HS10.out.pat.cell 4;have f8:=HS10.out.pat.frozen 4;refine hK.out _ _ ?_ (fun hHeld=>?_)
         ·exact trivial
         clear hK K;(try simp only [y_,z_]);refine wpT 6 ?_;(try simp only [y_,z_]);refine aR_ (rs:=[7]) (by kernel_rfl) (by simp) ?_;refine aC_ rfl (fun K hK=>?_) aN_;go_simp;have u11:Upd (·=w8.heap.size) w10 (w10.setCell ⟨w8.heap.size,4,none⟩ (.slice A8 (j+1) c8)):=updCell _ _ _ _;have b11:=HS10.out.pat.set_ 4 (.slice A8 (j+1) c8);have HS11:Hid (XAp w (w10.setCell ⟨w8.heap.size,4,none⟩ (.slice A8 (j+1) c8)) w8.heap.size p A c T fin y' #[.int .i64 q0.v,.int .i64 q0.op,.int .i64 q0.imm,.int .i64 q0.iv,.slice A8 (j+1) c8]):=HS10.out.setPat u11 (by simpa using b11)
         have HK11:=h_ (HK10.out.upd u11 (fun k h e=>by have:=HA8.out k h;omega) (fun k _ h e=>by omega));refine hK.out _ _ ?_ (fun hHeld=>?_)
         ·exact trivial
         clear hK K;(try simp only [y_,z_]);refine aD_ (by kernel_rfl) ?_ _;clear d8 f8 u11 b11 hHeld;go_wp2_with fail
         go_roundg (n - (j+1))
         case measure=>rw [Hg.out];omega
         case rel =>
          have hks:=kids_stepX HRK.out H0Y.out (termF_err f) HR7.out HZ.out.1;refine ⟨j+1,A8,c8,ks++[q],y',rfl,by omega,by go_num,HS11.out,HK11.out,HA8.out,HG7.out,HL7.out,hks.1,hks.2,?_,?_⟩
          ·rw [sizeL_snoc];have h5:=HZ.out.1 H0Y.out;have h6:=HZ7.out;omega
          ·have h5:=HZ.out.2.2;have h6:=HI7.out;omega
       | false =>
        have HR2:=h_ (kids_exitX HRK.out hj HD.out);have CE:=h_ (xExpect_c HS1.out.xd [41] (by have:=HG1.out.1;omega));go_wp2_with fail
        refine CE.out.mono ?_;rintro e w6 ⟨rfl,h6,u6⟩;have HS6:=h_ (HS1.out.call h6 u6);have HK6:=h_ (HK.out.upd u6 (fun k h e=>by have h5:=HAT.out k h;have h6:=HS1.out.lt;have h7:=HS1.out.plt;omega) (fun k _ h e=>by have h6:=HS1.out.lt;have h7:=HS1.out.plt;omega))
        have v0:=HS6.out.pat.cell 0;have v1:=HS6.out.pat.cell 1;have v2:=HS6.out.pat.cell 2;have v3:=HS6.out.pat.cell 3;have v4:=HS6.out.pat.cell 4;have HB9:=h_ HS6.out.res;clear CE h6 u6 c3 HT;unfold p0 at HB9;have b9:=HB9.out;have rc0:=b9.cell 0;have rc1:=b9.cell 1;have rc2:=b9.cell 2;have rc3:=b9.cell 3;have rc4:=b9.cell 4;have rcf:=b9.frozen;clear b9;go_wp2_with fail
        rw [set5_eq];have us:=set5_upd w6 w.heap.size (.int .i64 q0.v) (.int .i64 q0.op) (.int .i64 q0.imm) (.int .i64 q0.iv) (.slice Ak j ck);have hkl:ks.length=j:=HK.out.1.symm;refine bodyPost_ret (results_cell_row rfl _ _ w.heap.size 38 _ (0,0) _ rfl (set5_blk HB9.out _ _ _ _ _) Tryz.underlying38 rfl (by kernel_rfl)) rfl ?_;refine ⟨.mk q0.v q0.op q0.imm q0.iv ks,Ak,ck,exY T fin [41] y,by unfold pv;rw [←hkl];rfl,?_,HS6.out.xd.upd us (fun k _ e=>by omega),exY_good HG1.out,by rw [exY_left,HL2.out,hl],?_,?_,HS6.out.upd.trans us (fun k hk e=>by omega),?_⟩
        ·have hpt:PtK w6 (fun k=>w8.heap.size<k) (.mk q0.v q0.op q0.imm q0.iv ks) Ak ck:=HK6.out.view (fun k hk=>HAT.out k hk) (fun k _ q=>q) _ _ _ _;exact PtK.mono (fun k _ q=>by have:=HS6.out.lt;omega) _ _ _ (PtK.upd us (fun k _ q e=>by have:=HS6.out.lt;omega) _ _ _ hpt)
        ·have h5:y.i≤(exY T fin [41] y).i:=exY_i;have h6:=HZ.out.2.2;have h7:=H0I.out;omega
        ·have h5:y.i≤(exY T fin [41] y).i:=exY_i;have h6:=HZ.out.2.1;have h7:=H0I.out;rw [Pt.size_eq];show 1+Pt.sizeL ks+x.i≤_;omega
        ·have h5:=app_finX (f:=f) (left:=left) HW1Y.out HR0.out Hn.out.symm HR2.out HZ.out.1;have e:y1.ps={ x.ps with i:=x.i+1 }:=by rw [HY1.out];rfl
         rw [e] at h5;rw [HR.out];refine ⟨fun _=>?_,fun q=>absurd HK1.out q⟩;have h6:=h5.1 HW1Y.out
         cases hap:appF T fin left f { x.ps with i:=x.i+1 } with
         | error e=>rw [hap] at h6;exact h6
         | ok v =>
          rw [hap] at h6;refine ⟨h6.1,h6.2.1,h6.2.2.1,?_⟩;have h7:=h6.2.2.2;have h8:y1.i=x.i+1:=by rw [HY1.out]
          omega
   ·have HN40:Hid (s≠[40]):=h40;have HR:=h_ (HRB.out (fun a' b' e hb=>by have:=Hm.out;rw [e] at this;exact absurd this.symm h2) HN40.out);clear HRB HTK HNS HNN HS HT hf h40;go_enter Tryz.func125,Tryz.ntmps125;go_wp2_with fail
    refine CO.out.mono ?_;rintro e w2 ⟨rfl,u2⟩;have CN2:=h_ (CN.out _ u2);go_wp2_with fail
    refine CN2.out.mono ?_;rintro e w3 ⟨rfl,h3,u3⟩;have H3:=h_ h3;have U3:Hid (Upd (·=p) w w3):=(upd_eq (HU1.out.then_non u2)).trans u3 (fun _ _ e=>e);have HB3:=h_ ((HB1.out.upd u2 (fun f=>f)).upd u3 (by omega));clear CO CN CN2 h3 u2 u3 e1;go_wp2_with fail
    refine (CP.out w3).mono ?_;rintro e w4 ⟨rfl,rfl⟩;clear CP
    have hfq:(qs.toList==[40])=false:=by
     rw [←Hqs.out,xktl];exact beq_eq_false_iff_ne.2 HN40.out
    have CF:=h_ (fun W (u:Upd Non w4 W)=>xFail_c (H3.out.non u) 2 off);go_wp2_with fail
    refine (CF.out _ (by first | exact Upd.refl | assumption)).mono ?_;rintro e w9 ⟨rfl,h9,u9⟩;have HB9:=h_ (HB3.out.upd u9 (by omega));have H9:=h_ h9;have U9:Hid (Upd (·=p) w w9):=U3.out.trans u9 (fun _ _ e=>e);clear CF h9 u9;unfold p0 at HB9;have b9:=HB9.out;have rc0:=b9.cell 0;have rc1:=b9.cell 1;have rc2:=b9.cell 2;have rc3:=b9.cell 3;have rc4:=b9.cell 4;have rcf:=b9.frozen;clear b9;go_wp2_with fail
    rw [set5_eq];have us:=set5_upd w9 w.heap.size;refine bodyPost_ret (results_cell_row rfl _ _ w.heap.size 38 _ (0,0) _ rfl (set5_blk HB9.out _ _ _ _ _) Tryz.underlying38 rfl (by kernel_rfl)) rfl ?_;refine ⟨.mk 0 0 0 0 [],none,0,y1.fail 2 off,rfl,PtK.leaf,H9.out.upd (us _ _ _ _ _) (fun k _ e=>by omega),HNG.out.1.fail _ _,by rw [xfail_left];exact HNG.out.2.2.1,by rw [xfail_i];exact HNG.out.2.1,?_,U9.out.trans (us _ _ _ _ _) (fun k hk e=>by omega),HR.out⟩
    rw [Pt.size_leaf,xfail_i];have:=HNG.out.2.1;omega
theorem xTerm_any {T:List (Bs×Nat)} {fin:Nat} (hT:XOk T) (left:Bool):∀(f:Nat) {w:World} {p:Nat} {A:Option Addr} {c:Nat} {x:Xs},XdS w p A c T fin x→GoodX T x→x.left=left→(x.why=0→T.length<x.i+(f+1)) →
  Calls Tryz.prog 125 #[.pointer (some ⟨p,0,none⟩)] w (XTermP w p A c T fin x (termF T fin left (f+1) x.ps))
 | 0,_,_,_,_,_,h,hx,hl,hf=>xTerm_c hT left 0 (fun {w p A c x} h hx hl h0 hf=>absurd hx.1 (by omega)) h hx hl hf
 | f+1,_,_,_,_,_,h,hx,hl,hf=>xTerm_c hT left (f+1) (fun {w p A c x} h hx hl h0 hf=>xTerm_any hT left f h hx hl (fun _=>hf)) h hx hl hf
end Go.Proofs.YtifhejahbbnkiaaGreat
