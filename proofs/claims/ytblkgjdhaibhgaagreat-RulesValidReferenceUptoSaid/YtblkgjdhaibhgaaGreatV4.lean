/-
  Lemmas and walks that the claim rests on, part 4 (packed by a program).
-/
import Derived.Test.YtblkgjdhaibhgaaGreatV3
import Derived.Test.YtblkgjdhaibhgaaGreatV2
import Derived.Test.YtblkgjdhaibhgaaGreatV1
namespace Go.Proofs.YtblkgjdhaibhgaaGreat
open Go.RowKit
def XtV (w:World) (F:Nat→Prop) (A:Option Addr) (T:List (Bs×Nat)):Prop :=
 T=[]∨∃b o,A=some ⟨b,o,none⟩∧F b∧∀i (h:i<T.length),w.cell? ⟨b,o+i * 2,none⟩=some (.string (kstr T[i].1))∧w.cell? ⟨b,o+i * 2+1,none⟩=some (.int .i64 T[i].2)
section
variable {w w':World} {F G S:Nat→Prop} {A:Option Addr} {T:List (Bs×Nat)}
theorem XtV.upd (h:XtV w F A T) (u:Upd S w w') (d:∀k,k<w.heap.size→F k→¬S k):XtV w' F A T:=by
 rcases h with h | ⟨b,o,e,hF,h⟩
 ·exact .inl h
 ·refine .inr ⟨b,o,e,hF,fun i hi=>?_⟩;obtain ⟨c0,c1⟩:=h i hi;have hb:=d b (World.block_lt_of_cell? _ _ c0) hF;exact ⟨u_ c0 u hb,u_ c1 u hb⟩
theorem XtV.at_ (h:XtV w F A T) {i:Nat} (hi:i<T.length):∃b o,A=some ⟨b,o,none⟩∧F b∧b<w.heap.size∧w.cell? ⟨b,o+i * 2,none⟩=some (.string (kstr T[i].1))∧w.cell? ⟨b,o+i * 2+1,none⟩=some (.int .i64 T[i].2):=by
 rcases h with h | ⟨b,o,e,hF,h⟩
 ·subst h;simp at hi
 ·exact ⟨b,o,e,hF,World.block_lt_of_cell? _ _ (h i hi).1,h i hi⟩
theorem XtV.mono (h:XtV w F A T) (hFG:∀k,k<w.heap.size→F k→G k):XtV w G A T:=by
 rcases h with h | ⟨b,o,e,hF,h⟩
 ·exact .inl h
 ·by_cases hn:T=[]
  ·exact .inl hn
  ·exact .inr ⟨b,o,e,hFG b (World.block_lt_of_cell? _ _ (h 0 (List.length_pos_iff.2 hn)).1) hF,h⟩
end
theorem xtcells_get:∀(L:List (Bs×Nat)) (i:Nat) (h:i<L.length),(xtcells L)[i * 2]?=some (.string (kstr L[i].1))∧(xtcells L)[i * 2+1]?=some (.int .i64 L[i].2)
 | t::L,0,_=>⟨rfl,rfl⟩
 | t::L,i+1,h=>by
  have:=xtcells_get L i (by simpa using h);rw [show (i+1) * 2=i * 2+1+1 by omega];exact this
theorem xt_view {w:World} {A:Option Addr} {c:Nat} {L:List (Bs×Nat)} (h:Own w 120 2 A L.length c (xtcells L)):XtV w (At A) A L:=by
 rcases Own.cases h with ⟨_,h0,_,_⟩ | ⟨g,cur,rfl,hb,_,_,_,ht⟩
 ·exact .inl (List.eq_nil_of_length_eq_zero h0)
 ·refine .inr ⟨g,0,rfl,At.some_.2 rfl,fun i hi=>?_⟩
  have hcell:∀j u,(xtcells L)[j]?=some u→w.cell? ⟨g,j,none⟩=some u:=by
   intro j u hj;rw [hb.cell];rw [←ht,List.getElem?_take] at hj
   split at hj
   ·simpa using hj
   ·cases hj
  obtain ⟨c0,c1⟩:=xtcells_get L i hi;rw [Nat.zero_add];exact ⟨hcell _ _ c0,hcell _ _ c1⟩
structure Xs where
 i:Nat
 why:Int
 ea:Int
 vs:Bs
 ms:Bs
 left:Bool
def Xs.ps (x:Xs):PS:=⟨x.i,x.vs,x.ms⟩
def xcells (A:Option Addr) (n c fin:Nat) (x:Xs):Array Value:=#[.slice A n c,.int .i64 x.i,.int .i64 fin,.int .i64 x.why,.int .i64 x.ea,.string (kstr x.vs),.string (kstr x.ms),.bool x.left]
structure XdS (w:World) (p:Nat) (A:Option Addr) (c:Nat) (T:List (Bs×Nat)) (fin:Nat) (x:Xs):Prop where
 blk:Blk w p 88 (xcells A T.length c fin x)
 tok:XtV w (fun k=>k<p) A T
 le:T.length≤c
section
variable {w w':World} {p:Nat} {A:Option Addr} {c:Nat} {T:List (Bs×Nat)} {fin:Nat} {x:Xs} {S:Nat→Prop}
theorem XdS.set (h:XdS w p A c T fin x) {y:Xs} (u:Upd (·=p) w w') (b:Blk w' p 88 (xcells A T.length c fin y)):XdS w' p A c T fin y :=
 ⟨b,h.tok.upd u (fun _ _ hk e=>Nat.ne_of_lt hk e),h.le⟩
theorem XdS.upd (h:XdS w p A c T fin x) (u:Upd S w w') (d:∀k,k<w.heap.size→S k→p<k):XdS w' p A c T fin x :=
 ⟨h.blk.upd u (fun s=>Nat.lt_irrefl _ (d p h.blk.lt s)),h.tok.upd u (fun k hk hp s=>Nat.lt_irrefl _ (Nat.lt_trans hp (d k hk s))),h.le⟩
theorem XdS.non (h:XdS w p A c T fin x) (u:Upd Non w w'):XdS w' p A c T fin x :=
 ⟨h.blk.upd u (fun f=>f),h.tok.upd u (fun _ _ _ f=>f),h.le⟩
theorem XdS.cells (h:XdS w p A c T fin x):w.cell? ⟨p,0,none⟩=some (.slice A T.length c)∧w.cell? ⟨p,1,none⟩=some (.int .i64 x.i)∧w.cell? ⟨p,2,none⟩=some (.int .i64 fin)∧w.cell? ⟨p,3,none⟩=some (.int .i64 x.why)∧w.cell? ⟨p,4,none⟩=some (.int .i64 x.ea)∧w.cell? ⟨p,5,none⟩=some (.string (kstr x.vs))∧w.cell? ⟨p,6,none⟩=some (.string (kstr x.ms))∧w.cell? ⟨p,7,none⟩=some (.bool x.left) :=
 ⟨h.blk.cell 0,h.blk.cell 1,h.blk.cell 2,h.blk.cell 3,h.blk.cell 4,h.blk.cell 5,h.blk.cell 6,h.blk.cell 7⟩
end
theorem upd_eq {p:Nat} {w w':World} (u:Upd Non w w'):Upd (·=p) w w':=u.mono (fun _ _ f=>f.elim)
theorem xOffset_c {w:World} {p:Nat} {A:Option Addr} {c:Nat} {T:List (Bs×Nat)} {fin:Nat} {x:Xs} (h:XdS w p A c T fin x) :
  Calls Tryz.prog 68 #[.pointer (some ⟨p,0,none⟩)] w fun e w'=>e=.returned (.int .i64 (offF T fin x.i))∧Upd Non w w':=by
 obtain ⟨c0,c1,c2,c3,c4,c5,c6,c7⟩:=h.cells;have hle:=h.le;obtain ⟨n,Hn⟩:=nm T.length;rw [Hn.out] at c0 hle;obtain ⟨wD,HwD⟩:=nm w.drew;have uD:Upd Non w wD:=by rw [←HwD.out];exact Upd.refl.drew
 by_cases hi:x.i<T.length
 ·obtain ⟨b,o,rfl,hF,hb,t0,t1⟩:=h.tok.at_ hi;have HO:Hid (offF T fin x.i=T[x.i].2):=by show _=_;unfold offF;rw [List.getElem?_eq_getElem hi]
  obtain ⟨r,Hr⟩:=nm (offF T fin x.i);rw [Hr.out] at HO ⊢;rw [←HO.out] at t1;obtain ⟨i,Hi⟩:=nm x.i;rw [Hi.out] at c1 t1;have hin:i<n:=by rw [←Hn.out,←Hi.out];exact hi
  have ti:decide (i<n)=true:=dT_ (by omega);have d0:=u_ c0 uD (fun f=>f);have d1:=u_ c1 uD (fun f=>f);have d2:=u_ t1 uD (fun f=>f);clear h c2 c3 c4 c5 c6 c7 t0 hi HO;go_enter Tryz.func68,Tryz.ntmps68;go_wp2_with fail
  refine wp_region_held_drew (S:=fun w'=>w'.cell? ⟨p,0,none⟩=some (.slice (some ⟨b,o,none⟩) n c)∧w'.cell? ⟨p,1,none⟩=some (.int .i64 i)) (by kernel_rfl) (by rw [HwD.out];exact ⟨d0,d1⟩) (fun hHeld=>?_)
  rw [HwD.out] at hHeld ⊢;refine wpT 0 ?_;(try simp only [y_,z_]);refine wpT 1 ?_;(try simp only [y_,z_]);refine wpT 2 ?_;(try simp only [y_,z_]);refine wpT 3 ?_;(try simp only [y_,z_]);refine wpT 4 ?_;(try simp only [y_,z_]);refine wpT 5 ?_;(try simp only [y_,z_]);refine wpT 6 ?_;(try simp only [y_,z_]);refine wpT 7 ?_;(try simp only [y_,z_]);refine wpT 8 ?_;(try simp only [y_,z_]);refine wpT 9 ?_;(try simp only [y_,z_]);refine aD_ (by kernel_rfl) ?_ _;go_wp2_with fail
  obtain ⟨wE,HwE⟩:=nm wD.drew;have uE:Upd Non wD wE:=by rw [←HwE.out];exact Upd.refl.drew
  refine wp_region_held_drew (S:=fun w'=>w'.cell? ⟨p,0,none⟩=some (.slice (some ⟨b,o,none⟩) n c)∧w'.cell? ⟨p,1,none⟩=some (.int .i64 i)∧w'.cell? ⟨b,o+i * 2+1,none⟩=some (.int .i64 r)) (by kernel_rfl) (by rw [HwE.out];exact ⟨u_ d0 uE (fun f=>f),u_ d1 uE (fun f=>f),u_ d2 uE (fun f=>f)⟩) (fun hHeld2=>?_)
  rw [HwE.out] at hHeld2 ⊢;refine wpT 0 ?_;(try simp only [y_,z_]);refine wpT 1 ?_;(try simp only [y_,z_]);refine wpT 2 ?_;(try simp only [y_,z_]);refine wpT 3 ?_;(try simp only [y_,z_]);refine wpT 4 ?_;(try simp only [y_,z_]);refine wpT 5 ?_;(try simp only [y_,z_]);refine wpT 6 ?_;(try simp only [y_,z_]);refine wpT 7 ?_;(try simp only [y_,z_]);refine wpT 8 ?_;(try simp only [y_,z_]);refine wpT 9 ?_;(try simp only [y_,z_]);refine wpT 10 ?_;(try simp only [y_,z_]);refine wpT 11 ?_;(try simp only [y_,z_]);refine aD_ (by kernel_rfl) ?_ _;go_wp2_with fail
  go_ret;exact ⟨rfl,uD.then_non uE⟩
 ·have HO:Hid (offF T fin x.i=fin):=by show _=_;unfold offF;rw [List.getElem?_eq_none (by omega)]
  rw [HO.out];obtain ⟨i,Hi⟩:=nm x.i;rw [Hi.out] at c1;have hin:¬i<n:=by rw [←Hn.out,←Hi.out];exact hi
  have ti:decide (i<n)=false:=dF_ (by omega);have d0:=u_ c0 uD (fun f=>f);have d1:=u_ c1 uD (fun f=>f);have d2:=u_ c2 uD (fun f=>f);clear h c3 c4 c5 c6 c7 hi HO hin;go_enter Tryz.func68,Tryz.ntmps68;go_wp2_with fail
  refine wp_region_held_drew (S:=fun w'=>w'.cell? ⟨p,0,none⟩=some (.slice A n c)∧w'.cell? ⟨p,1,none⟩=some (.int .i64 i)) (by kernel_rfl) (by rw [HwD.out];exact ⟨d0,d1⟩) (fun hHeld=>?_)
  rw [HwD.out] at hHeld ⊢;refine wpT 0 ?_;(try simp only [y_,z_]);refine wpT 1 ?_;(try simp only [y_,z_]);refine wpT 2 ?_;(try simp only [y_,z_]);refine wpT 3 ?_;(try simp only [y_,z_]);refine wpT 4 ?_;(try simp only [y_,z_]);refine wpT 5 ?_;(try simp only [y_,z_]);refine wpT 6 ?_;(try simp only [y_,z_]);refine wpT 7 ?_;(try simp only [y_,z_]);refine wpT 8 ?_;(try simp only [y_,z_]);refine wpT 9 ?_;(try simp only [y_,z_]);refine aD_ (by kernel_rfl) ?_ _;go_wp2_with fail
  go_ret;exact ⟨rfl,uD⟩
def Xs.fail (x:Xs) (why ea:Int):Xs:=if x.why=0 then { x with why:=why,ea:=ea } else x
theorem xFail_c {w:World} {p:Nat} {A:Option Addr} {c:Nat} {T:List (Bs×Nat)} {fin:Nat} {x:Xs} (h:XdS w p A c T fin x) (why ea:Int) :
  Calls Tryz.prog 67 #[.pointer (some ⟨p,0,none⟩),.int .i64 why,.int .i64 ea] w fun e w'=>e=.returned (.tuple #[])∧XdS w' p A c T fin (x.fail why ea)∧Upd (·=p) w w':=by
 obtain ⟨c0,c1,c2,c3,c4,c5,c6,c7⟩:=h.cells;have hf:=h.blk.frozen;have H:=h_ h;obtain ⟨n,Hn⟩:=nm x.why;rw [Hn.out] at c3;clear h;by_cases hz:n=0
 ·have e:x.fail why ea={ x with why:=why,ea:=ea }:=if_pos (by rw [Hn.out];exact hz);subst hz;go_enter Tryz.func67,Tryz.ntmps67;go_wp2_with fail
  go_end0
  refine ⟨rfl,?_,(updCell _ _ _ _).trans (updCell _ _ _ _) (fun _ _ h=>h)⟩;rw [e];refine H.out.set ((updCell _ _ _ _).trans (updCell _ _ _ _) (fun _ _ h=>h)) ?_;have:=(H.out.blk.set_ 3 (.int .i64 why)).set_ 4 (.int .i64 ea);simpa [xcells] using this
 ·have e:x.fail why ea=x:=if_neg (by rw [Hn.out];exact hz);have fz:(n==0)=false:=by simpa using hz
  go_enter Tryz.func67,Tryz.ntmps67;go_wp2_with fail
  go_end0
  exact ⟨rfl,by rw [e];exact H.out,Upd.refl⟩
def nxS (T:List (Bs×Nat)) (x:Xs):Bs:=if x.why=0 then (tkF T x.i).getD [] else []
def nxY (T:List (Bs×Nat)) (fin:Nat) (x:Xs):Xs:=if x.why=0∧x.i<T.length then { x with i:=x.i+1 } else x.fail 2 (offF T fin x.i)
set_option maxHeartbeats 2000000 in
theorem xNext_c {w:World} {p:Nat} {A:Option Addr} {c:Nat} {T:List (Bs×Nat)} {fin:Nat} {x:Xs} (h:XdS w p A c T fin x) (hi:x.i≤100000) :
  Calls Tryz.prog 69 #[.pointer (some ⟨p,0,none⟩)] w fun e w'=>e=.returned (.string (kstr (nxS T x)))∧XdS w' p A c T fin (nxY T fin x)∧Upd (·=p) w w':=by
 obtain ⟨c0,c1,c2,c3,c4,c5,c6,c7⟩:=h.cells;have hle:=h.le;obtain ⟨wD,HwD⟩:=nm w.drew;have uD:Upd Non w wD:=by rw [←HwD.out];exact Upd.refl.drew
 have hD:=h.non uD;have CO:=h_ (xOffset_c hD);have CF:=h_ (fun W (u:Upd Non wD W)=>xFail_c (hD.non u) 2 (offF T fin x.i));have H:=h_ h;have HD:=h_ hD;have HS:Hid (nxS T x=if x.why=0 then (tkF T x.i).getD [] else []):=rfl;have HY:Hid (nxY T fin x=if x.why=0∧x.i<T.length then { x with i:=x.i+1 } else x.fail 2 (offF T fin x.i)):=rfl;by_cases hi2:x.why=0∧x.i<T.length
 ·have HY2:Hid (nxY T fin x={ x with i:=x.i+1 }):=by show _=_;rw [HY.out,if_pos hi2]
  have HS2:Hid (nxS T x=T[x.i].1):=by show _=_;rw [HS.out,if_pos hi2.1];unfold tkF;rw [List.getElem?_eq_getElem hi2.2];rfl
  obtain ⟨b,o,rfl,hF,hb,t0,t1⟩:=h.tok.at_ hi2.2;rw [HS2.out];rw [hi2.1] at c3;generalize T[x.i].1=s at *;have hit:=hi2.2;obtain ⟨n,Hn⟩:=nm T.length;rw [Hn.out] at c0 hle hit;obtain ⟨i,Hi⟩:=nm x.i;rw [Hi.out] at c1 hi t0 hit;have ti:decide (n≤i)=false:=dF_ (by omega);have wi:IntKind.i64.wrap (i:Int)=(i:Int):=i64w_of (by unfold I64;omega);have d0:=u_ c0 uD (fun f=>f);have d1:=u_ c1 uD (fun f=>f);have d3:=u_ c3 uD (fun f=>f);have dt:=u_ t0 uD (fun f=>f);have df:=hD.blk.frozen;obtain ⟨W1,HW1⟩:=nm (wD.setCell ⟨p,1,none⟩ (.int .i64 ((i:Int)+1)));have u1:Upd (·=p) wD W1:=by rw [←HW1.out];exact updCell _ _ _ _
  have hY:XdS W1 p (some ⟨b,o,none⟩) c T fin (nxY T fin x):=by
   rw [HY2.out];refine hD.set u1 ?_;have:=hD.blk.set_ 1 (.int .i64 ((i:Int)+1));rw [HW1.out] at this;simpa [xcells,Hi.out] using this
  have HYY:=h_ hY;have e0:=(HYY.out.cells).1;have e1:=(HYY.out.cells).2.1;rw [HY2.out,Hi.out,show ((i+1:Nat):Int)=(i:Int)+1 by omega] at e1;rw [Hn.out] at e0;have et:=u_ dt u1 (Nat.ne_of_lt hF);have E1:=HW1.out;clear h hD c0 c1 c2 c3 c4 c5 c6 c7 t0 t1 CO CF hY HS HY;go_enter Tryz.func69,Tryz.ntmps69;go_wp2_with fail
  refine wp_region_held_drew (S:=fun w'=>w'.cell? ⟨p,0,none⟩=some (.slice (some ⟨b,o,none⟩) n c)∧w'.cell? ⟨p,1,none⟩=some (.int .i64 i)∧w'.cell? ⟨p,3,none⟩=some (.int .i64 0)) (by kernel_rfl) (by rw [HwD.out];exact ⟨d0,d1,d3⟩) (fun hHeld=>?_)
  rw [HwD.out] at hHeld ⊢;refine wpT 0 ?_;(try simp only [y_,z_]);refine wpT 1 ?_;(try simp only [y_,z_]);refine wpT 2 ?_;(try simp only [y_,z_]);refine wpT 3 ?_;(try simp only [y_,z_]);refine wpT 4 ?_;(try simp only [y_,z_]);refine wpT 5 ?_;(try simp only [y_,z_]);refine wpT 6 ?_;(try simp only [y_,z_]);refine wpT 7 ?_;(try simp only [y_,z_]);refine wpT 8 ?_;(try simp only [y_,z_]);refine wpT 9 ?_;(try simp only [y_,z_]);refine wpT 10 ?_;(try simp only [y_,z_]);refine wpT 11 ?_;(try simp only [y_,z_]);refine wpT 12 ?_;(try simp only [y_,z_]);refine wpT 13 ?_;(try simp only [y_,z_]);refine wpT 14 ?_;(try simp only [y_,z_]);refine wpT 15 ?_;(try simp only [y_,z_]);refine wpT 16 ?_;(try simp only [y_,z_]);refine wpT 17 ?_;(try simp only [y_,z_]);refine aD_ (by kernel_rfl) ?_ _;go_wp2_with fail
  obtain ⟨wE,HwE⟩:=nm W1.drew;have uE:Upd Non W1 wE:=by rw [←HwE.out];exact Upd.refl.drew
  refine wp_region_held_drew (S:=fun w'=>w'.cell? ⟨p,0,none⟩=some (.slice (some ⟨b,o,none⟩) n c)∧w'.cell? ⟨p,1,none⟩=some (.int .i64 ((i:Int)+1))∧w'.cell? ⟨b,o+i * 2,none⟩=some (.string (kstr s))) (by kernel_rfl) (by rw [HwE.out];exact ⟨u_ e0 uE (fun f=>f),u_ e1 uE (fun f=>f),u_ et uE (fun f=>f)⟩) (fun hHeld2=>?_)
  rw [HwE.out] at hHeld2 ⊢;refine wpT 0 ?_;(try simp only [y_,z_]);refine wpT 1 ?_;(try simp only [y_,z_]);refine wpT 2 ?_;(try simp only [y_,z_]);refine wpT 3 ?_;(try simp only [y_,z_]);refine wpT 4 ?_;(try simp only [y_,z_]);refine wpT 5 ?_;(try simp only [y_,z_]);refine wpT 6 ?_;(try simp only [y_,z_]);refine wpT 7 ?_;(try simp only [y_,z_]);refine wpT 8 ?_;(try simp only [y_,z_]);refine wpT 9 ?_;(try simp only [y_,z_]);refine wpT 10 ?_;(try simp only [y_,z_]);refine wpT 11 ?_;(try simp only [y_,z_]);refine wpT 12 ?_;(try simp only [y_,z_]);refine aD_ (by kernel_rfl) ?_ _;go_wp2_with fail
  go_ret;exact ⟨rfl,HYY.out.non uE,((upd_eq uD).trans u1 (fun _ _ h=>h)).then_non uE⟩
 ·have HY2:Hid (nxY T fin x=x.fail 2 (offF T fin x.i)):=by show _=_;rw [HY.out,if_neg hi2]
  have HS2:Hid (nxS T x=[]):=by
   show _=_;rw [HS.out]
   split
   ·rename_i q;unfold tkF;rw [List.getElem?_eq_none (by have : ¬x.i<T.length:=fun r=>hi2 ⟨q,r⟩;omega)];rfl
   ·rfl
  rw [HS2.out];have e:kstr []=({ data:=#[] }:ByteArray):=rfl;rw [e];have HNW:Hid (¬(x.why=0∧x.i<T.length)):=hi2;obtain ⟨r,Hr⟩:=nm (offF T fin x.i);rw [Hr.out] at CO CF HY2;obtain ⟨n,Hn⟩:=nm T.length;rw [Hn.out] at c0 hle HNW;obtain ⟨i,Hi⟩:=nm x.i;rw [Hi.out] at c1 hi HNW;obtain ⟨z,Hz⟩:=nm x.why;rw [Hz.out] at c3 HNW;have d0:=u_ c0 uD (fun f=>f);have d1:=u_ c1 uD (fun f=>f);have d3:=u_ c3 uD (fun f=>f);clear h hD c0 c1 c2 c3 c4 c5 c6 c7 HS HY hi2 e;by_cases hz:z=0
  ·subst hz;have hge:¬i<n:=fun q=>HNW.out ⟨rfl,q⟩
   have ti:decide (n≤i)=true:=dT_ (by omega);clear hge;go_enter Tryz.func69,Tryz.ntmps69;go_wp2_with fail
   refine wp_region_held_drew (S:=fun w'=>w'.cell? ⟨p,0,none⟩=some (.slice A n c)∧w'.cell? ⟨p,1,none⟩=some (.int .i64 i)∧w'.cell? ⟨p,3,none⟩=some (.int .i64 0)) (by kernel_rfl) (by rw [HwD.out];exact ⟨d0,d1,d3⟩) (fun hHeld=>?_)
   rw [HwD.out] at hHeld ⊢;refine wpT 0 ?_;(try simp only [y_,z_]);refine wpT 1 ?_;(try simp only [y_,z_]);refine wpT 2 ?_;(try simp only [y_,z_]);refine wpT 3 ?_;(try simp only [y_,z_]);refine wpT 4 ?_;(try simp only [y_,z_]);refine wpT 5 ?_;(try simp only [y_,z_]);refine wpT 6 ?_;(try simp only [y_,z_]);refine wpT 7 ?_;(try simp only [y_,z_]);refine wpT 8 ?_;(try simp only [y_,z_]);refine wpT 9 ?_;(try simp only [y_,z_]);refine wpT 10 ?_;(try simp only [y_,z_]);refine wpT 11 ?_;(try simp only [y_,z_]);refine wpT 12 ?_;(try simp only [y_,z_]);refine wpT 13 ?_;(try simp only [y_,z_]);refine wpT 14 ?_;(try simp only [y_,z_]);refine wpT 15 ?_;(try simp only [y_,z_]);refine wpT 16 ?_;(try simp only [y_,z_]);refine wpT 17 ?_;(try simp only [y_,z_]);refine aD_ (by kernel_rfl) ?_ _;go_wp2_with fail
   refine CO.out.mono ?_;rintro e w3 ⟨rfl,u3⟩;have CF3:=h_ (CF.out _ u3);go_wp2_with fail
   refine CF3.out.mono ?_;rintro e w4 ⟨rfl,h4,u4⟩;go_wp2_with fail
   go_ret;exact ⟨rfl,by rw [HY2.out];exact h4,(upd_eq (uD.then_non u3)).trans u4 (fun _ _ h=>h)⟩
  ·have fz:(z != 0)=true:=by simpa using hz
   clear hz;go_enter Tryz.func69,Tryz.ntmps69;go_wp2_with fail
   refine wp_region_held_drew (S:=fun w'=>w'.cell? ⟨p,0,none⟩=some (.slice A n c)∧w'.cell? ⟨p,1,none⟩=some (.int .i64 i)∧w'.cell? ⟨p,3,none⟩=some (.int .i64 z)) (by kernel_rfl) (by rw [HwD.out];exact ⟨d0,d1,d3⟩) (fun hHeld=>?_)
   rw [HwD.out] at hHeld ⊢;refine wpT 0 ?_;(try simp only [y_,z_]);refine wpT 1 ?_;(try simp only [y_,z_]);refine wpT 2 ?_;(try simp only [y_,z_]);refine wpT 3 ?_;(try simp only [y_,z_]);refine wpT 4 ?_;(try simp only [y_,z_]);refine wpT 5 ?_;(try simp only [y_,z_]);refine wpT 6 ?_;(try simp only [y_,z_]);refine wpU 7 ?_;(try simp only [y_,z_]);refine wpU 8 ?_;(try simp only [y_,z_]);refine wpU 9 ?_;(try simp only [y_,z_]);refine wpU 10 ?_;(try simp only [y_,z_]);refine wpU 11 ?_;(try simp only [y_,z_]);refine wpU 12 ?_;(try simp only [y_,z_]);refine wpU 13 ?_;(try simp only [y_,z_]);refine wpU 14 ?_;(try simp only [y_,z_]);refine wpU 15 ?_;(try simp only [y_,z_]);refine wpU 16 ?_;(try simp only [y_,z_]);refine wpT 17 ?_;(try simp only [y_,z_]);refine aD_ (by kernel_rfl) ?_ _;go_wp2_with fail
   refine CO.out.mono ?_;rintro e w3 ⟨rfl,u3⟩;have CF3:=h_ (CF.out _ u3);go_wp2_with fail
   refine CF3.out.mono ?_;rintro e w4 ⟨rfl,h4,u4⟩;go_wp2_with fail
   go_ret;exact ⟨rfl,by rw [HY2.out];exact h4,(upd_eq (uD.then_non u3)).trans u4 (fun _ _ h=>h)⟩
set_option maxHeartbeats 2000000 in
theorem xAt_c {w:World} {p:Nat} {A:Option Addr} {c:Nat} {T:List (Bs×Nat)} {fin:Nat} {x:Xs} (h:XdS w p A c T fin x) (s:Bs) :
  Calls Tryz.prog 66 #[.pointer (some ⟨p,0,none⟩),.string (kstr s)] w fun e w'=>e=.returned (.bool (x.why==0&&decide (tkF T x.i=some s)))∧Upd Non w w':=by
 obtain ⟨c0,c1,c2,c3,c4,c5,c6,c7⟩:=h.cells;have hle:=h.le;obtain ⟨wD,HwD⟩:=nm w.drew;have uD:Upd Non w wD:=by rw [←HwD.out];exact Upd.refl.drew
 obtain ⟨R,HR⟩:=nm (x.why==0&&decide (tkF T x.i=some s));rw [HR.out];obtain ⟨q,Hq⟩:=nm (kstr s);have c0:=u_ c0 uD (fun f=>f);have c1:=u_ c1 uD (fun f=>f);have c3:=u_ c3 uD (fun f=>f);by_cases hi:x.i<T.length
 ·obtain ⟨b,o,rfl,hF,hb,t0,t1⟩:=h.tok.at_ hi;have t0:=u_ t0 uD (fun f=>f);have e:tkF T x.i=some T[x.i].1:=by unfold tkF;rw [List.getElem?_eq_getElem hi];rfl
  rw [e] at HR;generalize T[x.i].1=t at *;obtain ⟨D,HD⟩:=nm (decide (t=s));have hD:((kstr t).toList==(kstr s).toList)=D:=by rw [str_beq,HD.out]
  have HR2:Hid ((x.why==0&&D)=R):=by
   show _=_;rw [←HR.out,←HD.out];simp
  rw [Hq.out] at hD ⊢;obtain ⟨qt,Hqt⟩:=nm (kstr t);rw [Hqt.out] at hD t0;obtain ⟨n,Hn⟩:=nm T.length;rw [Hn.out] at c0 hle hi;obtain ⟨i,Hi⟩:=nm x.i;rw [Hi.out] at c1 hi t0;obtain ⟨z,Hz⟩:=nm x.why;rw [Hz.out] at c3 HR2;have ti:decide (i<n)=true:=dT_ (by omega);clear h c2 c4 c5 c6 c7 t1 e HR;go_enter Tryz.func66,Tryz.ntmps66;go_wp2_with fail
  refine wp_region_held_drew (S:=fun w'=>w'.cell? ⟨p,0,none⟩=some (.slice (some ⟨b,o,none⟩) n c)∧w'.cell? ⟨p,1,none⟩=some (.int .i64 i)∧w'.cell? ⟨p,3,none⟩=some (.int .i64 z)∧w'.cell? ⟨b,o+i * 2,none⟩=some (.string qt)) (by kernel_rfl) (by rw [HwD.out];exact ⟨c0,c1,c3,t0⟩) (fun hHeld=>?_)
  rw [HwD.out] at hHeld ⊢;by_cases hz:z=0
  ·subst hz;obtain rfl:D=R:=by rw [←HR2.out];rfl
   refine wpT 0 ?_;(try simp only [y_,z_]);refine wpT 1 ?_;(try simp only [y_,z_]);refine wpT 2 ?_;(try simp only [y_,z_]);refine wpT 3 ?_;(try simp only [y_,z_]);refine wpT 4 ?_;(try simp only [y_,z_]);refine wpT 5 ?_;(try simp only [y_,z_]);refine wpT 6 ?_;(try simp only [y_,z_]);refine wpT 7 ?_;(try simp only [y_,z_]);refine wpT 8 ?_;(try simp only [y_,z_]);refine wpT 9 ?_;(try simp only [y_,z_]);refine wpT 10 ?_;(try simp only [y_,z_]);refine wpT 11 ?_;(try simp only [y_,z_]);refine wpT 12 ?_;(try simp only [y_,z_]);refine wpT 13 ?_;(try simp only [y_,z_]);refine wpT 14 ?_;(try simp only [y_,z_]);refine wpT 15 ?_;(try simp only [y_,z_]);refine wpT 16 ?_;(try simp only [y_,z_]);refine wpT 17 ?_;(try simp only [y_,z_]);refine wpT 18 ?_;(try simp only [y_,z_]);refine wpT 19 ?_;(try simp only [y_,z_]);refine wpT 20 ?_;(try simp only [y_,z_]);refine wpT 21 ?_;(try simp only [y_,z_]);refine wpT 22 ?_;(try simp only [y_,z_]);refine wpT 23 ?_;(try simp only [y_,z_]);refine wpT 24 ?_;(try simp only [y_,z_])
   refine wpT 25 ?_;(try simp only [y_,z_]);refine wpT 26 ?_;(try simp only [y_,z_]);refine wpT 27 ?_;(try simp only [y_,z_]);refine wpT 28 ?_;(try simp only [y_,z_]);refine wpT 29 ?_;(try simp only [y_,z_]);refine wpT 30 ?_;(try simp only [y_,z_]);refine wpT 31 ?_;(try simp only [y_,z_]);refine wpT 32 ?_;(try simp only [y_,z_]);refine wpT 33 ?_;(try simp only [y_,z_]);refine aD_ (by kernel_rfl) ?_ _;go_wp2_with fail
   go_ret;exact ⟨rfl,uD⟩
  ·have fz:(z==0)=false:=by simpa using hz
   obtain rfl:R=false:=by rw [←HR2.out,fz];rfl
   refine wpT 0 ?_;(try simp only [y_,z_]);refine wpT 1 ?_;(try simp only [y_,z_]);refine wpT 2 ?_;(try simp only [y_,z_]);refine wpT 3 ?_;(try simp only [y_,z_]);refine wpT 4 ?_;(try simp only [y_,z_]);refine wpT 5 ?_;(try simp only [y_,z_]);refine wpT 6 ?_;(try simp only [y_,z_]);refine wpU 7 ?_;(try simp only [y_,z_]);refine wpU 8 ?_;(try simp only [y_,z_]);refine wpU 9 ?_;(try simp only [y_,z_]);refine wpU 10 ?_;(try simp only [y_,z_]);refine wpU 11 ?_;(try simp only [y_,z_]);refine wpU 12 ?_;(try simp only [y_,z_]);refine wpU 13 ?_;(try simp only [y_,z_]);refine wpU 14 ?_;(try simp only [y_,z_]);refine wpU 15 ?_;(try simp only [y_,z_]);refine wpU 16 ?_;(try simp only [y_,z_]);refine wpT 17 ?_;(try simp only [y_,z_]);refine wpT 18 ?_;(try simp only [y_,z_]);refine wpU 19 ?_;(try simp only [y_,z_]);refine wpU 20 ?_;(try simp only [y_,z_]);refine wpU 21 ?_;(try simp only [y_,z_]);refine wpU 22 ?_;(try simp only [y_,z_]);refine wpU 23 ?_;(try simp only [y_,z_]);refine wpU 24 ?_;(try simp only [y_,z_])
   refine wpU 25 ?_;(try simp only [y_,z_]);refine wpU 26 ?_;(try simp only [y_,z_]);refine wpU 27 ?_;(try simp only [y_,z_]);refine wpU 28 ?_;(try simp only [y_,z_]);refine wpU 29 ?_;(try simp only [y_,z_]);refine wpU 30 ?_;(try simp only [y_,z_]);refine wpU 31 ?_;(try simp only [y_,z_]);refine wpT 32 ?_;(try simp only [y_,z_]);refine wpT 33 ?_;(try simp only [y_,z_]);refine aD_ (by kernel_rfl) ?_ _;go_wp2_with fail
   go_ret;exact ⟨rfl,uD⟩
 ·have e:tkF T x.i=none:=by unfold tkF;rw [List.getElem?_eq_none (by omega)];rfl
  rw [e] at HR;obtain rfl:R=false:=by rw [←HR.out];simp
  rw [Hq.out];obtain ⟨n,Hn⟩:=nm T.length;rw [Hn.out] at c0 hle hi;obtain ⟨i,Hi⟩:=nm x.i;rw [Hi.out] at c1 hi;obtain ⟨z,Hz⟩:=nm x.why;rw [Hz.out] at c3;have ti:decide (i<n)=false:=dF_ (by omega);clear h c2 c4 c5 c6 c7 e HR hi;go_enter Tryz.func66,Tryz.ntmps66;go_wp2_with fail
  refine wp_region_held_drew (S:=fun w'=>w'.cell? ⟨p,0,none⟩=some (.slice A n c)∧w'.cell? ⟨p,1,none⟩=some (.int .i64 i)∧w'.cell? ⟨p,3,none⟩=some (.int .i64 z)) (by kernel_rfl) (by rw [HwD.out];exact ⟨c0,c1,c3⟩) (fun hHeld=>?_)
  rw [HwD.out] at hHeld ⊢;by_cases hz:z=0
  ·subst hz;refine wpT 0 ?_;(try simp only [y_,z_]);refine wpT 1 ?_;(try simp only [y_,z_]);refine wpT 2 ?_;(try simp only [y_,z_]);refine wpT 3 ?_;(try simp only [y_,z_]);refine wpT 4 ?_;(try simp only [y_,z_]);refine wpT 5 ?_;(try simp only [y_,z_]);refine wpT 6 ?_;(try simp only [y_,z_]);refine wpT 7 ?_;(try simp only [y_,z_]);refine wpT 8 ?_;(try simp only [y_,z_]);refine wpT 9 ?_;(try simp only [y_,z_]);refine wpT 10 ?_;(try simp only [y_,z_]);refine wpT 11 ?_;(try simp only [y_,z_]);refine wpT 12 ?_;(try simp only [y_,z_]);refine wpT 13 ?_;(try simp only [y_,z_]);refine wpT 14 ?_;(try simp only [y_,z_]);refine wpT 15 ?_;(try simp only [y_,z_]);refine wpT 16 ?_;(try simp only [y_,z_]);refine wpT 17 ?_;(try simp only [y_,z_]);refine wpT 18 ?_;(try simp only [y_,z_]);refine wpU 19 ?_;(try simp only [y_,z_]);refine wpU 20 ?_;(try simp only [y_,z_]);refine wpU 21 ?_;(try simp only [y_,z_]);refine wpU 22 ?_;(try simp only [y_,z_]);refine wpU 23 ?_;(try simp only [y_,z_]);refine wpU 24 ?_
   (try simp only [y_,z_]);refine wpU 25 ?_;(try simp only [y_,z_]);refine wpU 26 ?_;(try simp only [y_,z_]);refine wpU 27 ?_;(try simp only [y_,z_]);refine wpU 28 ?_;(try simp only [y_,z_]);refine wpU 29 ?_;(try simp only [y_,z_]);refine wpU 30 ?_;(try simp only [y_,z_]);refine wpU 31 ?_;(try simp only [y_,z_]);refine wpT 32 ?_;(try simp only [y_,z_]);refine wpT 33 ?_;(try simp only [y_,z_]);refine aD_ (by kernel_rfl) ?_ _;go_wp2_with fail
   go_ret;exact ⟨rfl,uD⟩
  ·have fz:(z==0)=false:=by simpa using hz
   refine wpT 0 ?_;(try simp only [y_,z_]);refine wpT 1 ?_;(try simp only [y_,z_]);refine wpT 2 ?_;(try simp only [y_,z_]);refine wpT 3 ?_;(try simp only [y_,z_]);refine wpT 4 ?_;(try simp only [y_,z_]);refine wpT 5 ?_;(try simp only [y_,z_]);refine wpT 6 ?_;(try simp only [y_,z_]);refine wpU 7 ?_;(try simp only [y_,z_]);refine wpU 8 ?_;(try simp only [y_,z_]);refine wpU 9 ?_;(try simp only [y_,z_]);refine wpU 10 ?_;(try simp only [y_,z_]);refine wpU 11 ?_;(try simp only [y_,z_]);refine wpU 12 ?_;(try simp only [y_,z_]);refine wpU 13 ?_;(try simp only [y_,z_]);refine wpU 14 ?_;(try simp only [y_,z_]);refine wpU 15 ?_;(try simp only [y_,z_]);refine wpU 16 ?_;(try simp only [y_,z_]);refine wpT 17 ?_;(try simp only [y_,z_]);refine wpT 18 ?_;(try simp only [y_,z_]);refine wpU 19 ?_;(try simp only [y_,z_]);refine wpU 20 ?_;(try simp only [y_,z_]);refine wpU 21 ?_;(try simp only [y_,z_]);refine wpU 22 ?_;(try simp only [y_,z_]);refine wpU 23 ?_;(try simp only [y_,z_]);refine wpU 24 ?_;(try simp only [y_,z_])
   refine wpU 25 ?_;(try simp only [y_,z_]);refine wpU 26 ?_;(try simp only [y_,z_]);refine wpU 27 ?_;(try simp only [y_,z_]);refine wpU 28 ?_;(try simp only [y_,z_]);refine wpU 29 ?_;(try simp only [y_,z_]);refine wpU 30 ?_;(try simp only [y_,z_]);refine wpU 31 ?_;(try simp only [y_,z_]);refine wpT 32 ?_;(try simp only [y_,z_]);refine wpT 33 ?_;(try simp only [y_,z_]);refine aD_ (by kernel_rfl) ?_ _;go_wp2_with fail
   go_ret;exact ⟨rfl,uD⟩
def exY (T:List (Bs×Nat)) (fin:Nat) (s:Bs) (x:Xs):Xs:=if x.why=0∧tkF T x.i=some s then { x with i:=x.i+1 } else x.fail 2 (offF T fin x.i)
theorem xExpect_c {w:World} {p:Nat} {A:Option Addr} {c:Nat} {T:List (Bs×Nat)} {fin:Nat} {x:Xs} (h:XdS w p A c T fin x) (s:Bs) (hi:x.i≤100000) :
  Calls Tryz.prog 71 #[.pointer (some ⟨p,0,none⟩),.string (kstr s)] w fun e w'=>e=.returned (.tuple #[])∧XdS w' p A c T fin (exY T fin s x)∧Upd (·=p) w w':=by
 have CA:=h_ (xAt_c h s);have CO:=h_ (fun W (u:Upd Non w W)=>xOffset_c (h.non u));have CF:=h_ (fun W (u:Upd Non w W)=>xFail_c (h.non u) 2 (offF T fin x.i));have H:=h_ h;have HE:Hid (exY T fin s x=if x.why=0∧tkF T x.i=some s then { x with i:=x.i+1 } else x.fail 2 (offF T fin x.i)):=rfl;obtain ⟨Y,HY⟩:=nm (exY T fin s x);rw [HY.out] at HE ⊢;obtain ⟨D,HD⟩:=nm (x.why==0&&decide (tkF T x.i=some s));rw [HD.out] at CA;obtain ⟨r,Hr⟩:=nm (offF T fin x.i);rw [Hr.out] at CO CF HE;obtain ⟨q,Hq⟩:=nm (kstr s);rw [Hq.out] at CA ⊢;clear h
 cases D with
 | false =>
  have HY2:Hid (Y=x.fail 2 r):=by
   show _=_;rw [HE.out,if_neg];intro ⟨h1,h2⟩;have:=HD.out;rw [h1,h2] at this;simp at this
  clear HE HD HY;go_enter Tryz.func71,Tryz.ntmps71;go_wp2_with fail
  refine CA.out.mono ?_;rintro e w2 ⟨rfl,u2⟩;have CO2:=h_ (CO.out _ u2);go_wp2_with fail
  refine CO2.out.mono ?_;rintro e w3 ⟨rfl,u3⟩;have CF3:=h_ (CF.out _ (u2.then_non u3));go_wp2_with fail
  refine CF3.out.mono ?_;rintro e w4 ⟨rfl,h4,u4⟩;go_wp2_with fail
  refine bodyPost_ret (results_none rfl _ _ _) rfl ?_;exact ⟨rfl,by rw [HY2.out];exact h4,(upd_eq (u2.then_non u3)).trans u4 (fun _ _ h=>h)⟩
 | true =>
  have HY2:Hid (Y={ x with i:=x.i+1 }):=by
   show _=_;have hd:=HD.out;simp only [Bool.and_eq_true,beq_iff_eq,decide_eq_true_eq] at hd;rw [HE.out,if_pos hd]
  clear HE HD CO CF HY;go_enter Tryz.func71,Tryz.ntmps71;go_wp2_with fail
  refine CA.out.mono ?_;rintro e w2 ⟨rfl,u2⟩;have h2:=H.out.non u2;obtain ⟨c0,c1,c2,c3,c4,c5,c6,c7⟩:=h2.cells;have cf:=h2.blk.frozen;have H2:=h_ h2;obtain ⟨i,Hi⟩:=nm x.i;rw [Hi.out] at c1 hi;clear h2 CA;go_wp2_with fail
  go_end0
  refine ⟨rfl,?_,(upd_eq u2).trans (updCell _ _ _ _) (fun _ _ h=>h)⟩;rw [HY2.out];refine H2.out.set (updCell _ _ _ _) ?_;have:=H2.out.blk.set_ 1 (.int .i64 ((i:Int)+1));simpa [xcells,Hi.out] using this
def isLt (l:Bs):Bool:=match l with | [c]=>isLw c | _=>false
theorem xIsLetter_c (s:ByteArray) (w:World):Calls Tryz.prog 105 #[.string s] w fun e w'=>e=.returned (.bool (isLt (kx s)))∧w'=w:=by
 have HL:Hid (isLt (kx s)=(decide (s.size=1)&&isLw ((kx s).getD 0 0))):=by
  show _=_;rw [←kx_len]
  match kx s with
  | []=>rfl
  | [c]=>simp [isLt]
  | c::d::l=>simp [isLt]
 obtain ⟨R,HR⟩:=nm (isLt (kx s));rw [HR.out] at HL ⊢;obtain ⟨n,Hn⟩:=nm s.size;rw [Hn.out] at HL;by_cases h1:n=1
 ·have i1:=fun W=>run_at_str Hn.out (show 0<n by omega) W
  rw [show ((0:Nat):Int)=0 from rfl] at i1;have HW:Hid (isLw ((kx s).getD 0 0)=decide (97≤((kx s).getD 0 0).toNat∧((kx s).getD 0 0).toNat≤122)):=rfl;rw [HW.out] at HL;clear HW;generalize ((kx s).getD 0 0).toNat=y at i1 HL;subst h1;have f0:(((s.size:Nat):Int)==1)=true:=by rw [Hn.out];rfl
  by_cases h2:97≤y
  ·have f1:decide ((97:Int)≤(y:Int))=true:=dT_ (by omega);obtain ⟨b,f2⟩:∃b,decide ((y:Int)≤122)=b:=⟨_,rfl⟩
   obtain rfl:R=b:=by
    rw [HL.out,←f2];simp only [h2,true_and,decide_true,Bool.true_and];rw [Bool.eq_iff_iff,decide_eq_true_eq,decide_eq_true_eq];omega
   clear HL;go_enter Tryz.func105,Tryz.ntmps105;go_wp2_with fail
   go_ret;exact ⟨rfl,rfl⟩
  ·have f1:decide ((97:Int)≤(y:Int))=false:=dF_ (by omega);obtain rfl:R=false:=by rw [HL.out];simp [h2]
   clear HL;go_enter Tryz.func105,Tryz.ntmps105;go_wp2_with fail
   go_ret;exact ⟨rfl,rfl⟩
 ·have f1:(((s.size:Nat):Int)==1)=false:=by rw [Hn.out];simp;omega
  obtain rfl:R=false:=by rw [HL.out];simp [h1]
  clear HL;go_enter Tryz.func105,Tryz.ntmps105;go_wp2_with fail
  go_ret;exact ⟨rfl,rfl⟩
def xvY (x:Xs) (pos:Int) (y:Bs→Xs) (K:Nat×Bs):Xs:=if K.1=0 then x.fail 2 pos else y K.2
set_option maxRecDepth 100000 in
set_option maxHeartbeats 4000000 in
theorem xVariable_g {w:World} {p:Nat} {A:Option Addr} {c:Nat} {T:List (Bs×Nat)} {fin:Nat} {x:Xs} (h:XdS w p A c T fin x) (o:Nat) (vs:Bs) (y:Bs→Xs) (hcell:(xcells A T.length c fin x)[o]?=some (.string (kstr vs))) (hset:∀v,(xcells A T.length c fin x).setIfInBounds o (.string (kstr v))=xcells A T.length c fin (y v)) (hn:vs.length≤100000) (ch:UInt8) (pos:Int) :
  Calls Tryz.prog 106 #[.pointer (some ⟨p,0,none⟩),.pointer (some ⟨p,o,none⟩),.string (kstr [ch]),.int .i64 pos] w fun e w'=>e=.returned (.int .i64 (lookF vs ch x.left).1)∧XdS w' p A c T fin (xvY x pos y (lookF vs ch x.left))∧Upd (·=p) w w':=by
 have CF:=h_ (xFail_c h 2 pos);have H:=h_ h;have HSET:Hid (∀v,(xcells A T.length c fin x).setIfInBounds o (.string (kstr v))=xcells A T.length c fin (y v)):=hset
 have ho:o<(xcells A T.length c fin x).size:=by
  rcases Nat.lt_or_ge o (xcells A T.length c fin x).size with q | q
  ·exact q
  ·rw [Array.getElem?_eq_none q] at hcell;cases hcell
 have HO:=h_ ho
 have hsame:(xcells A T.length c fin x).setIfInBounds o (.string (kstr vs))=xcells A T.length c fin x:=by
  apply Array.ext
  ·simp
  ·intro i h1 h2;rw [Array.getElem_setIfInBounds]
   ·split
    ·rename_i e;subst e;rw [Array.getElem?_eq_getElem h2] at hcell;exact (Option.some.inj hcell).symm
    ·rfl
 have HV:Hid (XdS w p A c T fin (y vs)):=⟨by rw [←hset,hsame];exact h.blk,h.tok,h.le⟩;have co:=h.blk.cell o;rw [hcell] at co;have c7:=h.cells.2.2.2.2.2.2.2;have hf:=h.blk.frozen o;have hL:Hid (lookF vs ch x.left=match findB vs ch 0 with | some i=>(i+1,vs) | none=>if x.left then (vs.length+1,vs++[ch]) else (0,vs)):=rfl;obtain ⟨lf,Hlf⟩:=nm x.left;rw [Hlf.out] at hL c7 ⊢;obtain ⟨q1,Hq1⟩:=nm (kstr vs);have HKX:Hid (kx q1=vs):=by show _=_;rw [←Hq1.out,kx_kstr]
 rw [Hq1.out] at co;obtain ⟨q2,Hq2⟩:=nm (kstr [ch]);obtain ⟨n,Hn⟩:=nm vs.length;have HSZ:Hid (q1.size=n):=by show _=_;rw [←kx_len,HKX.out,Hn.out]
 have hsz:=HSZ.out;rw [Hn.out] at hn;rw [Hq2.out];clear h hset hcell ho hsame;go_enter Tryz.func106,Tryz.ntmps106;go_wp2_with fail
 go_loopg [9] n (fun g s wr=>∃k:Nat,Hid (g=n - k)∧k≤n∧s=.int .i64 k∧Hid (findB vs ch 0=findB (vs.drop k) ch k)∧wr=w)
 case atStart=>exact ⟨0,rfl,by omega,rfl,by show _=_;rw [List.drop_zero],rfl⟩
 case round =>
  obtain ⟨k,Hg,hk,rfl,HK,hw⟩:=hrel;subst hw;by_cases hlt:k<n
  ·have ti:decide ((k:Int)<(n:Int))=true:=dT_ (by omega);have hkl:k<vs.length:=by rw [Hn.out];exact hlt
   have hsl:=fun W=>run_sub_str HSZ.out (show k≤k+1 by omega) (show k+1≤n by omega) W
   rw [HKX.out,show ((k+1:Nat):Int)=(k:Int)+1 by omega,show (vs.drop k).take (k+1 - k)=[vs.getD k 0] by rw [drop_cons hkl,show k+1 - k=1 by omega];rfl] at hsl
   have HF:=h_ (findB_step hkl ch k);obtain ⟨z,Hz⟩:=nm (vs.getD k 0);rw [Hz.out] at hsl HF;have hD:((kstr [z]).toList==q2.toList)=decide (z=ch):=by rw [←Hq2.out,str_beq];simp
   obtain ⟨q3,Hq3⟩:=nm (kstr [z]);rw [Hq3.out] at hsl hD;by_cases hyc:z=ch
   ·rw [dT_ hyc] at hD;have HR:Hid (lookF vs ch lf=(k+1,vs)):=by show _=_;rw [hL.out,HK.out,HF.out,if_pos hyc]
    clear hyc HF HK hL;go_wp2_with fail
    go_ret;exact ⟨by rw [HR.out];rfl,by rw [HR.out];unfold xvY;rw [if_neg (by dsimp only;omega)];exact HV.out,Upd.refl⟩
   ·rw [dF_ hyc] at hD;have HK2:Hid (findB vs ch 0=findB (vs.drop (k+1)) ch (k+1)):=by show _=_;rw [HK.out,HF.out,if_neg hyc]
    clear hyc HF HK;go_wp2_with fail
    go_roundg (n - (k+1))
    case measure=>rw [Hg.out];omega
    case rel=>exact ⟨k+1,rfl,by omega,by go_num,HK2,rfl⟩
  ·obtain rfl:n=k:=by omega
   have hnone:findB vs ch 0=none:=by rw [HK.out,List.drop_of_length_le (by rw [Hn.out];exact Nat.le_refl _)];rfl
   have HN:Hid (lookF vs ch lf=if lf then (n+1,vs++[ch]) else (0,vs)):=by show _=_;rw [hL.out,hnone,Hn.out]
   clear hnone HK hL
   cases lf with
   | false =>
    go_wp2_with fail
    refine CF.out.mono ?_;rintro e w2 ⟨rfl,h2,u2⟩;go_wp2_with fail
    go_ret;exact ⟨by rw [HN.out];rfl,by rw [HN.out];exact h2,u2⟩
   | true =>
    have eq3:q1++q2=kstr (vs++[ch]):=by rw [←Hq1.out,←Hq2.out,kstr_app]
    obtain ⟨q3,Hq3⟩:=nm (kstr (vs++[ch]));rw [Hq3.out] at eq3;have hq3:q3.size=n+1:=by rw [←Hq3.out,←kx_len,kx_kstr,List.length_append,Hn.out];rfl
    have b9:=H.out.blk.set_ o (.string q3);have d9:=b9.cell o;rw [Array.getElem?_setIfInBounds_self_of_lt HO.out] at d9
    have g1:¬9223372036854775807<n+q2.size:=by
     have h2:q2.size=1:=by rw [←Hq2.out,kstr_size];rfl
     omega
    go_wp2_with fail
    go_ret;have HN2:Hid (lookF vs ch true=(n+1,vs++[ch])):=HN.out;refine ⟨by rw [HN2.out];rfl,?_,updCell _ _ _ _⟩;rw [HN2.out];unfold xvY;rw [if_neg (show ¬n+1=0 by omega)];refine H.out.set (updCell _ _ _ _) ?_;rw [←HSET.out];dsimp only;rw [Hq3.out];exact b9
theorem xktl (l:Bs):(kstr l).toList=l:=by rw [ByteArray.toList_eq];rfl
def numR (t:Bs) (most:Nat):Option Nat :=
 if t≠[]∧t.length≤19∧¬(2≤t.length∧t.getD 0 0=48)∧t.all isDg=true∧digF t 0≤most then some (digF t 0) else none
theorem digF_ge:∀(l:Bs) (a:Nat),a≤digF l a
 | [],a=>Nat.le_refl _
 | c::l,a=>by
  have:=digF_ge l (10 * a+(c.toNat - 48));show a≤digF l (10 * a+(c.toNat - 48));omega
theorem digF_pos {c:UInt8} {l:Bs} (h:isDg c=true) (hc:c≠48):0<digF (c::l) 0:=by
 have h1:=digF_ge l (10 * 0+(c.toNat - 48));have h2:c.toNat≠48:=fun e=>hc (UInt8.toNat_inj.1 e)
 simp only [isDg,decide_eq_true_eq] at h;show 0<digF l (10 * 0+(c.toNat - 48));omega
theorem magF_num (t:Bs) (neg:Bool):magF t neg=match numR t (limF neg) with
  | some n=>if neg=true∧n=0 then none else some (sgnF neg n)
  | none=>none:=by
 unfold magF numR
 cases t with
 | nil=>simp
 | cons c l =>
  simp only [List.length_cons,List.head?_cons,List.getD_cons_zero,ne_eq,reduceCtorEq,not_false_eq_true,true_and,Option.some.injEq];by_cases h1:l.length+1≤19
  ·by_cases h2:c=48
   ·subst h2
    cases l with
    | nil =>
     have e:digF [48] 0=0:=rfl;have e2:([48]:Bs).all isDg=true:=rfl;have e3:¬(0:Nat) > limF neg:=Nat.not_lt_zero _
     cases neg with
     | true =>
      have e4:isDg 48=true:=rfl;simp [e,e4]
     | false=>simp [e,e2,sgnF]
    | cons d l=>simp
   ·have hq:¬(l.length+1<1∨l.length+1 > 19∨c=48∧(l.length+1 > 1∨neg=true)):=fun q=>by
     rcases q with q | q | q
     ·omega
     ·omega
     ·exact h2 q.1
    by_cases h3:(c::l).all isDg=true
    ·by_cases h4:digF (c::l) 0≤limF neg
     ·have hp:0<digF (c::l) 0:=digF_pos (by rw [List.all_cons,Bool.and_eq_true] at h3;exact h3.1) h2;rw [if_neg hq,if_pos h3,if_neg (by omega),if_pos ⟨h1,fun q=>h2 q.2,h3,h4⟩];dsimp only;rw [if_neg (by omega)]
     ·rw [if_neg hq,if_pos h3,if_pos (by omega),if_neg (fun q=>h4 q.2.2.2)]
    ·rw [if_neg hq,if_neg h3,if_neg (fun q=>h3 q.2.2.1)]
  ·rw [if_pos (by omega),if_neg (by omega)]
set_option maxRecDepth 100000 in
set_option maxHeartbeats 4000000 in
theorem r1Number_c (t:Bs) (most:Nat) (w:World) (hs:t.length≤1000000) :
  Calls Tryz.prog 124 #[.string (kstr t),.int .u64 most] w fun e w'=>e=.returned (.tuple #[.int .u64 (((numR t most).getD 0:Nat):Int),.bool (numR t most).isSome])∧w'=w:=by
 obtain ⟨r,HR⟩:=nm (numR t most);have HR1:Hid (r=numR t most):=HR.out.symm;obtain ⟨m,Hm⟩:=nm t.length;have hz:(kstr t).size=m:=by rw [kstr_size,Hm.out]
 have hm0:=Hm.out;rw [hm0] at hs;obtain ⟨q,Hq⟩:=nm (kstr t);obtain ⟨z1,Hz1⟩:=nm (((r.getD 0:Nat):Int));obtain ⟨z2,Hz2⟩:=nm r.isSome;rw [←HR1.out,Hz1.out,Hz2.out]
 have HE:Hid ((q.toList==[])=decide (m=0)):=by
  show _=_;rw [←Hq.out,xktl]
  cases t with
  | nil=>rw [←hm0];rfl
  | cons c l=>rw [←hm0];simp
 clear HR hm0;have HNN:Hid (r=none→z1=0∧z2=false):=fun h=>by rw [←Hz1.out,←Hz2.out,h];exact ⟨rfl,rfl⟩
 have HNS:Hid (∀n,r=some n→z1=(n:Int)∧z2=true):=fun n h=>by rw [←Hz1.out,←Hz2.out,h];exact ⟨rfl,rfl⟩
 clear Hz1 Hz2;rw [Hq.out] at hz ⊢;go_enter Tryz.func124,Tryz.ntmps124;go_wp2_with fail
 go_loopg [6,7] m (fun g a b wr=>∃k:Nat,Hid (g=m - k)∧k≤m∧k≤19∧b=.int .i64 k∧a=.int .u64 (digF (t.take k) 0)∧Hid ((t.take k).all isDg=true)∧Hid (¬(2≤k∧t.getD 0 0=48))∧wr=w)
 case atStart=>exact ⟨0,rfl,by omega,by omega,rfl,rfl,rfl,by show ¬_;omega,rfl⟩
 case round =>
  obtain ⟨k,Hg,hk,hk19,rfl,rfl,HA,HZ,hw⟩:=hrel;subst hw;have hlt18:=dig_lt (t.take k).length (t.take k) rfl HA.out;have hkl:(t.take k).length=k:=by rw [List.length_take,Hm.out];omega
  rw [hkl] at hlt18;obtain ⟨n,Hdn⟩:=nm (digF (t.take k) 0);rw [Hdn.out] at hlt18 ⊢;by_cases hlt:k<m
  ·have ti:decide ((k:Int)<(m:Int))=true:=dT_ (by omega);have hkt:k<t.length:=by rw [Hm.out];exact hlt
   have i1:=fun W=>run_at_str hz hlt W
   have i0:=fun W=>run_at_str hz (show 0<m by omega) W
   rw [←Hq.out,kx_kstr] at i1 i0;rw [Hq.out] at i1 i0;rw [show ((0:Nat):Int)=0 from rfl] at i0;have HT:=h_ (take_dig hkt);have HC0:Hid (k=0→t.getD k 0=t.getD 0 0):=fun e=>by rw [e]
   obtain ⟨c,Hc⟩:=nm (t.getD k 0);rw [Hc.out] at i1 HT HC0;have HD:Hid (isDg c=decide (48≤c.toNat∧c.toNat≤57)):=rfl;have HDG:=h_ (digF_snoc (t.take k) c);rw [←HT.out,Hdn.out] at HDG;have HAL:Hid ((t.take (k+1)).all isDg=isDg c):=by show _=_;rw [HT.out,List.all_append,HA.out];simp
   have HNO:Hid (isDg c=false→r=none):=fun q=>by
    rw [HR1.out];unfold numR;rw [if_neg];intro q2;have q2:=q2.2.2.2.1;rw [List.all_eq_true] at q2;have : c∈t:=by rw [←Hc.out,getD_of hkt];exact List.getElem_mem _
    rw [q2 c this] at q;cases q
   have HN2:Hid (k=1→(t.getD 0 0).toNat=48→r=none):=fun q q2=>by
    rw [HR1.out];unfold numR;rw [if_neg];intro q3;exact q3.2.2.1 ⟨by rw [Hm.out];omega,UInt8.toNat_inj.1 q2⟩
   have HN3:Hid (18<k→r=none):=fun q=>by
    rw [HR1.out];unfold numR;rw [if_neg];intro q3;have:=q3.2.1;rw [Hm.out] at this;omega
   have HZ2:Hid (¬(k=1∧(t.getD 0 0).toNat=48)→¬(2≤k+1∧t.getD 0 0=48)):=fun q q2=>by
    by_cases e:k=1
    ·exact q ⟨e,by rw [q2.2];rfl⟩
    ·exact HZ.out ⟨by omega,q2.2⟩
   generalize c.toNat=y at i1 HD HDG;generalize (t.getD 0 0).toNat=y0 at i0 HN2 HZ2;obtain ⟨dg,Hdg⟩:=nm (isDg c);rw [Hdg.out] at HD HAL HNO;clear hkl HT HA HZ HC0;by_cases hy1:y<48
   ·have f1:decide ((y:Int)<48)=true:=dT_ (by omega);obtain rfl:dg=false:=by rw [HD.out];exact dF_ (by omega)
    have HN:=h_ (HNO.out rfl);clear hy1 HD HDG HAL HNO HN2 HN3 HZ2 hlt18;obtain ⟨rfl,rfl⟩:=HNN.out HN.out;go_wp2_with fail
    go_ret2;exact ⟨rfl,rfl⟩
   ·have f1:decide ((y:Int)<48)=false:=dF_ (by omega);by_cases hy2:57<y
    ·have f2:decide ((57:Int)<(y:Int))=true:=dT_ (by omega);obtain rfl:dg=false:=by rw [HD.out];exact dF_ (by omega)
     have HN:=h_ (HNO.out rfl);clear hy1 hy2 HD HDG HAL HNO HN2 HN3 HZ2 hlt18;obtain ⟨rfl,rfl⟩:=HNN.out HN.out;go_wp2_with fail
     go_ret2;exact ⟨rfl,rfl⟩
    ·have f2:decide ((57:Int)<(y:Int))=false:=dF_ (by omega);obtain rfl:dg=true:=by rw [HD.out];exact dT_ (by omega)
     by_cases hk1:k=1
     ·have f5:((k:Int)==1)=true:=by rw [hk1];rfl
      have i1':=i1;rw [hk1,show ((1:Nat):Int)=1 from rfl] at i1';by_cases hy0:y0=48
      ·have f6:((y0:Int)==48)=true:=by rw [hy0];rfl
       have HN:=h_ (HN2.out hk1 hy0);clear hy1 hy2 HD HDG HAL HNO HN2 HN3 HZ2 hlt18 hk1 hy0;obtain ⟨rfl,rfl⟩:=HNN.out HN.out;go_wp2_with fail
       go_ret2;exact ⟨rfl,rfl⟩
      ·have f6:((y0:Int)==48)=false:=by simp;omega
       have HZ3:=h_ (HZ2.out (fun q=>hy0 q.2));have hk18:¬18<k:=by omega
       clear hy0;have f4:decide ((18:Int)<(k:Int))=false:=dF_ (by omega)
       have hn18:n<1000000000000000000:=by
        have : (10:Nat) ^ k≤10 ^ 18:=Nat.pow_le_pow_right (by omega) (by omega);omega
       have w1:IntKind.u64.wrap (10 * (n:Int))=10 * (n:Int):=by rw [IntKind.wrap_u64];omega
       have w2:IntKind.u8.wrap ((y:Int) - 48)=(y:Int) - 48:=by rw [IntKind.wrap_u8];omega
       have w3:IntKind.u64.wrap ((y:Int) - 48)=(y:Int) - 48:=by rw [IntKind.wrap_u64];omega
       have w4:IntKind.u64.wrap (10 * (n:Int)+((y:Int) - 48))=10 * (n:Int)+((y:Int) - 48):=by rw [IntKind.wrap_u64];omega
       have hy3:48≤y:=by omega
       clear HD HNO HN2 HN3 hlt18;go_wp2_with fail
       go_roundg (m - (k+1))
       case measure=>rw [Hg.out];omega
       case rel=>exact ⟨k+1,rfl,by omega,by omega,by go_num,by rw [HDG.out];congr 1;omega,HAL.out,HZ3.out,rfl⟩
     ·have f5:((k:Int)==1)=false:=by simp;omega
      have HZ3:=h_ (HZ2.out (fun q=>hk1 q.1));clear hk1;by_cases hk18:18<k
      ·have f4:decide ((18:Int)<(k:Int))=true:=dT_ (by omega);have HN:=h_ (HN3.out hk18);clear HD HDG HAL HNO HN2 HN3 HZ2 hlt18 hk18;obtain ⟨rfl,rfl⟩:=HNN.out HN.out;go_wp2_with fail
       go_ret2;exact ⟨rfl,rfl⟩
      ·skip;have f4:decide ((18:Int)<(k:Int))=false:=dF_ (by omega)
       have hn18:n<1000000000000000000:=by
        have : (10:Nat) ^ k≤10 ^ 18:=Nat.pow_le_pow_right (by omega) (by omega);omega
       have w1:IntKind.u64.wrap (10 * (n:Int))=10 * (n:Int):=by rw [IntKind.wrap_u64];omega
       have w2:IntKind.u8.wrap ((y:Int) - 48)=(y:Int) - 48:=by rw [IntKind.wrap_u8];omega
       have w3:IntKind.u64.wrap ((y:Int) - 48)=(y:Int) - 48:=by rw [IntKind.wrap_u64];omega
       have w4:IntKind.u64.wrap (10 * (n:Int)+((y:Int) - 48))=10 * (n:Int)+((y:Int) - 48):=by rw [IntKind.wrap_u64];omega
       have hy3:48≤y:=by omega
       clear HD HNO HN2 HN3 hlt18;go_wp2_with fail
       go_roundg (m - (k+1))
       case measure=>rw [Hg.out];omega
       case rel=>exact ⟨k+1,rfl,by omega,by omega,by go_num,by rw [HDG.out];congr 1;omega,HAL.out,HZ3.out,rfl⟩
  ·have HKM:Hid (m=k):=by show _=_;omega
   have ti:decide ((k:Int)<(m:Int))=false:=dF_ (by omega)
   have hall:t.all isDg=true:=by
    have:=HA.out
    rwa [List.take_of_length_le (by rw [Hm.out,HKM.out];exact Nat.le_refl _)] at this
   have hdt:digF t 0=n:=by rw [←Hdn.out,List.take_of_length_le (by rw [Hm.out,HKM.out];exact Nat.le_refl _)]
   have HM:Hid (r=if m≠0∧n≤most then some n else none):=by
    show _=_;rw [HR1.out];unfold numR;rw [hdt];have hne:t≠[]↔m≠0:=by rw [←Hm.out];simp
    by_cases hq:m≠0∧n≤most
    ·rw [if_pos hq,if_pos ⟨hne.2 hq.1,by rw [Hm.out,HKM.out];exact hk19,by rw [Hm.out,HKM.out];exact HZ.out,hall,hq.2⟩]
    ·rw [if_neg hq,if_neg (fun q2=>hq ⟨hne.1 q2.1,q2.2.2.2.2⟩)]
   clear hall hdt HA HZ hlt18 hkl;by_cases hm0:m=0
   ·have fe:(q.toList==[])=true:=by rw [HE.out];exact dT_ hm0
    have HN:Hid (r=none):=by show _=_;rw [HM.out,if_neg (fun h=>h.1 hm0)]
    clear HM hm0 HE;obtain ⟨rfl,rfl⟩:=HNN.out HN.out;go_wp2_with fail
    go_ret2;exact ⟨rfl,rfl⟩
   ·have fe:(q.toList==[])=false:=by rw [HE.out];exact dF_ hm0
    by_cases hb:n≤most
    ·have fb:decide ((most:Int)<(n:Int))=false:=dF_ (by omega);have HS:Hid (r=some n):=by show _=_;rw [HM.out,if_pos ⟨hm0,hb⟩]
     obtain ⟨h1,h2⟩:=HNS.out n HS.out;have H1:=h_ h1;have H2:=h_ h2;clear HM hm0 HE h1 h2;go_wp2_with fail
     go_ret2;exact ⟨by rw [H1.out,H2.out];rfl,rfl⟩
    ·have fb:decide ((most:Int)<(n:Int))=true:=dT_ (by omega);have HN:Hid (r=none):=by show _=_;rw [HM.out,if_neg (fun h=>hb h.2)]
     clear HM hm0 HE;obtain ⟨rfl,rfl⟩:=HNN.out HN.out;go_wp2_with fail
     go_ret2;exact ⟨rfl,rfl⟩
set_option maxRecDepth 100000 in
set_option maxHeartbeats 4000000 in
theorem r1Parse_c (s:Bs) (w:World) (hs:s.length≤1000000) :
  Calls Tryz.prog 104 #[.string (kstr s)] w fun e w'=>e=.returned (.tuple #[.int .i64 ((decF s).getD 0),.bool (decF s).isSome])∧w'=w:=by
 have HD:Hid (decF s=magF (if decide (s.head?=some 45) then s.tail else s) (decide (s.head?=some 45))):=decF_eq s;obtain ⟨r,Hr⟩:=nm (decF s);rw [Hr.out] at HD ⊢;obtain ⟨n0,Hn0⟩:=nm s.length;have hz0:(kstr s).size=n0:=by rw [kstr_size,Hn0.out]
 have HE:Hid (((kstr s).toList==[])=decide (n0=0)):=by
  show _=_;rw [xktl,←Hn0.out]
  cases s with
  | nil=>rfl
  | cons c l=>simp
 have C1:=h_ (fun W=>r1Number_c s 9223372036854775807 W hs);have C2:=h_ (fun W=>r1Number_c (s.drop 1) 9223372036854775808 W (by rw [List.length_drop];omega))
 have HM1:Hid (decide (s.head?=some 45)=false→r=(numR s 9223372036854775807).map fun n=>(n:Int)):=fun h=>by
  rw [HD.out,h];simp only [Bool.false_eq_true,if_false];rw [magF_num];show (match numR s 9223372036854775807 with | some n=>_ | none=>_)=_
  cases numR s 9223372036854775807 with
  | none=>rfl
  | some n=>simp [sgnF]
 have HM2:Hid (decide (s.head?=some 45)=true→r=match numR (s.drop 1) 9223372036854775808 with | some n=>if n=0 then none else some (-(n:Int)) | none=>none):=fun h=>by
  rw [HD.out,h];simp only [if_true];rw [magF_num,show s.tail=s.drop 1 by cases s <;> rfl];show (match numR (s.drop 1) 9223372036854775808 with | some n=>_ | none=>_)=_
  cases numR (s.drop 1) 9223372036854775808 with
  | none=>rfl
  | some n =>
   dsimp only;by_cases h0:n=0 <;> simp [h0,sgnF]
 have HB1:Hid (∀n,numR s 9223372036854775807=some n→n≤9223372036854775807):=fun n h=>by
  unfold numR at h
  split at h
  ·rename_i q;injection h with h;omega
  ·cases h
 have HB2:Hid (∀n,numR (s.drop 1) 9223372036854775808=some n→n≤9223372036854775808):=fun n h=>by
  unfold numR at h
  split at h
  ·rename_i q;injection h with h;omega
  ·cases h
 have hsl:1≤n0→∀W,(Instr.slice 9 (.string (kstr s)) (some (.int .i64 (1:Int))) none none).run Tryz.prog W=.ok (.string (kstr (s.drop 1))) W:=fun h W=>by
  have:=run_from_str Hn0.out h W;exact this
 obtain ⟨k1,Hk1⟩:=nm (numR s 9223372036854775807);obtain ⟨k2,Hk2⟩:=nm (numR (s.drop 1) 9223372036854775808);rw [Hk1.out] at C1 HM1 HB1;rw [Hk2.out] at C2 HM2 HB2;obtain ⟨q1,Hq1⟩:=nm (kstr (s.drop 1));rw [Hq1.out] at hsl C2;clear HD hs;by_cases h0:n0=0
 ·have fe:((kstr s).toList==[])=true:=by rw [HE.out];exact dT_ h0
  have hneg:decide (s.head?=some 45)=false:=by
   have:=Hn0.out;rw [h0] at this;rw [List.eq_nil_of_length_eq_zero this];rfl
  obtain ⟨qs,Hqs⟩:=nm (kstr s);rw [Hqs.out] at fe C1 hsl hz0 ⊢;clear HE h0;have HMR:=h_ (HM1.out hneg);have C1w:=h_ (C1.out w);clear HM1 HM2 HB2 C1 C2 hsl hneg
  cases k1 with
  | none =>
   go_enter Tryz.func104,Tryz.ntmps104;go_wp2_with fail
   refine C1w.out.mono ?_;rintro e w2 ⟨rfl,rfl⟩;go_wp2_with fail
   go_ret2;exact ⟨by rw [HMR.out];rfl,rfl⟩
  | some n =>
   have hn:=HB1.out n rfl;have w5:wrap64 (n:Int)=(n:Int):=wrap64_of (by unfold I64;omega);go_enter Tryz.func104,Tryz.ntmps104;go_wp2_with fail
   refine C1w.out.mono ?_;rintro e w2 ⟨rfl,rfl⟩;go_wp2_with fail
   go_ret2;exact ⟨by rw [HMR.out];first | rfl | (simp [w5]),rfl⟩
 ·have fe:((kstr s).toList==[])=false:=by rw [HE.out];exact dF_ h0
  have i0:=fun W=>run_at_str hz0 (show 0<n0 by omega) W
  rw [kx_kstr,show ((0:Nat):Int)=0 from rfl] at i0
  have hh:s.head?=some 45↔(s.getD 0 0).toNat=45:=by
   cases s with
   | nil=>have:=Hn0.out;simp at this;omega
   | cons a r =>
    simp only [List.head?_cons,Option.some.injEq,List.getD_cons_zero];constructor
    ·rintro rfl;rfl
    ·intro e;exact UInt8.toNat_inj.1 e
  have hsl2:=hsl (by omega);generalize (s.getD 0 0).toNat=y at i0 hh;obtain ⟨qs,Hqs⟩:=nm (kstr s);rw [Hqs.out] at fe C1 hsl hsl2 hz0 i0 ⊢;by_cases hy:y=45
  ·have fy:((y:Int) != 45)=false:=by rw [hy];rfl
   have hneg:decide (s.head?=some 45)=true:=dT_ (hh.2 hy);have HMR:=h_ (HM2.out hneg);have C2w:=h_ (C2.out w);clear HM1 HM2 HB1 C1 C2 hsl hneg hh hy HE h0
   cases k2 with
   | none =>
    go_enter Tryz.func104,Tryz.ntmps104;go_wp2_with fail
    refine C2w.out.mono ?_;rintro e w2 ⟨rfl,rfl⟩;go_wp2_with fail
    go_ret2;exact ⟨by rw [HMR.out];rfl,rfl⟩
   | some n =>
    have hn:=HB2.out n rfl;by_cases hn0:n=0
    ·subst hn0;go_enter Tryz.func104,Tryz.ntmps104;go_wp2_with fail
     refine C2w.out.mono ?_;rintro e w2 ⟨rfl,rfl⟩;go_wp2_with fail
     go_ret2;exact ⟨by rw [HMR.out];rfl,rfl⟩
    ·have fn:((n:Int)==0)=false:=by simp;omega
     have w1:IntKind.u64.wrap ((n:Int) - 1)=(n:Int) - 1:=by rw [IntKind.wrap_u64];omega
     have w2:wrap64 ((n:Int) - 1)=(n:Int) - 1:=wrap64_of (by unfold I64;omega);have w3:wrap64 (-((n:Int) - 1)) = -((n:Int) - 1):=wrap64_of (by unfold I64;omega);have w4:wrap64 (-((n:Int) - 1) - 1) = -((n:Int) - 1) - 1:=wrap64_of (by unfold I64;omega);have HMR2:Hid (r=some (-(n:Int))):=by show _=_;rw [HMR.out];dsimp only;rw [if_neg hn0]
     clear HMR hn0 hn;go_enter Tryz.func104,Tryz.ntmps104;go_wp2_with fail
     refine C2w.out.mono ?_;rintro e w2 ⟨rfl,rfl⟩;go_wp2_with fail
     go_ret2;exact ⟨by rw [HMR2.out];show Ending.returned (.tuple #[.int .i64 (wrap64 (-((n:Int) - 1) - 1)),.bool true])=_;rw [w4,show -((n:Int) - 1) - 1 = -(n:Int) by omega];rfl,rfl⟩
  ·have fy:((y:Int) != 45)=true:=by simp;omega
   have hneg:decide (s.head?=some 45)=false:=dF_ (fun q=>hy (hh.1 q));clear hh hy HE h0 hsl2;have HMR:=h_ (HM1.out hneg);have C1w:=h_ (C1.out w);clear HM1 HM2 HB2 C1 C2 hsl hneg
   cases k1 with
   | none =>
    go_enter Tryz.func104,Tryz.ntmps104;go_wp2_with fail
    refine C1w.out.mono ?_;rintro e w2 ⟨rfl,rfl⟩;go_wp2_with fail
    go_ret2;exact ⟨by rw [HMR.out];rfl,rfl⟩
   | some n =>
    have hn:=HB1.out n rfl;have w5:wrap64 (n:Int)=(n:Int):=wrap64_of (by unfold I64;omega);go_enter Tryz.func104,Tryz.ntmps104;go_wp2_with fail
    refine C1w.out.mono ?_;rintro e w2 ⟨rfl,rfl⟩;go_wp2_with fail
    go_ret2;exact ⟨by rw [HMR.out];first | rfl | (simp [w5]),rfl⟩
set_option maxRecDepth 100000 in
theorem r10names_c (w:World):Calls Tryz.prog 115 #[] w fun e w'=>e=.returned (.slice (some ⟨w.heap.size,0,none⟩) 28 28)∧Sl w' (fun _=>True) (some ⟨w.heap.size,0,none⟩) (sCells nameL)∧Upd Non w w':=by
 go_enter Tryz.func115,Tryz.ntmps115;go_wp2_with fail
 go_ret;exact ⟨rfl,Sl.new' w _ _ rfl,Upd.refl.alloc _⟩
set_option maxRecDepth 100000 in
set_option maxHeartbeats 1000000 in
theorem r10Op_c (s:Bs) (w:World):Calls Tryz.prog 125 #[.string (kstr s)] w fun e w'=>e=.returned (.tuple #[.int .i64 ((opF s).getD 0),.bool (opF s).isSome])∧Upd Non w w':=by
 have C:=h_ (r10names_c w);have HO:Hid (opF s=(findL nameL s 0).map (4+·)):=rfl;obtain ⟨r,Hr⟩:=nm (opF s);rw [Hr.out] at HO;rw [Hr.out];obtain ⟨z1,Hz1⟩:=nm (r.getD 0);obtain ⟨z2,Hz2⟩:=nm r.isSome;rw [Hz1.out,Hz2.out];obtain ⟨str,Hstr⟩:=nm (kstr s);rw [Hstr.out];go_enter Tryz.func125,Tryz.ntmps125;go_wp2_with fail
 refine C.out.mono ?_;rintro e W ⟨rfl,hs,hu⟩;clear C;go_wp2_with fail
 obtain ⟨A,HA⟩:=nm (some (⟨w.heap.size,0,none⟩:Addr));rw [HA.out] at hs ⊢
 go_loopg [5] 28 (fun g i wr=>∃k:Nat,Hid (g=28 - k)∧k≤28∧i=.int .i64 k∧Hid (findL nameL s 0=findL (nameL.drop k) s k)∧wr=W)
 case atStart=>exact ⟨0,rfl,by omega,rfl,rfl,rfl⟩
 case round =>
  obtain ⟨k,Hg,hk,rfl,HK,hw⟩:=hrel;subst hw;by_cases hlt:k<28
  ·have ti:decide ((k:Int)<28)=true:=dT_ (by omega);have hkl:k<nameL.length:=hlt;obtain ⟨b,o,rfl,_,_,hc⟩:=hs.at_ (k:=k) (by simpa [sCells] using hkl);have HF:=h_ (findL_step hkl s k);have hc2:wr.cell? ⟨b,o+k,none⟩=some (.string (kstr nameL[k])):=by rw [hc];simp [sCells]
   generalize nameL[k]=nk at hc2 HF;have hq:((kstr nk).toList==str.toList)=decide (nk=s):=by rw [←Hstr.out,str_beq]
   obtain ⟨nks,Hnks⟩:=nm (kstr nk);rw [Hnks.out] at hc2 hq;clear hc hs;by_cases he:nk=s
   ·rw [dT_ he] at hq;have HR:Hid (r=some (4+k)):=by show _=_;rw [HO.out,HK.out,HF.out,if_pos he];rfl
    clear he HF HK HO;go_wp2_with fail
    go_ret2;exact ⟨by rw [←Hz1.out,←Hz2.out,HR.out];rfl,hu⟩
   ·rw [dF_ he] at hq;have HK2:Hid (findL nameL s 0=findL (nameL.drop (k+1)) s (k+1)):=by show _=_;rw [HK.out,HF.out,if_neg he]
    clear he HF HK;go_wp2_with fail
    go_roundg (28 - (k+1))
    case measure=>rw [Hg.out];omega
    case rel=>exact ⟨k+1,rfl,by omega,by go_num,HK2,rfl⟩
  ·obtain rfl:k=28:=by omega
   have HR:Hid (r=none):=by show _=_;rw [HO.out,HK.out,List.drop_of_length_le (by rw [nameL_len];exact Nat.le_refl _)];rfl
   clear HK HO;go_wp2_with fail
   go_ret2;exact ⟨by rw [←Hz1.out,←Hz2.out,HR.out];rfl,hu⟩
theorem ops_eq {op:Int} (h4:4≤op) (h:op<32):allowedF op=(arF op).isSome∧hasImmF op=immOp op∧arityF op=((((arF op).getD 0:Nat):Int),true)∨allowedF op=false∧arF op=none:=by
 obtain ⟨i,hi⟩:∃i:Fin 28,op=4+(i.val:Int):=⟨⟨(op - 4).toNat,by omega⟩,by show op=4+((op - 4).toNat:Int);omega⟩;have key:∀i:Fin 28,(allowedF (4+(i.val:Int))=(arF (4+(i.val:Int))).isSome∧hasImmF (4+(i.val:Int))=immOp (4+(i.val:Int))∧arityF (4+(i.val:Int))=((((arF (4+(i.val:Int))).getD 0:Nat):Int),true))∨(allowedF (4+(i.val:Int))=false∧arF (4+(i.val:Int))=none):=by decide +kernel
 subst hi;exact key i
theorem findL_lt {l:List Bs} {s:Bs}:∀{k i:Nat},findL l s k=some i→i<k+l.length:=by
 induction l with
 | nil=>intro k i h;cases h
 | cons x l ih =>
  intro k i h;rw [findL] at h
  split at h
  ·injection h with h;simp;omega
  ·have:=ih h;simp;omega
theorem opF_lt {s:Bs} {n:Nat} (h:opF s=some n):4≤(n:Int)∧(n:Int)<32:=by
 unfold opF at h
 cases hf:findL nameL s 0 with
 | none=>rw [hf] at h;cases h
 | some i =>
  rw [hf] at h;have:=findL_lt hf;rw [nameL_len] at this;have h:4+i=n:=by simpa using h
  omega
theorem decF_lw {c:UInt8} (h:isLw c=true):decF [c]=none:=by
 simp only [isLw,decide_eq_true_eq] at h;have h1:c≠45:=fun e=>by rw [e] at h;exact absurd h.1 (by decide)
 have h2:c≠48:=fun e=>by rw [e] at h;exact absurd h.1 (by decide)
 have h3:isDg c=false:=by simp only [isDg,decide_eq_false_iff_not];omega
 simp [decF,h1,h2,h3]
theorem isLt_some {t:Bs} (h:isLt t=true):∃c,t=[c]∧isLw c=true:=by
 match t,h with
 | [c],h=>exact ⟨c,rfl,h⟩
def immF (t:Bs) (G:UInt8→Option (Pt×PS)):Option (Pt×PS):=match t with
 | [c]=>G c
 | _=>none
theorem immF_no {t:Bs} {G:UInt8→Option (Pt×PS)} (h:isLt t=false) (hG:∀c,isLw c=false→G c=none):immF t G=none:=by
 match t,h with
 | [],_=>rfl
 | [c],h=>exact hG c h
 | _::_::_,_=>rfl
def XOpP (w:World) (p:Nat) (A:Option Addr) (c:Nat) (T:List (Bs×Nat)) (fin:Nat) (x:Xs) (s:Bs) (pos:Int) (o:Option (Pt×PS)) (e:Ending) (w':World):Prop :=
 ∃(q:Pt) (b:Bool) (y:Xs),e=.returned (.tuple #[pv q none 0,.bool b])∧q.kids=[]∧XdS w' p A c T fin y∧Upd (·=p) w w'∧(b=true→s≠[]∧q.v=0∧arityF q.op=((((arF q.op).getD 0:Nat):Int),true))∧(match o with | some (q',ps)=>b=true∧q=q'∧y={ x with ms:=ps.ms }∧ps.vs=x.vs∧ps.i=x.i | none=>(b=false∧y=x)∨(b=true∧y=x.fail 2 pos))
set_option maxRecDepth 100000 in
set_option maxHeartbeats 4000000 in
theorem xOperation_c {w:World} {p:Nat} {A:Option Addr} {c:Nat} {T:List (Bs×Nat)} {fin:Nat} {x:Xs} (h:XdS w p A c T fin x) (hn:x.ms.length≤100000) (s:Bs) (hs:s.length≤1000000) (pos:Int) :
  Calls Tryz.prog 107 #[.pointer (some ⟨p,0,none⟩),.string (kstr s),.int .i64 pos] w (XOpP w p A c T fin x s pos (operF x.left s x.ps)):=by
 have HO:Hid (operF x.left s x.ps=_):=oper_eq x.left s x.ps;obtain ⟨o,Ho⟩:=nm (operF x.left s x.ps);rw [Ho.out] at HO;rw [Ho.out];have hz:(kstr s).size=s.length:=kstr_size s;obtain ⟨n,Hn⟩:=nm s.length;rw [Hn.out] at hz hs HO;have hdl:=dot_le s;rw [Hn.out] at hdl;obtain ⟨W,HW⟩:=nm (w.alloc (.cells #[.int .i64 0,.int .i64 0,.int .i64 0,.int .i64 0,.slice none 0 0] 40));have hU:Upd Non w W:=by rw [←HW.out];exact Upd.refl.alloc _
 have hb:Blk W w.heap.size 40 #[.int .i64 0,.int .i64 0,.int .i64 0,.int .i64 0,.slice none 0 0]:=by rw [←HW.out];exact Blk.new _ _ _
 have e0:=HW.out;have hpw:p<w.heap.size:=h.blk.lt;have HR:=h_ (h.non hU);have H:=h_ h;have HB:=h_ hb;have HUU:=h_ hU;clear h hb hU HW;go_enter Tryz.func107,Tryz.ntmps107;go_wp2_with fail
 go_loopg [8] (n+1) (fun g a wr=>∃k:Nat,Hid (g=n+1 - k)∧k≤n∧a=.int .i64 k∧Hid (dotF s=k+dotF (s.drop k))∧wr=W)
 case atStart=>exact ⟨0,rfl,by omega,rfl,by show _=_;rw [List.drop_zero];omega,rfl⟩
 case round =>
  obtain ⟨k,Hg,hk,rfl,HK,hwr⟩:=hrel;subst hwr;obtain ⟨D,HD⟩:=nm (decide (k<n)&&decide ((s.getD k 0).toNat≠46))
  go_upto_region 2 with fail
  go_cut [21] (fun s wx=>s=.bool D∧wx=wr)
  case first =>
   by_cases hlt:k<n
   ·have ti:decide ((k:Int)<(n:Int))=true:=dT_ (by omega);have i1:=fun W=>run_at_str hz hlt W
    rw [kx_kstr] at i1;generalize (s.getD k 0).toNat=y at i1 HD;obtain ⟨b,f1⟩:∃b,(((y:Int)) != 46)=b:=⟨_,rfl⟩
    obtain rfl:D=b:=by
     rw [←HD.out,←f1,dT_ hlt,Bool.true_and,Bool.eq_iff_iff,decide_eq_true_eq,bne_iff_ne];omega
    clear HD;go_wp2_with fail
    go_meet
    case rel=>exact ⟨rfl,rfl⟩
   ·have ti:decide ((k:Int)<(n:Int))=false:=dF_ (by omega);obtain rfl:D=false:=by rw [←HD.out,dF_ hlt];rfl
    clear HD;go_wp2_with fail
    go_meet
    case rel=>exact ⟨rfl,rfl⟩
  case rest =>
   obtain ⟨rfl,hwc⟩:=hcut;have hwc2:wr=wc:=hwc.symm;subst hwc2
   cases D with
   | true =>
    have hd:=HD.out;simp only [Bool.and_eq_true,decide_eq_true_eq] at hd;have hk2:=hd.1
    have HK2:Hid (dotF s=k+1+dotF (s.drop (k+1))):=by
     show _=_;have:=dot_step (s:=s) (k:=k) (by rw [Hn.out];exact hd.1);rw [if_neg hd.2] at this;rw [HK.out,this];omega
    clear hd HD HK hwc;go_wp2_with fail
    go_roundg (n+1 - (k+1))
    case measure=>rw [Hg.out];omega
    case rel=>exact ⟨k+1,rfl,by omega,by go_num,HK2,rfl⟩
   | false =>
    have hdk:dotF s=k:=by
     by_cases hlt:k<n
     ·have hd:=HD.out;rw [dT_ hlt,Bool.true_and,decide_eq_false_iff_not] at hd;have:=dot_step (s:=s) (k:=k) (by rw [Hn.out];exact hlt);rw [if_pos (by omega)] at this;rw [HK.out,this];rfl
     ·have : s.drop k=[]:=List.drop_of_length_le (by rw [Hn.out];omega);rw [HK.out,this];rfl
    rw [hdk] at HO;clear HD HK hwc Hg hdl hdk;have hto:=fun W=>run_to_str Hn.out hk W
    have CO:=h_ (r10Op_c (s.take k) wr);obtain ⟨ts,Hts⟩:=nm (kstr (s.take k));rw [Hts.out] at hto CO;have hfr:k+1≤n→∀W,(Instr.slice 9 (.string (kstr s)) (some (.int .i64 ((k:Int)+1))) none none).run Tryz.prog W=.ok (.string (kstr (s.drop (k+1)))) W:=fun q W=>run_from_str Hn.out q W
    obtain ⟨str,Hstr⟩:=nm (kstr s);rw [Hstr.out] at hz hto hfr ⊢;have HFR:=h_ hfr;clear hfr
    cases hop:opF (s.take k) with
    | none =>
     rw [hop] at CO HO;have HN:Hid (o=none):=HO.out;simp only [Option.getD_none,Option.isSome_none] at CO;clear hop HO HFR;go_wp2_with fail
     refine CO.out.mono ?_;rintro e w9 ⟨rfl,hu9⟩;clear CO;have HB9:=h_ (HB.out.upd hu9 (fun f=>f));have b9:=HB9.out;have y0:=b9.cell 0;have y1:=b9.cell 1;have y2:=b9.cell 2;have y3:=b9.cell 3;have y4:=b9.cell 4;have yf:=b9.frozen;clear b9;go_wp2_with fail
     rw [set5_eq];have us:=set5_upd w9 w.heap.size;refine bodyPost_ret (results_cell_row_tmp rfl _ _ w.heap.size 40 _ (0,0) _ rfl (set5_blk HB9.out _ _ _ _ _) Tryz.underlying40 rfl (by kernel_rfl)) rfl ?_;refine ⟨.mk 0 0 0 0 [],false,x,rfl,rfl,(H.out.non (HUU.out.then_non hu9)).upd (us _ _ _ _ _) (fun k _ e=>by subst e;exact hpw),(upd_eq (HUU.out.then_non hu9)).trans (us _ _ _ _ _) (fun j hj e=>by omega),(fun q=>by cases q),?_⟩
     rw [HN.out];exact .inl ⟨rfl,rfl⟩
    | some op =>
     rw [hop] at CO HO
     have HO2:Hid (o=if (arF op).isNone∨immOp op≠decide (k<n) then none
       else if immOp op=false then some (.mk 0 op 0 0 [],x.ps)
       else match decF (s.drop (k+1)) with
        | some n=>some (.mk 0 op n 0 [],x.ps)
        | none=>match s.drop (k+1) with
         | [c]=>if isLw c=true∧0<(lookF x.ms c x.left).1 then some (.mk 0 op 0 (lookF x.ms c x.left).1 [],{ x.ps with ms:=(lookF x.ms c x.left).2 }) else none
         | _=>none):=HO.out
     have HO:=HO2;obtain ⟨ho1,ho2⟩:=opF_lt hop;have hoe:=ops_eq ho1 ho2
     have HSN:Hid (s≠[]):=fun q=>by
      rw [q,List.take_nil] at hop;cases hop
     clear HO2 ho1 ho2;have CA:=h_ (fun W=>r15allowed_c op W);have CI:=h_ (fun W=>r15HasImm_c op W);simp only [Option.getD_some,Option.isSome_some] at CO;clear hop;obtain ⟨oi,Hoi⟩:=nm ((op:Nat):Int);rw [Hoi.out] at CO CA CI HO hoe;rcases hoe with ⟨hoa,hoi,hor⟩ | ⟨hoa,hoi⟩
     rotate_left
     ·rw [hoa] at CA;rw [hoi] at HO;have HN:Hid (o=none):=by show _=_;rw [HO.out,if_pos (.inl rfl)]
      clear hoa hoi HO HFR CI;go_wp2_with fail
      refine CO.out.mono ?_;rintro e w9 ⟨rfl,hu9⟩;go_wp2_with fail
      refine (CA.out _).mono ?_;rintro e w10 ⟨rfl,rfl⟩;clear CO CA;have HB9:=h_ (HB.out.upd hu9 (fun f=>f));have b9:=HB9.out;have y0:=b9.cell 0;have y1:=b9.cell 1;have y2:=b9.cell 2;have y3:=b9.cell 3;have y4:=b9.cell 4;have yf:=b9.frozen;clear b9;go_wp2_with fail
      rw [set5_eq];have us:=set5_upd w9 w.heap.size;refine bodyPost_ret (results_cell_row_tmp rfl _ _ w.heap.size 40 _ (0,0) _ rfl (set5_blk HB9.out _ _ _ _ _) Tryz.underlying40 rfl (by kernel_rfl)) rfl ?_;refine ⟨.mk 0 0 0 0 [],false,x,rfl,rfl,(H.out.non (HUU.out.then_non hu9)).upd (us _ _ _ _ _) (fun k _ e=>by subst e;exact hpw),(upd_eq (HUU.out.then_non hu9)).trans (us _ _ _ _ _) (fun j hj e=>by omega),(fun q=>by cases q),?_⟩
      rw [HN.out];exact .inl ⟨rfl,rfl⟩
     rw [hoa] at CA;rw [hoi] at CI;have HOR:=h_ hor;clear hoa hoi hor
     cases har:arF oi with
     | none =>
      rw [har] at CA HO;have HN:Hid (o=none):=by show _=_;rw [HO.out,if_pos (.inl rfl)]
      simp only [Option.isSome_none] at CA;clear har HO HFR CI;go_wp2_with fail
      refine CO.out.mono ?_;rintro e w9 ⟨rfl,hu9⟩;go_wp2_with fail
      refine (CA.out _).mono ?_;rintro e w10 ⟨rfl,rfl⟩;clear CO CA;have HB9:=h_ (HB.out.upd hu9 (fun f=>f));have b9:=HB9.out;have y0:=b9.cell 0;have y1:=b9.cell 1;have y2:=b9.cell 2;have y3:=b9.cell 3;have y4:=b9.cell 4;have yf:=b9.frozen;clear b9;go_wp2_with fail
      rw [set5_eq];have us:=set5_upd w9 w.heap.size;refine bodyPost_ret (results_cell_row_tmp rfl _ _ w.heap.size 40 _ (0,0) _ rfl (set5_blk HB9.out _ _ _ _ _) Tryz.underlying40 rfl (by kernel_rfl)) rfl ?_;refine ⟨.mk 0 0 0 0 [],false,x,rfl,rfl,(H.out.non (HUU.out.then_non hu9)).upd (us _ _ _ _ _) (fun k _ e=>by subst e;exact hpw),(upd_eq (HUU.out.then_non hu9)).trans (us _ _ _ _ _) (fun j hj e=>by omega),(fun q=>by cases q),?_⟩
      rw [HN.out];exact .inl ⟨rfl,rfl⟩
     | some ar =>
      rw [har] at CA HO;simp only [Option.isSome_some] at CA;obtain ⟨im,Him⟩:=nm (immOp oi);rw [Him.out] at CI HO;by_cases hlt:k<n
      ·have fl:decide ((k:Int)<(n:Int))=true:=dT_ (by omega)
       cases im with
       | false =>
        have HN:Hid (o=none):=by show _=_;rw [HO.out,if_pos (.inr (by simp [hlt]))]
        clear har HO HFR;go_wp2_with fail
        refine CO.out.mono ?_;rintro e w9 ⟨rfl,hu9⟩;go_wp2_with fail
        refine (CA.out _).mono ?_;rintro e w10 ⟨rfl,rfl⟩;clear CO CA;go_wp2_with fail
        refine (CI.out _).mono ?_;rintro e w11 ⟨rfl,rfl⟩;clear CI;have HB9:=h_ (HB.out.upd hu9 (fun f=>f));have b9:=HB9.out;have y0:=b9.cell 0;have y1:=b9.cell 1;have y2:=b9.cell 2;have y3:=b9.cell 3;have y4:=b9.cell 4;have yf:=b9.frozen;clear b9;go_wp2_with fail
        rw [set5_eq];have us:=set5_upd w9 w.heap.size;refine bodyPost_ret (results_cell_row_tmp rfl _ _ w.heap.size 40 _ (0,0) _ rfl (set5_blk HB9.out _ _ _ _ _) Tryz.underlying40 rfl (by kernel_rfl)) rfl ?_;refine ⟨.mk 0 0 0 0 [],false,x,rfl,rfl,(H.out.non (HUU.out.then_non hu9)).upd (us _ _ _ _ _) (fun k _ e=>by subst e;exact hpw),(upd_eq (HUU.out.then_non hu9)).trans (us _ _ _ _ _) (fun j hj e=>by omega),(fun q=>by cases q),?_⟩
        rw [HN.out];exact .inl ⟨rfl,rfl⟩
       | true =>
        have HO3:Hid (o=match decF (s.drop (k+1)) with
          | some n=>some (.mk 0 oi n 0 [],x.ps)
          | none=>immF (s.drop (k+1)) fun c=>if isLw c=true∧0<(lookF x.ms c x.left).1 then some (.mk 0 oi 0 (lookF x.ms c x.left).1 [],{ x.ps with ms:=(lookF x.ms c x.left).2 }) else none):=by
         show _=_;rw [HO.out,if_neg (by simp [hlt]),if_neg (by decide)];rfl
        have hfr:=HFR.out (by omega);clear har HO HFR;obtain ⟨t,Ht⟩:=nm (s.drop (k+1));rw [Ht.out] at HO3 hfr;have htl:t.length≤1000000:=by rw [←Ht.out,List.length_drop];have:=Hn.out;omega
        have CW:=h_ (fun W=>r1Parse_c t W htl);have CL:=h_ (fun W=>xIsLetter_c (kstr t) W);rw [kx_kstr] at CL;obtain ⟨tq,Htq⟩:=nm (kstr t);rw [Htq.out] at hfr CW CL
        cases hl:isLt t with
        | false =>
         rw [hl] at CL;obtain ⟨d,Hd⟩:=nm (decF t);rw [Hd.out] at HO3 CW;obtain ⟨z1,Hz1⟩:=nm (d.getD 0);obtain ⟨z2,Hz2⟩:=nm d.isSome;rw [Hz1.out,Hz2.out] at CW;go_wp2_with fail
         refine CO.out.mono ?_;rintro e w9 ⟨rfl,hu9⟩;go_wp2_with fail
         refine (CA.out _).mono ?_;rintro e w10 ⟨rfl,rfl⟩;clear CO CA;go_wp2_with fail
         refine (CI.out _).mono ?_;rintro e w11 ⟨rfl,rfl⟩;clear CI;obtain ⟨W2,HW2⟩:=nm (w9.alloc (.cells #[.int .i64 0,.int .i64 oi,.int .i64 0,.int .i64 0,.slice none 0 0] 40));have hu2:Upd Non w9 W2:=by rw [←HW2.out];exact Upd.refl.alloc _
         have hb2:Blk W2 w9.heap.size 40 #[.int .i64 0,.int .i64 oi,.int .i64 0,.int .i64 0,.slice none 0 0]:=by rw [←HW2.out];exact Blk.new _ _ _
         have hlt9:w.heap.size<w9.heap.size:=by have:=HB.out.lt;have:=hu9.size;omega
         have HB2:=h_ hb2;have HU92:=h_ (hu9.then_non hu2);clear hb2 hu2
         go_upto_region 8 with fail
         rw [HW2.out];go_wp2_with fail
         refine (CL.out _).mono ?_;rintro e w12 ⟨rfl,rfl⟩;have f2:=HB2.out.frozen;have g2:=HB2.out.cell 2;clear CL HW2;go_wp2_with fail
         refine (CW.out _).mono ?_;rintro e w13 ⟨rfl,rfl⟩
         have HB3:Hid (Blk (w13.setCell ⟨w9.heap.size,2,none⟩ (.int .i64 z1)) w9.heap.size 40 #[.int .i64 0,.int .i64 oi,.int .i64 z1,.int .i64 0,.slice none 0 0]):=by
          have:=HB2.out.set_ 2 (.int .i64 z1);show Blk _ _ _ _;simpa using this
         have u3:Upd (·=w9.heap.size) w13 (w13.setCell ⟨w9.heap.size,2,none⟩ (.int .i64 z1)):=updCell _ _ _ _;obtain ⟨W3,HW3⟩:=nm (w13.setCell ⟨w9.heap.size,2,none⟩ (.int .i64 z1));rw [HW3.out] at HB3 u3;have x0:=HB3.out.cell 0;have x1:=HB3.out.cell 1;have x2:=HB3.out.cell 2;have x3:=HB3.out.cell 3;have x4:=HB3.out.cell 4;have e3:=HW3.out;have HB9:=h_ ((HB.out.upd HU92.out (fun f=>f)).upd u3 (by omega));have HU3:Hid (Upd (·=p) w W3):=((upd_eq (HUU.out.then_non HU92.out)).trans u3 (fun k hk e=>by have:=HUU.out.size;omega));have HX3:Hid (XdS W3 p A c T fin x):=(H.out.non (HUU.out.then_non HU92.out)).upd u3 (fun k _ e=>by omega);obtain ⟨w9,rfl⟩:∃v:World,v=W3:=⟨_,rfl⟩;clear CW u3 HW3;have b9:=HB9.out;have y0:=b9.cell 0;have y1:=b9.cell 1;have y2:=b9.cell 2;have y3:=b9.cell 3;have y4:=b9.cell 4;have yf:=b9.frozen;clear b9;go_wp2_with fail
         rw [set5_eq];have us:=set5_upd w9 w.heap.size;refine bodyPost_ret (results_cell_row_tmp rfl _ _ w.heap.size 40 _ (0,0) _ rfl (set5_blk HB9.out _ _ _ _ _) Tryz.underlying40 rfl (by kernel_rfl)) rfl ?_;refine ⟨.mk 0 oi z1 0 [],z2,x,rfl,rfl,HX3.out.upd (us _ _ _ _ _) (fun k _ e=>by omega),HU3.out.trans (us _ _ _ _ _) (fun j hj e=>by omega),(fun _=>⟨HSN.out,rfl,HOR.out⟩),?_⟩
         rw [HO3.out];have HNO:=immF_no hl (G:=fun c=>if isLw c=true∧0<(lookF x.ms c x.left).1 then some ((Pt.mk 0 oi 0 (lookF x.ms c x.left).1 []:Pt),{ x.ps with ms:=(lookF x.ms c x.left).2 }) else none) (fun c hc=>if_neg (fun q=>by rw [hc] at q;cases q.1))
         rw [←Hz1.out,←Hz2.out]
         cases d with
         | some nn=>exact ⟨rfl,rfl,rfl,rfl,rfl⟩
         | none =>
          dsimp only;rw [HNO];exact .inl ⟨rfl,rfl⟩
        | true =>
         rw [hl] at CL;obtain ⟨cc,rfl,hcc⟩:=isLt_some hl;rw [decF_lw hcc] at HO3;have HO4:Hid (o=if isLw cc=true∧0<(lookF x.ms cc x.left).1 then some (.mk 0 oi 0 (lookF x.ms cc x.left).1 [],{ x.ps with ms:=(lookF x.ms cc x.left).2 }) else none):=HO3.out
         clear hl HO3 CW;go_wp2_with fail
         refine CO.out.mono ?_;rintro e w9 ⟨rfl,hu9⟩;go_wp2_with fail
         refine (CA.out _).mono ?_;rintro e w10 ⟨rfl,rfl⟩;clear CO CA;go_wp2_with fail
         refine (CI.out _).mono ?_;rintro e w11 ⟨rfl,rfl⟩;clear CI;obtain ⟨W2,HW2⟩:=nm (w9.alloc (.cells #[.int .i64 0,.int .i64 oi,.int .i64 0,.int .i64 0,.slice none 0 0] 40));have hu2:Upd Non w9 W2:=by rw [←HW2.out];exact Upd.refl.alloc _
         have hb2:Blk W2 w9.heap.size 40 #[.int .i64 0,.int .i64 oi,.int .i64 0,.int .i64 0,.slice none 0 0]:=by rw [←HW2.out];exact Blk.new _ _ _
         have hlt9:w.heap.size<w9.heap.size:=by have:=HB.out.lt;have:=hu9.size;omega
         have HB2:=h_ hb2;have HU92:=h_ (hu9.then_non hu2);clear hb2 hu2
         go_upto_region 8 with fail
         rw [HW2.out];go_wp2_with fail
         refine (CL.out _).mono ?_;rintro e w12 ⟨rfl,rfl⟩;clear CL HW2
         go_upto_region 10 with fail
         obtain ⟨wD,HwD⟩:=nm w12.drew;have uD:Upd Non w12 wD:=by rw [←HwD.out];exact Upd.refl.drew
         have vD:Upd Non w wD:=(HUU.out.then_non HU92.out).then_non uD;have CK:=h_ (xVariable_g (H.out.non vD) 6 x.ms (fun v=>{ x with ms:=v }) rfl (fun v=>rfl) hn cc pos);rw [Htq.out] at CK;have b2:=HB2.out.upd uD (fun f=>f);have wk:IntKind.i64.wrap ((k:Int)+1)=(k:Int)+1:=i64w_of (by unfold I64;omega);refine wp_region_held_drew (S:=fun _=>True) (by kernel_rfl) trivial (fun hHeld=>?_);rw [HwD.out];refine wpT 0 ?_;(try simp only [y_,z_]);refine wpT 1 ?_;(try simp only [y_,z_]);refine wpT 2 ?_;(try simp only [y_,z_]);refine wpT 3 ?_;(try simp only [y_,z_]);refine wpT 4 ?_;(try simp only [y_,z_]);refine wpT 5 ?_;(try simp only [y_,z_]);refine wpT 6 ?_;(try simp only [y_,z_]);refine wpT 7 ?_;(try simp only [y_,z_]);refine wpT 8 ?_;(try simp only [y_,z_]);refine aR_ (rs:=[9]) (by kernel_rfl) (by simp) ?_;refine aC_ rfl (fun K hK=>?_) aN_;go_simp;refine CK.out.mono ?_;rintro e w2 ⟨rfl,hy,hu2⟩;go_wp2_with fail
         refine hK.out _ _ ?_ (fun hHeld=>?_)
         ·exact trivial
         clear hK K;(try simp only [y_,z_]);refine wpT 10 ?_;(try simp only [y_,z_]);obtain ⟨kk,Hkk⟩:=nm (lookF x.ms cc x.left);rw [Hkk.out] at hy HO4 ⊢;have b2:=b2.upd hu2 (by omega);have d3:=b2.cell 3;have f3:=b2.frozen 3;refine aR_ (rs:=[11]) (by kernel_rfl) (by simp) ?_;refine aC_ rfl (fun K hK=>?_) aN_;go_simp;refine hK.out _ _ ?_ (fun hHeld=>?_)
         ·exact trivial
         clear hK K;(try simp only [y_,z_]);refine aD_ (by kernel_rfl) ?_ _
         have HB3:Hid (Blk (w2.setCell ⟨w9.heap.size,3,none⟩ (.int .i64 (kk.1:Nat))) w9.heap.size 40 #[.int .i64 0,.int .i64 oi,.int .i64 0,.int .i64 (kk.1:Nat),.slice none 0 0]):=by
          have:=b2.set_ 3 (.int .i64 (kk.1:Nat));show Blk _ _ _ _;simpa using this
         have u3:Upd (·=w9.heap.size) w2 (w2.setCell ⟨w9.heap.size,3,none⟩ (.int .i64 (kk.1:Nat))):=updCell _ _ _ _;obtain ⟨W3,HW3⟩:=nm (w2.setCell ⟨w9.heap.size,3,none⟩ (.int .i64 (kk.1:Nat)));rw [HW3.out] at HB3 u3 ⊢;have x0:=HB3.out.cell 0;have x1:=HB3.out.cell 1;have x2:=HB3.out.cell 2;have x3:=HB3.out.cell 3;have x4:=HB3.out.cell 4;have HB9:=h_ ((((HB.out.upd HU92.out (fun f=>f)).upd uD (fun f=>f)).upd hu2 (by omega)).upd u3 (by omega));have HU3:Hid (Upd (·=p) w W3):=(((upd_eq vD).trans hu2 (fun _ _ e=>e)).trans u3 (fun k hk e=>by have:=HUU.out.size;omega));have HX3:=h_ (hy.upd u3 (fun k _ e=>by omega));obtain ⟨w9,rfl⟩:∃v:World,v=W3:=⟨_,rfl⟩;clear CK u3 HW3 hHeld hy hu2 b2 d3 f3 uD vD HwD HB2;obtain ⟨kn,Hkn⟩:=nm kk.1;unfold xvY at HX3;rw [Hkn.out] at HO4 HX3 HB3 x3 ⊢;have b9:=HB9.out;have y0:=b9.cell 0;have y1:=b9.cell 1;have y2:=b9.cell 2;have y3:=b9.cell 3;have y4:=b9.cell 4;have yf:=b9.frozen;clear b9;go_wp2_with fail
         rw [set5_eq];have us:=set5_upd w9 w.heap.size;refine bodyPost_ret (results_cell_row_tmp rfl _ _ w.heap.size 40 _ (0,0) _ rfl (set5_blk HB9.out _ _ _ _ _) Tryz.underlying40 rfl (by kernel_rfl)) rfl ?_;refine ⟨.mk 0 oi 0 kn [],true,_,rfl,rfl,HX3.out.upd (us _ _ _ _ _) (fun k _ e=>by omega),HU3.out.trans (us _ _ _ _ _) (fun j hj e=>by omega),(fun _=>⟨HSN.out,rfl,HOR.out⟩),?_⟩
         rw [HO4.out];by_cases hkn:0<kn
         ·rw [if_pos ⟨hcc,hkn⟩,if_neg (by omega)];exact ⟨rfl,rfl,rfl,rfl,rfl⟩
         ·rw [if_neg (fun q=>hkn q.2),if_pos (by omega)];exact .inr ⟨rfl,rfl⟩
      ·have fl:decide ((k:Int)<(n:Int))=false:=dF_ (by omega)
       cases im with
       | true =>
        have HN:Hid (o=none):=by show _=_;rw [HO.out,if_pos (.inr (by simp [hlt]))]
        clear har HO HFR;go_wp2_with fail
        refine CO.out.mono ?_;rintro e w9 ⟨rfl,hu9⟩;go_wp2_with fail
        refine (CA.out _).mono ?_;rintro e w10 ⟨rfl,rfl⟩;clear CO CA;go_wp2_with fail
        refine (CI.out _).mono ?_;rintro e w11 ⟨rfl,rfl⟩;clear CI;have HB9:=h_ (HB.out.upd hu9 (fun f=>f));have b9:=HB9.out;have y0:=b9.cell 0;have y1:=b9.cell 1;have y2:=b9.cell 2;have y3:=b9.cell 3;have y4:=b9.cell 4;have yf:=b9.frozen;clear b9;go_wp2_with fail
        rw [set5_eq];have us:=set5_upd w9 w.heap.size;refine bodyPost_ret (results_cell_row_tmp rfl _ _ w.heap.size 40 _ (0,0) _ rfl (set5_blk HB9.out _ _ _ _ _) Tryz.underlying40 rfl (by kernel_rfl)) rfl ?_;refine ⟨.mk 0 0 0 0 [],false,x,rfl,rfl,(H.out.non (HUU.out.then_non hu9)).upd (us _ _ _ _ _) (fun k _ e=>by subst e;exact hpw),(upd_eq (HUU.out.then_non hu9)).trans (us _ _ _ _ _) (fun j hj e=>by omega),(fun q=>by cases q),?_⟩
        rw [HN.out];exact .inl ⟨rfl,rfl⟩
       | false =>
        have HS:Hid (o=some (.mk 0 oi 0 0 [],x.ps)):=by show _=_;rw [HO.out,if_neg (by simp [hlt]),if_pos rfl]
        clear har HO HFR;go_wp2_with fail
        refine CO.out.mono ?_;rintro e w9 ⟨rfl,hu9⟩;go_wp2_with fail
        refine (CA.out _).mono ?_;rintro e w10 ⟨rfl,rfl⟩;clear CO CA;go_wp2_with fail
        refine (CI.out _).mono ?_;rintro e w11 ⟨rfl,rfl⟩;clear CI;obtain ⟨W2,HW2⟩:=nm (w9.alloc (.cells #[.int .i64 0,.int .i64 oi,.int .i64 0,.int .i64 0,.slice none 0 0] 40));have hu2:Upd Non w9 W2:=by rw [←HW2.out];exact Upd.refl.alloc _
        have hb2:Blk W2 w9.heap.size 40 #[.int .i64 0,.int .i64 oi,.int .i64 0,.int .i64 0,.slice none 0 0]:=by rw [←HW2.out];exact Blk.new _ _ _
        have x0:=hb2.cell 0;have x1:=hb2.cell 1;have x2:=hb2.cell 2;have x3:=hb2.cell 3;have x4:=hb2.cell 4;have hu9:=hu9.then_non hu2;have HB9:=h_ (HB.out.upd hu9 (fun f=>f));obtain ⟨w9',Hw9'⟩:=nm w9;rw [Hw9'.out] at HW2 x0 x1 x2 x3 x4
        go_upto_region 8 with fail
        rw [Hw9'.out,HW2.out];obtain ⟨w9,rfl⟩:∃v:World,v=W2:=⟨_,rfl⟩;clear hb2 hu2 HW2;have b9:=HB9.out;have y0:=b9.cell 0;have y1:=b9.cell 1;have y2:=b9.cell 2;have y3:=b9.cell 3;have y4:=b9.cell 4;have yf:=b9.frozen;clear b9;go_wp2_with fail
        rw [set5_eq];have us:=set5_upd w9 w.heap.size;refine bodyPost_ret (results_cell_row_tmp rfl _ _ w.heap.size 40 _ (0,0) _ rfl (set5_blk HB9.out _ _ _ _ _) Tryz.underlying40 rfl (by kernel_rfl)) rfl ?_;refine ⟨.mk 0 oi 0 0 [],true,x,rfl,rfl,(H.out.non (HUU.out.then_non hu9)).upd (us _ _ _ _ _) (fun k _ e=>by subst e;exact hpw),(upd_eq (HUU.out.then_non hu9)).trans (us _ _ _ _ _) (fun j hj e=>by omega),(fun _=>⟨HSN.out,rfl,HOR.out⟩),?_⟩
        rw [HS.out];exact ⟨rfl,rfl,rfl,rfl,rfl⟩
set_option maxRecDepth 100000 in
set_option maxHeartbeats 1000000 in
theorem r1formatUint_c (n:Nat) (hn:n≤18446744073709551615) (w:World):Calls Tryz.prog 114 #[.int .u64 n] w fun e w'=>e=.returned (.string (kstr (decD n)))∧Upd Non w w':=by
 induction n using Nat.strongRecOn generalizing w with
 | ind n ih =>
  by_cases hlt:n<10
  ·obtain ⟨ch,Hch⟩:=nm (UInt8.ofNat (48+n));have hc:((48:Int)+(n:Int))=(ch.toNat:Nat):=by rw [←Hch.out];simp;omega
   have HR:Hid (decD n=[ch]):=by show _=_;rw [decD_lt hlt,Hch.out]
   have hA:U8Blk (w.alloc (.cells #[.int .u8 (48+(n:Int))] 5)) w.heap.size [ch]:=by rw [hc];exact Blk.new _ _ _
   have cx:=run_kstr (c:=1) (n:=1) hA rfl;have t0:decide ((n:Int)<10)=true:=dT_ (by omega);clear ih hc;go_enter Tryz.func114,Tryz.ntmps114;go_wp2_with fail
   go_ret;exact ⟨by rw [HR.out];rfl,Upd.refl.alloc _⟩
  ·obtain ⟨ch,Hch⟩:=nm (UInt8.ofNat (48+n % 10));have hc:((48:Int)+(n:Int) % 10)=(ch.toNat:Nat):=by rw [←Hch.out];simp;omega
   have HR:Hid (decD n=decD (n / 10)++[ch]):=by show _=_;rw [decD_ge hlt (by omega),Hch.out]
   have CF:=h_ (ih (n / 10) (by omega) (by omega));obtain ⟨wD,HwD⟩:=nm w.drew;have uD:Upd Non w wD:=by rw [←HwD.out];exact Upd.refl.drew
   have t0:decide ((n:Int)<10)=false:=dF_ (by omega);clear ih;go_enter Tryz.func114,Tryz.ntmps114;have e1:((n / 10:Nat):Int)=(n:Int) / 10:=by omega
   have wq:IntKind.u64.wrap ((n:Int) / 10)=(n:Int) / 10:=by simp [IntKind.wrap,IntKind.bits,IntKind.signed];omega
   have wt:IntKind.u8.wrap (IntKind.u64.wrap (48+(n:Int).tmod 10))=(ch.toNat:Nat):=by
    rw [←hc,show (n:Int).tmod 10=(n:Int) % 10 from Int.tmod_eq_emod_of_nonneg (by omega)];simp [IntKind.wrap,IntKind.bits,IntKind.signed];omega
   rw [e1] at CF;have HE:Hid (kstr (decD (n / 10))++kstr [ch]=kstr (decD n)):=by show _=_;rw [HR.out,kstr_app]
   have hzd:(kstr (decD (n / 10))).size≤20:=by rw [kstr_size];exact decD_len _
   have hzc:(kstr [ch]).size≤1:=by rw [kstr_size];exact Nat.le_refl _
   obtain ⟨qd,Hqd⟩:=nm (kstr (decD (n / 10)));obtain ⟨qc,Hqc⟩:=nm (kstr [ch]);rw [Hqd.out] at HE CF hzd;rw [Hqc.out] at HE hzc;rw [←HE.out];have g1:¬9223372036854775807<qd.size+qc.size:=by omega
   go_upto_region 3 with fail
   refine wp_region_held_drew (S:=fun _=>True) (by kernel_rfl) trivial (fun hHeld=>?_);rw [HwD.out];refine wpT 0 ?_;(try simp only [y_,z_]);refine wpT 1 ?_;(try simp only [y_,z_]);refine wpT 3 ?_;(try simp only [y_,z_]);refine wpT 4 ?_;(try simp only [y_,z_]);refine wpT 5 ?_;(try simp only [y_,z_]);refine wpT 6 ?_;(try simp only [y_,z_])
   try simp only [wq,wt]
   refine aR_ (rs:=[2,7]) (by kernel_rfl) (by simp) ?_;refine aC_ rfl (fun K hK=>?_) (aC_ rfl (fun K hK=>?_) aN_)
   ·obtain ⟨WW,rfl⟩:∃v:World,v=wD:=⟨_,rfl⟩;go_simp;refine (CF.out WW).mono ?_;rintro e W5 ⟨rfl,U5⟩;go_wp2_with fail
    refine hK.out _ _ ?_ (fun hHeld=>?_)
    ·exact trivial
    clear hK K;(try simp only [y_,z_]);refine aR_ (rs:=[7]) (by kernel_rfl) (by simp) ?_;refine aC_ rfl (fun K hK=>?_) aN_;obtain ⟨WW,rfl⟩:∃v:World,v=W5:=⟨_,rfl⟩;go_simp;have hA:U8Blk (WW.alloc (.cells #[.int .u8 (ch.toNat:Nat)] 5)) WW.heap.size [ch]:=Blk.new _ _ _;have UA:Upd Non WW (WW.alloc (.cells #[.int .u8 (ch.toNat:Nat)] 5)):=Upd.refl.alloc _;obtain ⟨WA,HWA⟩:=nm (WW.alloc (.cells #[.int .u8 (ch.toNat:Nat)] 5));rw [HWA.out] at hA UA ⊢;refine hK.out _ _ ?_ (fun hHeld=>?_)
    ·exact trivial
    clear hK K;(try simp only [y_,z_]);have UU:=(uD.then_non U5).then_non UA;refine aR_ (rs:=[8]) (by kernel_rfl) (by simp) ?_;refine aC_ rfl (fun K hK=>?_) aN_;have cx:=run_kstr (c:=1) (n:=1) hA rfl;rw [Hqc.out] at cx;go_simp;refine hK.out _ _ ?_ (fun hHeld=>?_)
    ·exact trivial
    clear hK K;(try simp only [y_,z_]);clear cx;refine wpT 9 ?_;(try simp only [y_,z_]);refine wpT 10 ?_;(try simp only [y_,z_]);refine aD_ (by kernel_rfl) ?_ _;go_wp2_with fail
    go_ret;exact ⟨rfl,UU⟩
   ·obtain ⟨WW,rfl⟩:∃v:World,v=wD:=⟨_,rfl⟩;go_simp;have hA:U8Blk (WW.alloc (.cells #[.int .u8 (ch.toNat:Nat)] 5)) WW.heap.size [ch]:=Blk.new _ _ _;have UA:Upd Non WW (WW.alloc (.cells #[.int .u8 (ch.toNat:Nat)] 5)):=Upd.refl.alloc _;obtain ⟨WA,HWA⟩:=nm (WW.alloc (.cells #[.int .u8 (ch.toNat:Nat)] 5));rw [HWA.out] at hA UA ⊢;refine hK.out _ _ ?_ (fun hHeld=>?_)
    ·exact trivial
    clear hK K;(try simp only [y_,z_]);refine aR_ (rs:=[2,8]) (by kernel_rfl) (by simp) ?_;refine aC_ rfl (fun K hK=>?_) (aC_ rfl (fun K hK=>?_) aN_)
    ·have h0:=hA;obtain ⟨WW,rfl⟩:∃v:World,v=WA:=⟨_,rfl⟩;go_simp;refine (CF.out WW).mono ?_;rintro e W5 ⟨rfl,U5⟩;go_wp2_with fail
     refine hK.out _ _ ?_ (fun hHeld=>?_)
     ·exact trivial
     clear hK K;(try simp only [y_,z_]);have UU:=(uD.then_non UA).then_non U5;have hA:=h0.upd U5 (fun f=>f);refine aR_ (rs:=[8]) (by kernel_rfl) (by simp) ?_;refine aC_ rfl (fun K hK=>?_) aN_;have cx:=run_kstr (c:=1) (n:=1) hA rfl;rw [Hqc.out] at cx;go_simp;refine hK.out _ _ ?_ (fun hHeld=>?_)
     ·exact trivial
     clear hK K;(try simp only [y_,z_]);clear cx;refine wpT 9 ?_;(try simp only [y_,z_]);refine wpT 10 ?_;(try simp only [y_,z_]);refine aD_ (by kernel_rfl) ?_ _;go_wp2_with fail
     go_ret;exact ⟨rfl,UU⟩
    ·skip;have cx:=run_kstr (c:=1) (n:=1) hA rfl;rw [Hqc.out] at cx;go_simp;refine hK.out _ _ ?_ (fun hHeld=>?_)
     ·exact trivial
     clear hK K;(try simp only [y_,z_]);clear cx;refine aR_ (rs:=[2]) (by kernel_rfl) (by simp) ?_;refine aC_ rfl (fun K hK=>?_) aN_;obtain ⟨WW,rfl⟩:∃v:World,v=WA:=⟨_,rfl⟩;go_simp;refine (CF.out WW).mono ?_;rintro e W5 ⟨rfl,U5⟩;go_wp2_with fail
     refine hK.out _ _ ?_ (fun hHeld=>?_)
     ·exact trivial
     clear hK K;(try simp only [y_,z_]);have UU:=(uD.then_non UA).then_non U5;refine wpT 9 ?_;(try simp only [y_,z_]);refine wpT 10 ?_;(try simp only [y_,z_]);refine aD_ (by kernel_rfl) ?_ _;go_wp2_with fail
     go_ret;exact ⟨rfl,UU⟩
set_option maxRecDepth 100000 in
set_option maxHeartbeats 1000000 in
theorem r1Text_c (n:Int) (h0:-9223372036854775808≤n) (h1:n≤9223372036854775807) (w:World):Calls Tryz.prog 91 #[.int .i64 n] w fun e w'=>e=.returned (.string (kstr (textF n)))∧Upd Non w w':=by
 have C:=h_ (r1formatUint_c n.natAbs (by omega) w)
 have HL:Hid ((kstr (decD n.natAbs)).size≤20):=by
  show _≤_;rw [kstr_size];exact decD_len _
 have HE:Hid (kstr (textF n)=if n<0 then ({ data:=#[45] }:ByteArray)++kstr (decD n.natAbs) else kstr (decD n.natAbs)):=by
  show _=_;unfold textF
  split
  ·exact (kstr_app [45] _).symm
  ·rfl
 obtain ⟨s,Hs⟩:=nm (kstr (decD n.natAbs));obtain ⟨t,Ht⟩:=nm (kstr (textF n));rw [Hs.out] at C HL HE;rw [Ht.out] at HE ⊢;have hl:=HL.out;by_cases hn:n<0
 ·have t0:decide (n<0)=true:=dT_ hn;have HR:Hid (t=({ data:=#[45] }:ByteArray)++s):=by show _=_;rw [HE.out,if_pos hn]
  rw [show ((n.natAbs:Nat):Int) = -n by omega] at C;clear HE HL Hs Ht;go_enter Tryz.func91,Tryz.ntmps91;have hw1:wrap64 (n+1)=n+1:=wrap64_of (by unfold I64;omega);have hw2:wrap64 (-(n+1)) = -(n+1):=wrap64_of (by unfold I64;omega)
  have hw3:IntKind.u64.wrap (IntKind.u64.wrap (-(n+1))+1) = -n:=by
   simp [IntKind.wrap,IntKind.bits,IntKind.signed];omega
  go_wp2_with fail
  rw [show -(n+1)+1 = -n by omega];refine C.out.mono ?_;rintro e w2 ⟨rfl,hu⟩;clear C hw1 hw2 hw3;go_wp2_with fail
  go_ret;exact ⟨by rw [HR.out];rfl,hu⟩
 ·have t0:decide (n<0)=false:=dF_ hn;have HR:Hid (t=s):=by show _=_;rw [HE.out,if_neg hn]
  rw [show ((n.natAbs:Nat):Int)=n by omega] at C;clear HE HL Hs Ht;go_enter Tryz.func91,Tryz.ntmps91;go_wp2_with fail
  refine C.out.mono ?_;rintro e w2 ⟨rfl,hu⟩;clear C;go_wp2_with fail
  go_ret;exact ⟨by rw [HR.out];rfl,hu⟩
set_option maxRecDepth 100000 in
theorem r10Name_c (op:Int) (h0:4≤op) (h1:op<32) (w:World):Calls Tryz.prog 92 #[.int .i64 op] w fun e w'=>e=.returned (.tuple #[.string (kstr (opNm op)),.bool true])∧Upd Non w w':=by
 have C:=h_ (r10names_c w);obtain ⟨k,rfl⟩:∃k:Nat,op=4+k:=⟨(op - 4).toNat,by omega⟩;have hk:k<28:=by omega
 have hkl:k<nameL.length:=hk
 have HN:Hid (opNm (4+(k:Int))=nameL[k]):=by
  show _=_;unfold opNm;rw [show (4+(k:Int) - 4).toNat=k by omega,List.getD,List.getElem?_eq_getElem hkl,Option.getD_some]
 rw [HN.out];obtain ⟨nk,Hnk⟩:=nm (kstr nameL[k]);rw [Hnk.out];have t1:decide (4+(k:Int)<4)=false:=dF_ (by omega);have t2:decide (31<4+(k:Int))=false:=dF_ (by omega);have t3:4+(k:Int) - 4=(k:Int):=by omega
 clear HN h0 h1;go_enter Tryz.func92,Tryz.ntmps92;go_wp2_with fail
 refine C.out.mono ?_;rintro e W ⟨rfl,hs,hu⟩;obtain ⟨b,o,e,_,_,hc⟩:=hs.at_ (k:=k) (by simpa [sCells] using hkl);injection e with e
 injection e with e1 e2
 subst e1 e2;have hc2:W.cell? ⟨w.heap.size,k,none⟩=some (.string (kstr nameL[k])):=by rw [Nat.zero_add] at hc;rw [hc];simp [sCells]
 rw [Hnk.out] at hc2;clear C hs hc;go_wp2_with fail
 go_ret2;exact ⟨rfl,hu⟩
theorem hcf78:∀(args:Array Value) (w:World),(callFunc 116 args).run Tryz.prog w=.ok (.enter 116 args) w:=fun args w=>by
 simp [callFunc,Tryz.func116,Tryz.f116]
theorem oper_len {left:Bool} {s:Bs} {x ps:PS} {q:Pt} (h:operF left s x=some (q,ps)):ps.vs.length≤x.vs.length+1∧ps.ms.length≤x.ms.length+1:=by
 unfold operF at h;dsimp only at h
 split at h
 ·cases h
 ·split at h
  ·cases h
  ·split at h
   ·injection h with h;injection h with _ h;subst h;exact ⟨Nat.le_succ _,Nat.le_succ _⟩
   ·split at h
    ·injection h with h;injection h with _ h;subst h;exact ⟨Nat.le_succ _,Nat.le_succ _⟩
    ·split at h
     ·split at h
      ·injection h with h;injection h with _ h;subst h;exact ⟨Nat.le_succ _,lookF_len _ _ _⟩
      ·cases h
     ·cases h
set_option maxRecDepth 100000 in
set_option maxHeartbeats 4000000 in
theorem rApplication_c {L:List Tok} {T:List (Bs×Nat)} {fin:Nat} (hL:LOk L T fin) (left:Bool) (f:Nat)
  (HT:Hid (∀{w:World} {p:Nat} {A:Option Addr} {c:Nat} {x:St},RdS w p A c L x→Good T x→x.left=left→x.why=0→T.length<x.i+f→Calls Tryz.prog 64 #[.pointer (some ⟨p,0,none⟩)] w (TermP T w p A c L x (termF T fin left f (psOf x)))))
  {w:World} {p:Nat} {A:Option Addr} {c:Nat} {x:St} (h:RdS w p A c L x) (hx:Good T x) (hl:x.left=left) (h0:x.why=0) (hf:T.length<x.i+f) :
  Calls Tryz.prog 94 #[.pointer (some ⟨p,0,none⟩)] w (TermP T w p A c L x (appF T fin left f (psOf x))):=by
 have hiL:x.i<L.length:=by have:=hL.lt;have:=hx.1;omega
 have hLl:=hL.len;obtain ⟨W1,HW1⟩:=nm (w.alloc (.cells #[.pointer (some ⟨p,0,none⟩)] 54));have u1:Upd Non w W1:=by rw [←HW1.out];exact Upd.refl.alloc _
 have b1:Blk W1 w.heap.size 54 #[.pointer (some ⟨p,0,none⟩)]:=by rw [←HW1.out];exact Blk.new _ _ _
 have s1:W1.heap.size=w.heap.size+1:=by rw [←HW1.out];simp
 obtain ⟨W2,HW2⟩:=nm (W1.alloc (.cells #[.int .i64 0,.int .i64 0,.int .i64 0,.int .i64 0,.slice none 0 0] 40));have u2:Upd Non W1 W2:=by rw [←HW2.out];exact Upd.refl.alloc _
 have b2:Blk W2 (w.heap.size+1) 40 (p0 (.mk 0 0 0 0 [])):=by rw [←HW2.out,←s1];exact Blk.new _ _ _
 have s2:W2.heap.size=w.heap.size+2:=by rw [←HW2.out];simp [s1]
 obtain ⟨W3,HW3⟩:=nm (W2.alloc (.cells #[.int .i64 0,.int .i64 0,.int .i64 0,.int .i64 0,.slice none 0 0] 40));have u3:Upd Non W2 W3:=by rw [←HW3.out];exact Upd.refl.alloc _
 have b3:Blk W3 (w.heap.size+2) 40 (p0 (.mk 0 0 0 0 [])):=by rw [←HW3.out,←s2];exact Blk.new _ _ _
 have s3:W3.heap.size=w.heap.size+3:=by rw [←HW3.out];simp [s2]
 have e1:=HW1.out;have e2:=HW2.out;have e3:=HW3.out;have U3:Upd Non w W3:=(u1.then_non u2).then_non u3;have b1:=b1.upd (u2.then_non u3) (fun f=>f);have b2:=b2.upd u3 (fun f=>f);have h3:=h.non U3;have hown:∀j,x.own p j→j<w.heap.size:=fun j hj=>h.lt hj
 have hpw:p<w.heap.size:=h.blk.lt;have hwn:x.vs.length≤100000∧x.ms.length≤100000:=by have:=hx.2 h0;have:=hx.1;have:=hL.lt;omega
 have d0:=b1.cell 0;have H3:=h_ h3;have HX:=h_ hx;have HX3:=h_ b1;have HR3:=h_ b2;have HG3:=h_ b3;have HU3:=h_ U3
 have CW:=h_ (rWord_c H3.out hiL hLl (hL.ne' hiL HX.out.1) 116 #[.pointer (some ⟨w.heap.size,0,none⟩),.pointer (some ⟨w.heap.size+2,0,none⟩)] hcf78
  (fun bb x2 w1 w2=>∃q,q.kids=[]∧Blk w2 (w.heap.size+2) 40 (p0 q)∧(∀k,x2.own p k→x.own p k∨w1.heap.size≤k)∧x2.left=x.left∧Upd (fun k=>x.own p k∨k=w.heap.size+2) w1 w2∧(bb=true→∃ps,operF left L[x.i].s (psOf x)=some (q,ps)∧ps.i=x.i∧x2.vs=ps.vs∧x2.ms=ps.ms)∧(bb=false→operF left L[x.i].s (psOf x)=none))
  (fun hok w1 u01=>by
   rw [hL.word HX.out.1,Bool.and_eq_true,beq_iff_eq] at hok;obtain ⟨sw,hsw⟩:=Option.isSome_iff_exists.1 hok.2;obtain ⟨f1,f2,f3,f4,f5,f6,f7⟩:=hL.at_ hiL hsw;refine (rApplication1_c (H3.out.non u01) hwn.2 L[x.i].s (by rw [f1];omega) (.mk 0 0 0 0 []) (HG3.out.upd u01 (fun f=>f)) (HX3.out.upd u01 (fun f=>f)) (fun q=>by have:=hown _ q;omega) (by omega)).mono ?_
   rintro e w2 ⟨q,b,y,rfl,k1,k2,k3,k4,k5,k6,k7⟩;rw [hl] at k6 k7
   exact ⟨b,y,rfl,k3,k4.i,k4.why.trans hok.1,k5.mono (fun k _ r=>by rcases r with r | r;have:=hown _ r;omega;omega),k4.own,q,k1,k2,k4.own,k4.left,k5,k6,k7⟩))
 clear h h3 b1 b2 b3 u1 u2 u3 U3 HW1 HW2 HW3 hx;go_enter Tryz.func94,Tryz.ntmps94;go_wp2_with fail
 refine CW.out.mono ?_;rintro e w5 hwd;have HWD:=h_ hwd;clear hwd CW;obtain ⟨r0,Hr0⟩:=nm (wrdF T fin (operF left) (psOf x))
 obtain ⟨q0,y0,ev,hq5,hqk,hy5,hgy,hyl,hyo,hu5,hrs⟩:∃(q:Pt) (y:St),(∃v,e=.returned v)∧Blk w5 (w.heap.size+2) 40 (p0 q)∧q.kids=[]∧RdS w5 p A c L y∧Good T y∧y.left=x.left∧(∀k,y.own p k→x.own p k∨W3.heap.size≤k)∧Upd (fun k=>x.own p k∨k=w.heap.size+2∨k=W3.heap.size) W3 w5∧ResS x y r0 (fun v=>v=q∧x.i+1≤y.i):=by
  have hpos:=hL.pos HX.out.1;rcases HWD.out with ⟨hok,bb,x2,w1,w2,u01,⟨q,hqk,hqb,hqo,hql,hqu,ht,hff⟩,hi2,hw2,_,u2,rfl,hR⟩ | ⟨hok,rfl,hR,hu⟩
  ·rw [hL.word HX.out.1,Bool.and_eq_true,beq_iff_eq] at hok;obtain ⟨sw,hsw⟩:=Option.isSome_iff_exists.1 hok.2;obtain ⟨f1,f2,f3,f4,f5,f6,f7⟩:=hL.at_ hiL hsw;rw [f1] at ht hff;have hwr:=Hr0.out.symm;rw [wrd_eq,show (psOf x).i=x.i from rfl,hsw] at hwr;dsimp only at hwr;have hsz:=u01.size;have hqb5:Blk w5 (w.heap.size+2) 40 (p0 q):=hqb.upd u2 (by omega);have hu5:Upd (fun k=>x.own p k∨k=w.heap.size+2∨k=W3.heap.size) W3 w5:=(u01.mono (fun _ _ f=>f.elim)).trans ((hqu.mono (T:=fun k=>x.own p k∨k=w.heap.size+2∨k=W3.heap.size) (fun _ _ h=>by rcases h with h | h;exact .inl h;exact .inr (.inl h))).trans u2 (fun _ _ h=>by rcases h with h | h;exact .inl (.inl h);exact .inr (.inr h))) (fun _ _ h=>h)
   have ho5:∀k,x2.own p k→x.own p k∨W3.heap.size≤k:=fun k hk=>(hqo k hk).imp_right (fun r=>Nat.le_trans u01.size r)
   cases bb with
   | true =>
    obtain ⟨ps,ha,hpi,hvs,hms⟩:=ht rfl;rw [ha] at hwr;have hgx:=HX.out.2 hok.1;have hol:=oper_len ha;refine ⟨q,{ x2 with i:=x.i+1 },⟨_,rfl⟩,hqb5,hqk,hR,⟨f5,fun _=>?_⟩,hql,ho5,hu5,fun _=>?_,fun q=>absurd hok.1 q⟩
    ·show x2.vs.length≤x.i+1∧x2.ms.length≤x.i+1;rw [hvs,hms];have : (psOf x).vs.length=x.vs.length:=rfl;have : (psOf x).ms.length=x.ms.length:=rfl;omega
    ·rw [hwr];refine ⟨hw2,?_,rfl,Nat.le_refl _⟩;show (⟨x.i+1,x2.vs,x2.ms⟩:PS)=⟨x.i+1,ps.vs,ps.ms⟩;rw [hvs,hms]
   | false =>
    rw [hff rfl] at hwr;refine ⟨q,x2.fail 2 (posT L x.i),⟨_,rfl⟩,hqb5,hqk,hR,Good.fail (by rw [hi2];omega) (by decide),by rw [fail_left];exact hql,fun k hk=>ho5 k ((fail_own _ _ _ _ _).1 hk),hu5,fun _=>?_,fun q=>absurd hok.1 q⟩
    rw [hwr,fail_zero hw2,hpos];exact ⟨rfl,rfl⟩
  ·refine ⟨.mk 0 0 0 0 [],x.fail 2 (posT L x.i),⟨_,rfl⟩,HG3.out.upd hu (by omega),rfl,hR,Good.fail HX.out.1 (by decide),fail_left _ _ _,fun k hk=>.inl ((fail_own _ _ _ _ _).1 hk),hu.mono (fun _ _ h=>.inl (.inl h)),fun h0=>?_,fun h1=>absurd h0 h1⟩
   rw [hL.word HX.out.1,h0] at hok;have hwr:=Hr0.out.symm;rw [wrd_eq,show (psOf x).i=x.i from rfl] at hwr
   cases hk:wkF T x.i with
   | none =>
    rw [hk] at hwr;rw [hwr,fail_zero h0,hpos];exact ⟨rfl,rfl⟩
   | some sw=>rw [hk] at hok;cases hok
 obtain ⟨v,rfl⟩:=ev;clear HWD
 have HS:Hid (AppS w w5 p A c L x y0 (p0 q0)):=by
  refine ⟨hy5,HX3.out.upd hu5 (fun q=>?_),HR3.out.upd hu5 (fun q=>?_),hq5,fun k hk=>(hyo k hk).imp_right (fun r=>by omega),hown,(HU3.out.mono (fun _ _ f=>f.elim)).trans hu5 (fun j hj r=>?_)⟩
  ·rcases q with q | q | q
   ·have:=hown _ q;omega
   ·omega
   ·omega
  ·rcases q with q | q | q
   ·have:=hown _ q;omega
   ·omega
   ·omega
  ·rcases r with r | r | r
   ·exact r
   ·omega
   ·omega
 have HR0:Hid (ResS x y0 (wrdF T fin (operF left) (psOf x)) (fun v=>v=q0∧x.i+1≤y0.i)):=by show ResS _ _ _ _;rw [Hr0.out];exact hrs
 unfold p0 at hq5;have z1:=hq5.cell 1;obtain ⟨n,Hn⟩:=nm ((arF q0.op).getD 0);have CA:=h_ (rArity_c q0.op w5);rw [Hn.out] at CA;have hn3:n≤3:=by rw [←Hn.out];exact arF_le _
 have HG:=h_ hgy;have HYL:Hid (y0.left=left):=hyl.trans hl;clear hq5 hy5 hgy hyo hu5 hrs hyl d0 e1 e2 e3 Hr0 H3 HX3 HR3 HG3 HU3;go_wp2_with fail
 refine CA.out.mono ?_;rintro e wa ⟨rfl,rfl⟩;clear CA z1;go_wp2_with fail
 go_loopg [6] n (fun g i wr=>∃(j:Nat) (Ak:Option Addr) (ck:Nat) (ks:List Pt) (y:St),Hid (g=n - j)∧j≤n∧i=.int .i64 j∧Hid (AppS w wr p A c L x y #[.int .i64 q0.v,.int .i64 q0.op,.int .i64 q0.imm,.int .i64 q0.iv,.slice Ak j ck])∧Hid (KO (w.heap.size+3) p wr y Ak j ck ks)∧Hid (Good T y)∧Hid (y.left=left)∧Hid (ResS y0 y (kidsF (termF T fin left f) j (psOf y0)) (fun v=>v=ks))∧Hid (y.why=0→Pt.sizeL ks+y0.i≤y.i))
 case atStart=>exact ⟨0,none,0,[],y0,rfl,Nat.zero_le _,rfl,HS.out,KO.nil,HG.out,HYL.out,⟨fun h=>⟨h,rfl,rfl⟩,fun h=>⟨rfl,rfl⟩⟩,fun _=>by show Pt.sizeL []+y0.i≤y0.i;simp [Pt.sizeL]⟩
 case round =>
  obtain ⟨j,Ak,ck,ks,y,Hg,hj,rfl,HS1,HK,HG1,HL1,HR,HZ⟩:=hrel;obtain ⟨D,HD⟩:=nm (decide (j<n)&&(y.why==0));have hyi:y.i<L.length:=by have:=hL.lt;have:=HG1.out.1;omega
  have d0:=HS1.out.box.cell 0;clear HS HG HYL
  go_upto_region 5 with fail
  go_cut [22] (fun s wx=>s=.bool D∧wx=wr)
  case first =>
   have CO:=h_ (rOk_c HS1.out.rd);obtain ⟨bw,Hbw⟩:=nm (y.why==0);rw [Hbw.out] at CO HD;by_cases hlt:j<n
   ·have tj:decide ((j:Int)<(n:Int))=true:=dT_ (by omega);have hD:D=bw:=by rw [←HD.out,dT_ hlt];rfl
    subst hD;go_wp2_with fail
    refine CO.out.mono ?_;rintro e w2 ⟨rfl,rfl⟩;go_wp2_with fail
    go_meet
    case rel=>exact ⟨rfl,rfl⟩
   ·have tj:decide ((j:Int)<(n:Int))=false:=dF_ (by omega);have hD:D=false:=by rw [←HD.out,dF_ hlt];rfl
    subst hD;go_wp2_with fail
    go_meet
    case rel=>exact ⟨rfl,rfl⟩
  case rest =>
   obtain ⟨rfl,hwc⟩:=hcut;subst hwc;obtain ⟨wr,rfl⟩:∃v:World,v=wc:=⟨_,rfl⟩
   cases D with
   | true =>
    have hDD:=HD.out;simp only [Bool.and_eq_true,decide_eq_true_eq,beq_iff_eq] at hDD;have hlt:=hDD.1;have H0Y:Hid (y.why=0):=hDD.2
    have HFU:Hid (T.length<y.i+f):=by
     show T.length<y.i+f
     have h00:y0.why=0:=by
      by_cases q:y0.why=0
      ·exact q
      ·exact absurd ((HR.out.2 q).1 ▸ hDD.2) q
     have h1:=HZ.out hDD.2;have h2:=HR0.out.1 h0
     cases hw:wrdF T fin (operF left) (psOf x) with
     | error e=>rw [hw] at h2;exact absurd (h2.1 ▸ h00) (wrdF_err hw)
     | ok v=>rw [hw] at h2;have : x.i+1≤y0.i:=h2.2.2.2;omega
    have HG:=HG1;have HYL:=HL1;clear hDD HD
    go_upto_region 7 with fail
    obtain ⟨wD,HwD⟩:=nm wr.drew;have uD:Upd Non wr wD:=by rw [←HwD.out];exact Upd.refl.drew
    have HS:=h_ (HS1.out.non uD);have HK:=h_ (HK.out.non uD);refine wp_region_held_drew (S:=fun w'=>w'.cell? ⟨w.heap.size,0,none⟩=some (.pointer (some ⟨p,0,none⟩))) (by kernel_rfl) (by rw [HwD.out];exact HS.out.box.cell 0) (fun hHeld=>?_)
    rw [HwD.out] at hHeld ⊢;clear d0 HS1;refine wpT 0 ?_;(try simp only [y_,z_]);refine wpT 2 ?_;(try simp only [y_,z_]);refine aR_ (rs:=[1,3,5]) (by kernel_rfl) (by simp) ?_;refine aC_ rfl (fun K hK=>?_) (aC_ rfl (fun K hK=>?_) (aC_ rfl (fun K hK=>?_) aN_))
    ·have d4:=HS.out.pat.cell 4;go_simp;refine hK.out _ _ ?_ (fun hHeld=>?_)
     ·exact HS.out.box.cell 0
     clear hK K;(try simp only [y_,z_]);clear d4;refine wpT 4 ?_;(try simp only [y_,z_]);refine aR_ (rs:=[3,5]) (by kernel_rfl) (by simp) ?_;refine aC_ rfl (fun K hK=>?_) (aC_ rfl (fun K hK=>?_) aN_)
     ·go_simp;have HLT0:Hid (∀k,At Ak k→k<_):=fun k r=>HK.out.1.lt r
      have HN1:=h_ HS.out.le;have HLT:=HLT0;refine (HT.out HS.out.rd HG.out HYL.out H0Y.out HFU.out).mono ?_;rintro e w6 ⟨q,KA,kc,y',rfl,hq,hy',hg',hl',ho',hu',hres⟩;have HSO:=HS;have HS:=h_ (HS.out.call hy' ho' hu');have HG2:=h_ hg';have HL2:Hid (y'.left=left):=hl'.trans HYL.out;have HRS:=h_ hres;have HQ:=h_ hq;have HK:=h_ (HK.out.step HSO.out.rd hu' ho');clear hq hy' hg' hl' ho' hu' hres;unfold pv;go_wp2_with fail
      refine hK.out _ _ ?_ (fun hHeld=>?_)
      ·exact HS.out.box.cell 0
      clear hK K;(try simp only [y_,z_]);refine aR_ (rs:=[5]) (by kernel_rfl) (by simp) ?_;refine aC_ rfl (fun K hK=>?_) aN_;go_simp;have HQ:=h_ (PtK.upd (Upd.refl.alloc (.cells #[.int .i64 0,.int .i64 0,.int .i64 0,.int .i64 0,.slice none 0 0] 40) (S:=Non)) (fun _ _ _ f=>f) _ _ _ HQ.out)
      have HS:=h_ (HS.out.non (Upd.refl.alloc (.cells #[.int .i64 0,.int .i64 0,.int .i64 0,.int .i64 0,.slice none 0 0] 40) (S:=Non)));have HK:=h_ (HK.out.non (Upd.refl.alloc (.cells #[.int .i64 0,.int .i64 0,.int .i64 0,.int .i64 0,.slice none 0 0] 40) (S:=Non)));refine hK.out _ _ ?_ (fun hHeld=>?_)
      ·exact HS.out.box.cell 0
      clear hK K;(try simp only [y_,z_]);refine aR_ (rs:=[6]) (by kernel_rfl) (by simp) ?_;refine aC_ rfl (fun K hK=>?_) aN_;obtain ⟨hkn,cs8,hko,hkc⟩:=id HK.out.1;have hjc:j≤ck:=hko.le;refine step_app rfl rfl T_pats rfl hko rfl (Sl.new _ _ _) rfl (by simp [Value.oneCell']) (by simp only [maxLen];omega) (by omega) ?_;intro A8 c8 w8 ho8 hu8 hat8;have HK2:=h_ (KO2.of hkn hkc HK.out.2 HS.out.le ho8 hu8 hat8);have HSP:=HS;have HS:=h_ (HS.out.far hu8 HK.out.2 (HSP.out.rd.own_ne hko) hpw);have HQ8:=h_ (PtK.past HQ.out HLT.out HN1.out hu8 hat8);clear hkn hko hkc ho8 hu8 hat8;refine hK.out _ _ ?_ (fun hHeld=>?_)
      ·exact HS.out.box.cell 0
      clear hK K;(try simp only [y_,z_]);obtain ⟨g,rfl,hc5,hf5⟩:=HK2.out.some_;have tj1:(j:Int)<(j:Int)+1:=by omega
      refine wpT 7 ?_;(try simp only [y_,z_]);refine wpT 9 ?_;(try simp only [y_,z_]);refine aR_ (rs:=[8,10]) (by kernel_rfl) (by simp) ?_;refine aC_ rfl (fun K hK=>?_) (aC_ rfl (fun K hK=>?_) aN_)
      ·skip;have k0:=hc5 (j * 5) rfl 0 (by decide);have k1:=hc5 (j * 5) rfl 1 (by decide);have k2:=hc5 (j * 5) rfl 2 (by decide);have k3:=hc5 (j * 5) rfl 3 (by decide);have k4:=hc5 (j * 5) rfl 4 (by decide);rw [Nat.add_zero] at k0;unfold zs5 at k0 k1 k2 k3 k4;go_simp;rw [set5o_eq];have HK9:=h_ (HK2.out.fin HQ8.out rfl (o:=j * 5) rfl);have HS:=h_ (HS.out.far (set5o_upd _ _ (j * 5) (.int .i64 q.v) (.int .i64 q.op) (.int .i64 q.imm) (.int .i64 q.iv) (.slice KA q.kids.length kc)) (fun k e=>HK2.out.2.2 k (At.some_.2 e)) (fun k e=>HS.out.rd.own_ne (Classical.choose_spec HK2.out.2.1).1 k (At.some_.2 e)) hpw)
       refine hK.out _ _ ?_ (fun hHeld=>?_)
       ·exact HS.out.box.cell 0
       clear hK K;(try simp only [y_,z_]);clear k0 k1 k2 k3 k4 hc5 hf5;refine aR_ (rs:=[10]) (by kernel_rfl) (by simp) ?_;refine aC_ rfl (fun K hK=>?_) aN_;have d4:=HS.out.pat.cell 4;have f4:=HS.out.pat.frozen 4;go_simp;obtain ⟨w9,e9,huu,hsk⟩:=HS.out.kids (.slice (some ⟨g,0,none⟩) (j+1) c8);rw [e9];clear e9;have HS:=h_ hsk;have HK9:=h_ (HK9.out.near huu (by omega));clear hsk huu d4 f4;refine hK.out _ _ ?_ (fun hHeld=>?_)
       ·exact HS.out.box.cell 0
       clear hK K;(try simp only [y_,z_]);refine aD_ (by kernel_rfl) ?_ _;go_wp2_with fail
       go_roundg (n - (j+1))
       case measure=>rw [Hg.out];omega
       case rel=>exact ⟨j+1,some ⟨g,0,none⟩,c8,ks++[q],y',rfl,by omega,by go_num,HS.out,HK9.out,HG2.out,HL2.out,(kids_step HR.out H0Y.out (termF_err f) HRS.out HZ.out).1,(kids_step HR.out H0Y.out (termF_err f) HRS.out HZ.out).2⟩
      ·skip;have d4:=HS.out.pat.cell 4;have f4:=HS.out.pat.frozen 4;go_simp;obtain ⟨w9,e9,huu,hsk⟩:=HS.out.kids (.slice (some ⟨g,0,none⟩) (j+1) c8);rw [e9];clear e9;have HS:=h_ hsk;have HK2:=h_ (HK2.out.near huu (by omega));have HQ8:=h_ (PtK.upd huu (fun k _ r e=>by have:=r.1.1;omega) _ _ _ HQ8.out);clear hsk huu d4 f4 hc5 hf5;obtain ⟨g',hg',hc5,hf5⟩:=HK2.out.some_;injection hg' with hg';injection hg' with hg';subst hg'
       refine hK.out _ _ ?_ (fun hHeld=>?_)
       ·exact HS.out.box.cell 0
       clear hK K;(try simp only [y_,z_]);have k0:=hc5 (j * 5) rfl 0 (by decide);have k1:=hc5 (j * 5) rfl 1 (by decide);have k2:=hc5 (j * 5) rfl 2 (by decide);have k3:=hc5 (j * 5) rfl 3 (by decide);have k4:=hc5 (j * 5) rfl 4 (by decide);rw [Nat.add_zero] at k0;unfold zs5 at k0 k1 k2 k3 k4;refine aR_ (rs:=[8]) (by kernel_rfl) (by simp) ?_;refine aC_ rfl (fun K hK=>?_) aN_;go_simp;rw [set5o_eq];have HK9:=h_ (HK2.out.fin HQ8.out rfl (o:=j * 5) rfl);have HS:=h_ (HS.out.far (set5o_upd _ _ (j * 5) (.int .i64 q.v) (.int .i64 q.op) (.int .i64 q.imm) (.int .i64 q.iv) (.slice KA q.kids.length kc)) (fun k e=>HK2.out.2.2 k (At.some_.2 e)) (fun k e=>HS.out.rd.own_ne (Classical.choose_spec HK2.out.2.1).1 k (At.some_.2 e)) hpw)
       refine hK.out _ _ ?_ (fun hHeld=>?_)
       ·exact HS.out.box.cell 0
       clear hK K;(try simp only [y_,z_]);clear k0 k1 k2 k3 k4 hc5 hf5;refine aD_ (by kernel_rfl) ?_ _;go_wp2_with fail
       go_roundg (n - (j+1))
       case measure=>rw [Hg.out];omega
       case rel=>exact ⟨j+1,some ⟨g,0,none⟩,c8,ks++[q],y',rfl,by omega,by go_num,HS.out,HK9.out,HG2.out,HL2.out,(kids_step HR.out H0Y.out (termF_err f) HRS.out HZ.out).1,(kids_step HR.out H0Y.out (termF_err f) HRS.out HZ.out).2⟩
     ·go_simp;have hlo:∀k,y.own p k→k<_:=fun k r=>HS.out.rd.lt r
      have HZS:=h_ (Sl.new wD 40 [.int .i64 0,.int .i64 0,.int .i64 0,.int .i64 0,.slice none 0 0]);have HS:=h_ (HS.out.non (Upd.refl.alloc (.cells #[.int .i64 0,.int .i64 0,.int .i64 0,.int .i64 0,.slice none 0 0] 40) (S:=Non)));have HK:=h_ (HK.out.non (Upd.refl.alloc (.cells #[.int .i64 0,.int .i64 0,.int .i64 0,.int .i64 0,.slice none 0 0] 40) (S:=Non)));refine hK.out _ _ ?_ (fun hHeld=>?_)
      ·exact HS.out.box.cell 0
      clear hK K;(try simp only [y_,z_]);refine aR_ (rs:=[3]) (by kernel_rfl) (by simp) ?_;refine aC_ rfl (fun K hK=>?_) aN_;go_simp;have HLT0:Hid (∀k,At Ak k→k<_):=fun k r=>HK.out.1.lt r
      have HN1:=h_ HS.out.le;have HLT:=HLT0;refine (HT.out HS.out.rd HG.out HYL.out H0Y.out HFU.out).mono ?_;rintro e w6 ⟨q,KA,kc,y',rfl,hq,hy',hg',hl',ho',hu',hres⟩;have HSO:=HS;have HS:=h_ (HS.out.call hy' ho' hu');have HG2:=h_ hg';have HL2:Hid (y'.left=left):=hl'.trans HYL.out;have HRS:=h_ hres;have HQ:=h_ hq;have HK:=h_ (HK.out.step HSO.out.rd hu' ho');have HZS:=h_ (HZS.out.upd hu' (fun k _ e r=>by subst e;exact Nat.lt_irrefl _ (hlo _ r)));clear hq hy' hg' hl' ho' hu' hres;unfold pv;go_wp2_with fail
      refine hK.out _ _ ?_ (fun hHeld=>?_)
      ·exact HS.out.box.cell 0
      clear hK K;(try simp only [y_,z_]);refine aR_ (rs:=[6]) (by kernel_rfl) (by simp) ?_;refine aC_ rfl (fun K hK=>?_) aN_;obtain ⟨hkn,cs8,hko,hkc⟩:=id HK.out.1;have hjc:j≤ck:=hko.le;refine step_app rfl rfl T_pats rfl hko rfl HZS.out rfl (by simp [Value.oneCell']) (by simp only [maxLen];omega) (by omega) ?_;intro A8 c8 w8 ho8 hu8 hat8;have HK2:=h_ (KO2.of hkn hkc HK.out.2 HS.out.le ho8 hu8 hat8);have HSP:=HS;have HS:=h_ (HS.out.far hu8 HK.out.2 (HSP.out.rd.own_ne hko) hpw);have HQ8:=h_ (PtK.past HQ.out HLT.out HN1.out hu8 hat8);clear hkn hko hkc ho8 hu8 hat8;refine hK.out _ _ ?_ (fun hHeld=>?_)
      ·exact HS.out.box.cell 0
      clear hK K;(try simp only [y_,z_]);obtain ⟨g,rfl,hc5,hf5⟩:=HK2.out.some_;have tj1:(j:Int)<(j:Int)+1:=by omega
      refine wpT 7 ?_;(try simp only [y_,z_]);refine wpT 9 ?_;(try simp only [y_,z_]);refine aR_ (rs:=[8,10]) (by kernel_rfl) (by simp) ?_;refine aC_ rfl (fun K hK=>?_) (aC_ rfl (fun K hK=>?_) aN_)
      ·skip;have k0:=hc5 (j * 5) rfl 0 (by decide);have k1:=hc5 (j * 5) rfl 1 (by decide);have k2:=hc5 (j * 5) rfl 2 (by decide);have k3:=hc5 (j * 5) rfl 3 (by decide);have k4:=hc5 (j * 5) rfl 4 (by decide);rw [Nat.add_zero] at k0;unfold zs5 at k0 k1 k2 k3 k4;go_simp;rw [set5o_eq];have HK9:=h_ (HK2.out.fin HQ8.out rfl (o:=j * 5) rfl);have HS:=h_ (HS.out.far (set5o_upd _ _ (j * 5) (.int .i64 q.v) (.int .i64 q.op) (.int .i64 q.imm) (.int .i64 q.iv) (.slice KA q.kids.length kc)) (fun k e=>HK2.out.2.2 k (At.some_.2 e)) (fun k e=>HS.out.rd.own_ne (Classical.choose_spec HK2.out.2.1).1 k (At.some_.2 e)) hpw)
       refine hK.out _ _ ?_ (fun hHeld=>?_)
       ·exact HS.out.box.cell 0
       clear hK K;(try simp only [y_,z_]);clear k0 k1 k2 k3 k4 hc5 hf5;refine aR_ (rs:=[10]) (by kernel_rfl) (by simp) ?_;refine aC_ rfl (fun K hK=>?_) aN_;have d4:=HS.out.pat.cell 4;have f4:=HS.out.pat.frozen 4;go_simp;obtain ⟨w9,e9,huu,hsk⟩:=HS.out.kids (.slice (some ⟨g,0,none⟩) (j+1) c8);rw [e9];clear e9;have HS:=h_ hsk;have HK9:=h_ (HK9.out.near huu (by omega));clear hsk huu d4 f4;refine hK.out _ _ ?_ (fun hHeld=>?_)
       ·exact HS.out.box.cell 0
       clear hK K;(try simp only [y_,z_]);refine aD_ (by kernel_rfl) ?_ _;go_wp2_with fail
       go_roundg (n - (j+1))
       case measure=>rw [Hg.out];omega
       case rel=>exact ⟨j+1,some ⟨g,0,none⟩,c8,ks++[q],y',rfl,by omega,by go_num,HS.out,HK9.out,HG2.out,HL2.out,(kids_step HR.out H0Y.out (termF_err f) HRS.out HZ.out).1,(kids_step HR.out H0Y.out (termF_err f) HRS.out HZ.out).2⟩
      ·skip;have d4:=HS.out.pat.cell 4;have f4:=HS.out.pat.frozen 4;go_simp;obtain ⟨w9,e9,huu,hsk⟩:=HS.out.kids (.slice (some ⟨g,0,none⟩) (j+1) c8);rw [e9];clear e9;have HS:=h_ hsk;have HK2:=h_ (HK2.out.near huu (by omega));have HQ8:=h_ (PtK.upd huu (fun k _ r e=>by have:=r.1.1;omega) _ _ _ HQ8.out);clear hsk huu d4 f4 hc5 hf5;obtain ⟨g',hg',hc5,hf5⟩:=HK2.out.some_;injection hg' with hg';injection hg' with hg';subst hg'
       refine hK.out _ _ ?_ (fun hHeld=>?_)
       ·exact HS.out.box.cell 0
       clear hK K;(try simp only [y_,z_]);have k0:=hc5 (j * 5) rfl 0 (by decide);have k1:=hc5 (j * 5) rfl 1 (by decide);have k2:=hc5 (j * 5) rfl 2 (by decide);have k3:=hc5 (j * 5) rfl 3 (by decide);have k4:=hc5 (j * 5) rfl 4 (by decide);rw [Nat.add_zero] at k0;unfold zs5 at k0 k1 k2 k3 k4;refine aR_ (rs:=[8]) (by kernel_rfl) (by simp) ?_;refine aC_ rfl (fun K hK=>?_) aN_;go_simp;rw [set5o_eq];have HK9:=h_ (HK2.out.fin HQ8.out rfl (o:=j * 5) rfl);have HS:=h_ (HS.out.far (set5o_upd _ _ (j * 5) (.int .i64 q.v) (.int .i64 q.op) (.int .i64 q.imm) (.int .i64 q.iv) (.slice KA q.kids.length kc)) (fun k e=>HK2.out.2.2 k (At.some_.2 e)) (fun k e=>HS.out.rd.own_ne (Classical.choose_spec HK2.out.2.1).1 k (At.some_.2 e)) hpw)
       refine hK.out _ _ ?_ (fun hHeld=>?_)
       ·exact HS.out.box.cell 0
       clear hK K;(try simp only [y_,z_]);clear k0 k1 k2 k3 k4 hc5 hf5;refine aD_ (by kernel_rfl) ?_ _;go_wp2_with fail
       go_roundg (n - (j+1))
       case measure=>rw [Hg.out];omega
       case rel=>exact ⟨j+1,some ⟨g,0,none⟩,c8,ks++[q],y',rfl,by omega,by go_num,HS.out,HK9.out,HG2.out,HL2.out,(kids_step HR.out H0Y.out (termF_err f) HRS.out HZ.out).1,(kids_step HR.out H0Y.out (termF_err f) HRS.out HZ.out).2⟩
    ·go_simp;have HLT0:Hid (∀k,At Ak k→k<_):=fun k r=>HK.out.1.lt r
     have HN1:=h_ HS.out.le;have HLT:=HLT0;refine (HT.out HS.out.rd HG.out HYL.out H0Y.out HFU.out).mono ?_;rintro e w6 ⟨q,KA,kc,y',rfl,hq,hy',hg',hl',ho',hu',hres⟩;have HSO:=HS;have HS:=h_ (HS.out.call hy' ho' hu');have HG2:=h_ hg';have HL2:Hid (y'.left=left):=hl'.trans HYL.out;have HRS:=h_ hres;have HQ:=h_ hq;have HK:=h_ (HK.out.step HSO.out.rd hu' ho');clear hq hy' hg' hl' ho' hu' hres;unfold pv;go_wp2_with fail
     refine hK.out _ _ ?_ (fun hHeld=>?_)
     ·exact HS.out.box.cell 0
     clear hK K;(try simp only [y_,z_]);have d4:=HS.out.pat.cell 4;refine wpAnyH_takeM (fun w'=>w'.cell? ⟨w.heap.size+2,4,none⟩=some (.slice Ak j ck)) (calm_cell _ _) [10,8,6,7,9] (i:=1) (v:=?_) rfl (by kernel_rfl) (by kernel_rfl) (by kernel_rfl) (by kernel_rfl) (fun _ _ _ h=>h) (Or.inl ⟨by rfl,?_⟩) (d4) (by assumption) ?_
     rotate_left
     ·intro w hSw;(try dsimp only at hSw);go_simp;try with_reducible rfl
     (try simp only [y_,z_]);clear d4;refine wpT 4 ?_;(try simp only [y_,z_]);refine aR_ (rs:=[5]) (by kernel_rfl) (by simp) ?_;refine aC_ rfl (fun K hK=>?_) aN_;go_simp;have HQ:=h_ (PtK.upd (Upd.refl.alloc (.cells #[.int .i64 0,.int .i64 0,.int .i64 0,.int .i64 0,.slice none 0 0] 40) (S:=Non)) (fun _ _ _ f=>f) _ _ _ HQ.out)
     have HS:=h_ (HS.out.non (Upd.refl.alloc (.cells #[.int .i64 0,.int .i64 0,.int .i64 0,.int .i64 0,.slice none 0 0] 40) (S:=Non)));have HK:=h_ (HK.out.non (Upd.refl.alloc (.cells #[.int .i64 0,.int .i64 0,.int .i64 0,.int .i64 0,.slice none 0 0] 40) (S:=Non)));refine hK.out _ _ ?_ (fun hHeld=>?_)
     ·exact HS.out.box.cell 0
     clear hK K;(try simp only [y_,z_]);refine aR_ (rs:=[6]) (by kernel_rfl) (by simp) ?_;refine aC_ rfl (fun K hK=>?_) aN_;obtain ⟨hkn,cs8,hko,hkc⟩:=id HK.out.1;have hjc:j≤ck:=hko.le;refine step_app rfl rfl T_pats rfl hko rfl (Sl.new _ _ _) rfl (by simp [Value.oneCell']) (by simp only [maxLen];omega) (by omega) ?_;intro A8 c8 w8 ho8 hu8 hat8;have HK2:=h_ (KO2.of hkn hkc HK.out.2 HS.out.le ho8 hu8 hat8);have HSP:=HS;have HS:=h_ (HS.out.far hu8 HK.out.2 (HSP.out.rd.own_ne hko) hpw);have HQ8:=h_ (PtK.past HQ.out HLT.out HN1.out hu8 hat8);clear hkn hko hkc ho8 hu8 hat8;refine hK.out _ _ ?_ (fun hHeld=>?_)
     ·exact HS.out.box.cell 0
     clear hK K;(try simp only [y_,z_]);obtain ⟨g,rfl,hc5,hf5⟩:=HK2.out.some_;have tj1:(j:Int)<(j:Int)+1:=by omega
     refine wpT 7 ?_;(try simp only [y_,z_]);refine wpT 9 ?_;(try simp only [y_,z_]);refine aR_ (rs:=[8,10]) (by kernel_rfl) (by simp) ?_;refine aC_ rfl (fun K hK=>?_) (aC_ rfl (fun K hK=>?_) aN_)
     ·skip;have k0:=hc5 (j * 5) rfl 0 (by decide);have k1:=hc5 (j * 5) rfl 1 (by decide);have k2:=hc5 (j * 5) rfl 2 (by decide);have k3:=hc5 (j * 5) rfl 3 (by decide);have k4:=hc5 (j * 5) rfl 4 (by decide);rw [Nat.add_zero] at k0;unfold zs5 at k0 k1 k2 k3 k4;go_simp;rw [set5o_eq];have HK9:=h_ (HK2.out.fin HQ8.out rfl (o:=j * 5) rfl);have HS:=h_ (HS.out.far (set5o_upd _ _ (j * 5) (.int .i64 q.v) (.int .i64 q.op) (.int .i64 q.imm) (.int .i64 q.iv) (.slice KA q.kids.length kc)) (fun k e=>HK2.out.2.2 k (At.some_.2 e)) (fun k e=>HS.out.rd.own_ne (Classical.choose_spec HK2.out.2.1).1 k (At.some_.2 e)) hpw)
      refine hK.out _ _ ?_ (fun hHeld=>?_)
      ·exact HS.out.box.cell 0
      clear hK K;(try simp only [y_,z_]);clear k0 k1 k2 k3 k4 hc5 hf5;refine aR_ (rs:=[10]) (by kernel_rfl) (by simp) ?_;refine aC_ rfl (fun K hK=>?_) aN_;have d4:=HS.out.pat.cell 4;have f4:=HS.out.pat.frozen 4;go_simp;obtain ⟨w9,e9,huu,hsk⟩:=HS.out.kids (.slice (some ⟨g,0,none⟩) (j+1) c8);rw [e9];clear e9;have HS:=h_ hsk;have HK9:=h_ (HK9.out.near huu (by omega));clear hsk huu d4 f4;refine hK.out _ _ ?_ (fun hHeld=>?_)
      ·exact HS.out.box.cell 0
      clear hK K;(try simp only [y_,z_]);refine aD_ (by kernel_rfl) ?_ _;go_wp2_with fail
      go_roundg (n - (j+1))
      case measure=>rw [Hg.out];omega
      case rel=>exact ⟨j+1,some ⟨g,0,none⟩,c8,ks++[q],y',rfl,by omega,by go_num,HS.out,HK9.out,HG2.out,HL2.out,(kids_step HR.out H0Y.out (termF_err f) HRS.out HZ.out).1,(kids_step HR.out H0Y.out (termF_err f) HRS.out HZ.out).2⟩
     ·skip;have d4:=HS.out.pat.cell 4;have f4:=HS.out.pat.frozen 4;go_simp;obtain ⟨w9,e9,huu,hsk⟩:=HS.out.kids (.slice (some ⟨g,0,none⟩) (j+1) c8);rw [e9];clear e9;have HS:=h_ hsk;have HK2:=h_ (HK2.out.near huu (by omega));have HQ8:=h_ (PtK.upd huu (fun k _ r e=>by have:=r.1.1;omega) _ _ _ HQ8.out);clear hsk huu d4 f4 hc5 hf5;obtain ⟨g',hg',hc5,hf5⟩:=HK2.out.some_;injection hg' with hg';injection hg' with hg';subst hg'
      refine hK.out _ _ ?_ (fun hHeld=>?_)
      ·exact HS.out.box.cell 0
      clear hK K;(try simp only [y_,z_]);have k0:=hc5 (j * 5) rfl 0 (by decide);have k1:=hc5 (j * 5) rfl 1 (by decide);have k2:=hc5 (j * 5) rfl 2 (by decide);have k3:=hc5 (j * 5) rfl 3 (by decide);have k4:=hc5 (j * 5) rfl 4 (by decide);rw [Nat.add_zero] at k0;unfold zs5 at k0 k1 k2 k3 k4;refine aR_ (rs:=[8]) (by kernel_rfl) (by simp) ?_;refine aC_ rfl (fun K hK=>?_) aN_;go_simp;rw [set5o_eq];have HK9:=h_ (HK2.out.fin HQ8.out rfl (o:=j * 5) rfl);have HS:=h_ (HS.out.far (set5o_upd _ _ (j * 5) (.int .i64 q.v) (.int .i64 q.op) (.int .i64 q.imm) (.int .i64 q.iv) (.slice KA q.kids.length kc)) (fun k e=>HK2.out.2.2 k (At.some_.2 e)) (fun k e=>HS.out.rd.own_ne (Classical.choose_spec HK2.out.2.1).1 k (At.some_.2 e)) hpw)
      refine hK.out _ _ ?_ (fun hHeld=>?_)
      ·exact HS.out.box.cell 0
      clear hK K;(try simp only [y_,z_]);clear k0 k1 k2 k3 k4 hc5 hf5;refine aD_ (by kernel_rfl) ?_ _;go_wp2_with fail
      go_roundg (n - (j+1))
      case measure=>rw [Hg.out];omega
      case rel=>exact ⟨j+1,some ⟨g,0,none⟩,c8,ks++[q],y',rfl,by omega,by go_num,HS.out,HK9.out,HG2.out,HL2.out,(kids_step HR.out H0Y.out (termF_err f) HRS.out HZ.out).1,(kids_step HR.out H0Y.out (termF_err f) HRS.out HZ.out).2⟩
    ·go_simp;have hlo:∀k,y.own p k→k<_:=fun k r=>HS.out.rd.lt r
     have HZS:=h_ (Sl.new wD 40 [.int .i64 0,.int .i64 0,.int .i64 0,.int .i64 0,.slice none 0 0]);have HS:=h_ (HS.out.non (Upd.refl.alloc (.cells #[.int .i64 0,.int .i64 0,.int .i64 0,.int .i64 0,.slice none 0 0] 40) (S:=Non)));have HK:=h_ (HK.out.non (Upd.refl.alloc (.cells #[.int .i64 0,.int .i64 0,.int .i64 0,.int .i64 0,.slice none 0 0] 40) (S:=Non)));refine hK.out _ _ ?_ (fun hHeld=>?_)
     ·exact HS.out.box.cell 0
     clear hK K;(try simp only [y_,z_]);refine aR_ (rs:=[1,3]) (by kernel_rfl) (by simp) ?_;refine aC_ rfl (fun K hK=>?_) (aC_ rfl (fun K hK=>?_) aN_)
     ·have d4:=HS.out.pat.cell 4;go_simp;refine hK.out _ _ ?_ (fun hHeld=>?_)
      ·exact HS.out.box.cell 0
      clear hK K;(try simp only [y_,z_]);clear d4;refine wpT 4 ?_;(try simp only [y_,z_]);refine aR_ (rs:=[3]) (by kernel_rfl) (by simp) ?_;refine aC_ rfl (fun K hK=>?_) aN_;go_simp;have HLT0:Hid (∀k,At Ak k→k<_):=fun k r=>HK.out.1.lt r
      have HN1:=h_ HS.out.le;have HLT:=HLT0;refine (HT.out HS.out.rd HG.out HYL.out H0Y.out HFU.out).mono ?_;rintro e w6 ⟨q,KA,kc,y',rfl,hq,hy',hg',hl',ho',hu',hres⟩;have HSO:=HS;have HS:=h_ (HS.out.call hy' ho' hu');have HG2:=h_ hg';have HL2:Hid (y'.left=left):=hl'.trans HYL.out;have HRS:=h_ hres;have HQ:=h_ hq;have HK:=h_ (HK.out.step HSO.out.rd hu' ho');have HZS:=h_ (HZS.out.upd hu' (fun k _ e r=>by subst e;exact Nat.lt_irrefl _ (hlo _ r)));clear hq hy' hg' hl' ho' hu' hres;unfold pv;go_wp2_with fail
      refine hK.out _ _ ?_ (fun hHeld=>?_)
      ·exact HS.out.box.cell 0
      clear hK K;(try simp only [y_,z_]);refine aR_ (rs:=[6]) (by kernel_rfl) (by simp) ?_;refine aC_ rfl (fun K hK=>?_) aN_;obtain ⟨hkn,cs8,hko,hkc⟩:=id HK.out.1;have hjc:j≤ck:=hko.le;refine step_app rfl rfl T_pats rfl hko rfl HZS.out rfl (by simp [Value.oneCell']) (by simp only [maxLen];omega) (by omega) ?_;intro A8 c8 w8 ho8 hu8 hat8;have HK2:=h_ (KO2.of hkn hkc HK.out.2 HS.out.le ho8 hu8 hat8);have HSP:=HS;have HS:=h_ (HS.out.far hu8 HK.out.2 (HSP.out.rd.own_ne hko) hpw);have HQ8:=h_ (PtK.past HQ.out HLT.out HN1.out hu8 hat8);clear hkn hko hkc ho8 hu8 hat8;refine hK.out _ _ ?_ (fun hHeld=>?_)
      ·exact HS.out.box.cell 0
      clear hK K;(try simp only [y_,z_]);obtain ⟨g,rfl,hc5,hf5⟩:=HK2.out.some_;have tj1:(j:Int)<(j:Int)+1:=by omega
      refine wpT 7 ?_;(try simp only [y_,z_]);refine wpT 9 ?_;(try simp only [y_,z_]);refine aR_ (rs:=[8,10]) (by kernel_rfl) (by simp) ?_;refine aC_ rfl (fun K hK=>?_) (aC_ rfl (fun K hK=>?_) aN_)
      ·skip;have k0:=hc5 (j * 5) rfl 0 (by decide);have k1:=hc5 (j * 5) rfl 1 (by decide);have k2:=hc5 (j * 5) rfl 2 (by decide);have k3:=hc5 (j * 5) rfl 3 (by decide);have k4:=hc5 (j * 5) rfl 4 (by decide);rw [Nat.add_zero] at k0;unfold zs5 at k0 k1 k2 k3 k4;go_simp;rw [set5o_eq];have HK9:=h_ (HK2.out.fin HQ8.out rfl (o:=j * 5) rfl);have HS:=h_ (HS.out.far (set5o_upd _ _ (j * 5) (.int .i64 q.v) (.int .i64 q.op) (.int .i64 q.imm) (.int .i64 q.iv) (.slice KA q.kids.length kc)) (fun k e=>HK2.out.2.2 k (At.some_.2 e)) (fun k e=>HS.out.rd.own_ne (Classical.choose_spec HK2.out.2.1).1 k (At.some_.2 e)) hpw)
       refine hK.out _ _ ?_ (fun hHeld=>?_)
       ·exact HS.out.box.cell 0
       clear hK K;(try simp only [y_,z_]);clear k0 k1 k2 k3 k4 hc5 hf5;refine aR_ (rs:=[10]) (by kernel_rfl) (by simp) ?_;refine aC_ rfl (fun K hK=>?_) aN_;have d4:=HS.out.pat.cell 4;have f4:=HS.out.pat.frozen 4;go_simp;obtain ⟨w9,e9,huu,hsk⟩:=HS.out.kids (.slice (some ⟨g,0,none⟩) (j+1) c8);rw [e9];clear e9;have HS:=h_ hsk;have HK9:=h_ (HK9.out.near huu (by omega));clear hsk huu d4 f4;refine hK.out _ _ ?_ (fun hHeld=>?_)
       ·exact HS.out.box.cell 0
       clear hK K;(try simp only [y_,z_]);refine aD_ (by kernel_rfl) ?_ _;go_wp2_with fail
       go_roundg (n - (j+1))
       case measure=>rw [Hg.out];omega
       case rel=>exact ⟨j+1,some ⟨g,0,none⟩,c8,ks++[q],y',rfl,by omega,by go_num,HS.out,HK9.out,HG2.out,HL2.out,(kids_step HR.out H0Y.out (termF_err f) HRS.out HZ.out).1,(kids_step HR.out H0Y.out (termF_err f) HRS.out HZ.out).2⟩
      ·skip;have d4:=HS.out.pat.cell 4;have f4:=HS.out.pat.frozen 4;go_simp;obtain ⟨w9,e9,huu,hsk⟩:=HS.out.kids (.slice (some ⟨g,0,none⟩) (j+1) c8);rw [e9];clear e9;have HS:=h_ hsk;have HK2:=h_ (HK2.out.near huu (by omega));have HQ8:=h_ (PtK.upd huu (fun k _ r e=>by have:=r.1.1;omega) _ _ _ HQ8.out);clear hsk huu d4 f4 hc5 hf5;obtain ⟨g',hg',hc5,hf5⟩:=HK2.out.some_;injection hg' with hg';injection hg' with hg';subst hg'
       refine hK.out _ _ ?_ (fun hHeld=>?_)
       ·exact HS.out.box.cell 0
       clear hK K;(try simp only [y_,z_]);have k0:=hc5 (j * 5) rfl 0 (by decide);have k1:=hc5 (j * 5) rfl 1 (by decide);have k2:=hc5 (j * 5) rfl 2 (by decide);have k3:=hc5 (j * 5) rfl 3 (by decide);have k4:=hc5 (j * 5) rfl 4 (by decide);rw [Nat.add_zero] at k0;unfold zs5 at k0 k1 k2 k3 k4;refine aR_ (rs:=[8]) (by kernel_rfl) (by simp) ?_;refine aC_ rfl (fun K hK=>?_) aN_;go_simp;rw [set5o_eq];have HK9:=h_ (HK2.out.fin HQ8.out rfl (o:=j * 5) rfl);have HS:=h_ (HS.out.far (set5o_upd _ _ (j * 5) (.int .i64 q.v) (.int .i64 q.op) (.int .i64 q.imm) (.int .i64 q.iv) (.slice KA q.kids.length kc)) (fun k e=>HK2.out.2.2 k (At.some_.2 e)) (fun k e=>HS.out.rd.own_ne (Classical.choose_spec HK2.out.2.1).1 k (At.some_.2 e)) hpw)
       refine hK.out _ _ ?_ (fun hHeld=>?_)
       ·exact HS.out.box.cell 0
       clear hK K;(try simp only [y_,z_]);clear k0 k1 k2 k3 k4 hc5 hf5;refine aD_ (by kernel_rfl) ?_ _;go_wp2_with fail
       go_roundg (n - (j+1))
       case measure=>rw [Hg.out];omega
       case rel=>exact ⟨j+1,some ⟨g,0,none⟩,c8,ks++[q],y',rfl,by omega,by go_num,HS.out,HK9.out,HG2.out,HL2.out,(kids_step HR.out H0Y.out (termF_err f) HRS.out HZ.out).1,(kids_step HR.out H0Y.out (termF_err f) HRS.out HZ.out).2⟩
     ·go_simp;have HLT0:Hid (∀k,At Ak k→k<_):=fun k r=>HK.out.1.lt r
      have HN1:=h_ HS.out.le;have HLT:=HLT0;refine (HT.out HS.out.rd HG.out HYL.out H0Y.out HFU.out).mono ?_;rintro e w6 ⟨q,KA,kc,y',rfl,hq,hy',hg',hl',ho',hu',hres⟩;have HSO:=HS;have HS:=h_ (HS.out.call hy' ho' hu');have HG2:=h_ hg';have HL2:Hid (y'.left=left):=hl'.trans HYL.out;have HRS:=h_ hres;have HQ:=h_ hq;have HK:=h_ (HK.out.step HSO.out.rd hu' ho');have HZS:=h_ (HZS.out.upd hu' (fun k _ e r=>by subst e;exact Nat.lt_irrefl _ (hlo _ r)));clear hq hy' hg' hl' ho' hu' hres;unfold pv;go_wp2_with fail
      refine hK.out _ _ ?_ (fun hHeld=>?_)
      ·exact HS.out.box.cell 0
      clear hK K;(try simp only [y_,z_]);have d4:=HS.out.pat.cell 4;refine wpAnyH_takeM (fun w'=>w'.cell? ⟨w.heap.size+2,4,none⟩=some (.slice Ak j ck)) (calm_cell _ _) [10,8,6,7,9] (i:=1) (v:=?_) rfl (by kernel_rfl) (by kernel_rfl) (by kernel_rfl) (by kernel_rfl) (fun _ _ _ h=>h) (Or.inl ⟨by rfl,?_⟩) (d4) (by assumption) ?_
      rotate_left
      ·intro w hSw;(try dsimp only at hSw);go_simp;try with_reducible rfl
      (try simp only [y_,z_]);clear d4;refine wpT 4 ?_;(try simp only [y_,z_]);refine aR_ (rs:=[6]) (by kernel_rfl) (by simp) ?_;refine aC_ rfl (fun K hK=>?_) aN_;obtain ⟨hkn,cs8,hko,hkc⟩:=id HK.out.1;have hjc:j≤ck:=hko.le;refine step_app rfl rfl T_pats rfl hko rfl HZS.out rfl (by simp [Value.oneCell']) (by simp only [maxLen];omega) (by omega) ?_;intro A8 c8 w8 ho8 hu8 hat8;have HK2:=h_ (KO2.of hkn hkc HK.out.2 HS.out.le ho8 hu8 hat8);have HSP:=HS;have HS:=h_ (HS.out.far hu8 HK.out.2 (HSP.out.rd.own_ne hko) hpw);have HQ8:=h_ (PtK.past HQ.out HLT.out HN1.out hu8 hat8);clear hkn hko hkc ho8 hu8 hat8;refine hK.out _ _ ?_ (fun hHeld=>?_)
      ·exact HS.out.box.cell 0
      clear hK K;(try simp only [y_,z_]);obtain ⟨g,rfl,hc5,hf5⟩:=HK2.out.some_;have tj1:(j:Int)<(j:Int)+1:=by omega
      refine wpT 7 ?_;(try simp only [y_,z_]);refine wpT 9 ?_;(try simp only [y_,z_]);refine aR_ (rs:=[8,10]) (by kernel_rfl) (by simp) ?_;refine aC_ rfl (fun K hK=>?_) (aC_ rfl (fun K hK=>?_) aN_)
      ·skip;have k0:=hc5 (j * 5) rfl 0 (by decide);have k1:=hc5 (j * 5) rfl 1 (by decide);have k2:=hc5 (j * 5) rfl 2 (by decide);have k3:=hc5 (j * 5) rfl 3 (by decide);have k4:=hc5 (j * 5) rfl 4 (by decide);rw [Nat.add_zero] at k0;unfold zs5 at k0 k1 k2 k3 k4;go_simp;rw [set5o_eq];have HK9:=h_ (HK2.out.fin HQ8.out rfl (o:=j * 5) rfl);have HS:=h_ (HS.out.far (set5o_upd _ _ (j * 5) (.int .i64 q.v) (.int .i64 q.op) (.int .i64 q.imm) (.int .i64 q.iv) (.slice KA q.kids.length kc)) (fun k e=>HK2.out.2.2 k (At.some_.2 e)) (fun k e=>HS.out.rd.own_ne (Classical.choose_spec HK2.out.2.1).1 k (At.some_.2 e)) hpw)
       refine hK.out _ _ ?_ (fun hHeld=>?_)
       ·exact HS.out.box.cell 0
       clear hK K;(try simp only [y_,z_]);clear k0 k1 k2 k3 k4 hc5 hf5;refine aR_ (rs:=[10]) (by kernel_rfl) (by simp) ?_;refine aC_ rfl (fun K hK=>?_) aN_;have d4:=HS.out.pat.cell 4;have f4:=HS.out.pat.frozen 4;go_simp;obtain ⟨w9,e9,huu,hsk⟩:=HS.out.kids (.slice (some ⟨g,0,none⟩) (j+1) c8);rw [e9];clear e9;have HS:=h_ hsk;have HK9:=h_ (HK9.out.near huu (by omega));clear hsk huu d4 f4;refine hK.out _ _ ?_ (fun hHeld=>?_)
       ·exact HS.out.box.cell 0
       clear hK K;(try simp only [y_,z_]);refine aD_ (by kernel_rfl) ?_ _;go_wp2_with fail
       go_roundg (n - (j+1))
       case measure=>rw [Hg.out];omega
       case rel=>exact ⟨j+1,some ⟨g,0,none⟩,c8,ks++[q],y',rfl,by omega,by go_num,HS.out,HK9.out,HG2.out,HL2.out,(kids_step HR.out H0Y.out (termF_err f) HRS.out HZ.out).1,(kids_step HR.out H0Y.out (termF_err f) HRS.out HZ.out).2⟩
      ·skip;have d4:=HS.out.pat.cell 4;have f4:=HS.out.pat.frozen 4;go_simp;obtain ⟨w9,e9,huu,hsk⟩:=HS.out.kids (.slice (some ⟨g,0,none⟩) (j+1) c8);rw [e9];clear e9;have HS:=h_ hsk;have HK2:=h_ (HK2.out.near huu (by omega));have HQ8:=h_ (PtK.upd huu (fun k _ r e=>by have:=r.1.1;omega) _ _ _ HQ8.out);clear hsk huu d4 f4 hc5 hf5;obtain ⟨g',hg',hc5,hf5⟩:=HK2.out.some_;injection hg' with hg';injection hg' with hg';subst hg'
       refine hK.out _ _ ?_ (fun hHeld=>?_)
       ·exact HS.out.box.cell 0
       clear hK K;(try simp only [y_,z_]);have k0:=hc5 (j * 5) rfl 0 (by decide);have k1:=hc5 (j * 5) rfl 1 (by decide);have k2:=hc5 (j * 5) rfl 2 (by decide);have k3:=hc5 (j * 5) rfl 3 (by decide);have k4:=hc5 (j * 5) rfl 4 (by decide);rw [Nat.add_zero] at k0;unfold zs5 at k0 k1 k2 k3 k4;refine aR_ (rs:=[8]) (by kernel_rfl) (by simp) ?_;refine aC_ rfl (fun K hK=>?_) aN_;go_simp;rw [set5o_eq];have HK9:=h_ (HK2.out.fin HQ8.out rfl (o:=j * 5) rfl);have HS:=h_ (HS.out.far (set5o_upd _ _ (j * 5) (.int .i64 q.v) (.int .i64 q.op) (.int .i64 q.imm) (.int .i64 q.iv) (.slice KA q.kids.length kc)) (fun k e=>HK2.out.2.2 k (At.some_.2 e)) (fun k e=>HS.out.rd.own_ne (Classical.choose_spec HK2.out.2.1).1 k (At.some_.2 e)) hpw)
       refine hK.out _ _ ?_ (fun hHeld=>?_)
       ·exact HS.out.box.cell 0
       clear hK K;(try simp only [y_,z_]);clear k0 k1 k2 k3 k4 hc5 hf5;refine aD_ (by kernel_rfl) ?_ _;go_wp2_with fail
       go_roundg (n - (j+1))
       case measure=>rw [Hg.out];omega
       case rel=>exact ⟨j+1,some ⟨g,0,none⟩,c8,ks++[q],y',rfl,by omega,by go_num,HS.out,HK9.out,HG2.out,HL2.out,(kids_step HR.out H0Y.out (termF_err f) HRS.out HZ.out).1,(kids_step HR.out H0Y.out (termF_err f) HRS.out HZ.out).2⟩
   | false =>
    have HR2:=h_ (kids_exit HR.out hj HD.out);have CE:=h_ (rExpect_c HS1.out.rd hyi hLl [41]);go_wp2_with fail
    refine CE.out.mono ?_;rintro e w6 ⟨rfl,hy6,hu6⟩;have HS6:=h_ (HS1.out.call hy6 (fun k hk=>.inl ((exp_own _ _).1 hk)) (hu6.mono (fun _ _ e=>.inl e)));have HK6:=h_ (HK.out.step HS1.out.rd (y':=y.exp L [41]) (hu6.mono (fun _ _ e=>.inl e)) (fun k hk=>.inl ((exp_own _ _).1 hk)));have v0:=HS6.out.pat.cell 0;have v1:=HS6.out.pat.cell 1;have v2:=HS6.out.pat.cell 2;have v3:=HS6.out.pat.cell 3;have v4:=HS6.out.pat.cell 4;have hb6:=HS6.out.res;unfold p0 at hb6;have z0:=hb6.cell 0;have z1:=hb6.cell 1;have z2:=hb6.cell 2;have z3:=hb6.cell 3;have z4:=hb6.cell 4;have zf:=hb6.frozen;have HB6:=h_ hb6;clear CE hb6 d0 hy6 hu6;go_wp2_with fail
    rw [set5_eq];have us:=set5_upd w6 (w.heap.size+1) (.int .i64 q0.v) (.int .i64 q0.op) (.int .i64 q0.imm) (.int .i64 q0.iv) (.slice Ak j ck);have hkl:ks.length=j:=HK.out.1.1.symm;refine bodyPost_ret (results_cell_row rfl _ _ (w.heap.size+1) 40 _ (0,0) _ rfl (set5_blk HB6.out _ _ _ _ _) Tryz.underlying40 rfl (by kernel_rfl)) rfl ?_;refine ⟨.mk q0.v q0.op q0.imm q0.iv ks,Ak,ck,y.exp L [41],by unfold pv;rw [←hkl];rfl,?_,HS6.out.rd.upd us (fun k _ e=>?_),exp_good hL HG1.out,?_,fun k hk=>?_,?_,?_⟩
    ·have hne:=HS6.out.rd.own_ne (Classical.choose_spec HK6.out.1.2).1;have hpt:PtK w6 (fun k=>w.heap.size+3≤k∧¬(y.exp L [41]).own p k) (.mk q0.v q0.op q0.imm q0.iv ks) Ak ck:=HK6.out.1.view (fun k hk=>⟨HK6.out.2 k hk,hne k hk⟩) (fun k _ q=>q) _ _ _ _
     exact PtK.mono (fun k _ q=>⟨Nat.le_trans (Nat.le_add_right _ _) q.1,q.2⟩) _ _ _ (PtK.upd us (fun k _ q e=>by have:=q.1;omega) _ _ _ hpt)
    ·subst e
     have hn:¬(y.exp L [41]).own p (w.heap.size+1):=fun q=>by
      rcases HS6.out.own _ q with r | r
      ·have:=hown _ r;omega
      ·omega
     exact ⟨by omega,fun q=>hn (.inr (.inl q)),fun q=>hn (.inr (.inr q))⟩
    ·rw [exp_left,HL1.out,hl]
    ·exact (HS6.out.own k hk).imp_right (fun r=>by omega)
    ·exact HS6.out.upd.trans us (fun k hk e=>by omega)
    ·exact app_fin hL h0 HG1.out HR0.out Hn.out.symm HR2.out HZ.out
theorem rTerm_rec {L:List Tok} {T:List (Bs×Nat)} {fin:Nat} (hL:LOk L T fin) (left:Bool):∀(f:Nat) {w:World} {p:Nat} {A:Option Addr} {c:Nat} {x:St},RdS w p A c L x→Good T x→x.left=left→x.why=0→T.length<x.i+f→Calls Tryz.prog 64 #[.pointer (some ⟨p,0,none⟩)] w (TermP T w p A c L x (termF T fin left f (psOf x)))
 | 0,_,_,_,_,x,_,hx,_,_,hf=>by have:=hx.1;omega
 | f+1,_,_,_,_,_,h,hx,hl,_,hf=>rTerm_c hL left f (fun h1 h2 h3 h4 h5=>rApplication_c hL left f (fun g1 g2 g3 g4 g5=>rTerm_rec hL left f g1 g2 g3 g4 g5) h1 h2 h3 h4 h5) h hx hl (fun _=>hf)
theorem rTerm_any {L:List Tok} {T:List (Bs×Nat)} {fin:Nat} (hL:LOk L T fin) (left:Bool) (f:Nat) {w:World} {p:Nat} {A:Option Addr} {c:Nat} {x:St} (h:RdS w p A c L x) (hx:Good T x) (hl:x.left=left) (hf:x.why=0→T.length<x.i+(f+1)):Calls Tryz.prog 64 #[.pointer (some ⟨p,0,none⟩)] w (TermP T w p A c L x (termF T fin left (f+1) (psOf x))) :=
 rTerm_c hL left f (fun h1 h2 h3 h4 h5=>rApplication_c hL left f (fun g1 g2 g3 g4 g5=>rTerm_rec hL left f g1 g2 g3 g4 g5) h1 h2 h3 h4 h5) h hx hl hf
end Go.Proofs.YtblkgjdhaibhgaaGreat
namespace Go.Proofs.YtblkgjdhaibhgaaGreat
open Go.RowKit
def WrdP {α β:Type} (T:List (Bs×Nat)) (w:World) (p g:Nat) (t:TypeId) (val:β→Array Value) (A:Option Addr) (c:Nat) (L:List Tok) (x:St) (P:α→β→Prop) (r:Except Er (α×PS)) (e:Ending) (w':World):Prop :=
 ∃(k:β) (y:St) (ts:Bs) (tp:Nat),e=.returned (tokVal ts tp)∧(y.why=0→tkF T x.i=some ts∧tp=posT L x.i)∧Blk w' g t (val k)∧RdS w' p A c L y∧Good T y∧y.left=x.left∧(∀k,y.own p k→x.own p k∨w.heap.size≤k)∧Upd (fun k=>x.own p k∨k=g) w w'∧ResS x y r (fun v=>P v k∧x.i+1≤y.i)
theorem rWordG_c {α β:Type} {L:List Tok} {T:List (Bs×Nat)} {fin:Nat} (hL:LOk L T fin) {w:World} {p:Nat} {A:Option Addr} {c:Nat} {x:St} (h:RdS w p A c L x) (hx:Good T x) (f:FuncId) (cap:Array Value) (hcf:∀(args:Array Value) (w:World),(callFunc f args).run Tryz.prog w=.ok (.enter f args) w)
  {g:Nat} {t:TypeId} (val:β→Array Value) (b0:β) (hg:Blk w g t (val b0)) (hpg:p<g) (F:Bs→PS→Option (α×PS)) (P:α→β→Prop)
  (hF:∀s ps v y,F s ps=some (v,y)→y.vs.length≤ps.vs.length+1∧y.ms.length≤ps.ms.length+1)
  (HF:∀s w1,s≠[]→s.length≤20000→x.why=0→Upd Non w w1→Calls Tryz.prog f (#[.string (kstr s)]++cap) w1 (fun e w2=>∃(b:Bool) (k:β) (x2:St),e=.returned (.bool b)∧Blk w2 g t (val k)∧RdS w2 p A c L x2∧Keeps w1 p x x2∧Upd (fun k=>x.own p k∨k=g) w1 w2∧(b=true→∃v ps,F s (psOf x)=some (v,ps)∧P v k∧x2.vs=ps.vs∧x2.ms=ps.ms)∧(b=false→F s (psOf x)=none))) :
  Calls Tryz.prog 62 #[.pointer (some ⟨p,0,none⟩),.func (.func f) #[] cap] w (WrdP T w p g t val A c L x P (wrdF T fin F (psOf x))):=by
 have hiL:x.i<L.length:=by have:=hL.lt;have:=hx.1;omega
 have hpos:=hL.pos hx.1;have hgw:=hg.lt;have hown:∀j,x.own p j→j<w.heap.size:=fun j hj=>h.lt hj
 refine (rWord_c h hiL hL.len (hL.ne' hiL hx.1) f cap hcf
  (fun bb x2 w1 w2=>∃k,Blk w2 g t (val k)∧(∀k,x2.own p k→x.own p k∨w1.heap.size≤k)∧x2.left=x.left∧Upd (fun k=>x.own p k∨k=g) w1 w2∧(bb=true→∃v ps,F L[x.i].s (psOf x)=some (v,ps)∧P v k∧x2.vs=ps.vs∧x2.ms=ps.ms)∧(bb=false→F L[x.i].s (psOf x)=none))
  (fun hok w1 u01=>by
   rw [hL.word hx.1,Bool.and_eq_true,beq_iff_eq] at hok;obtain ⟨sw,hsw⟩:=Option.isSome_iff_exists.1 hok.2;obtain ⟨f1,f2,f3,f4,f5,f6,f7⟩:=hL.at_ hiL hsw;refine (HF L[x.i].s w1 (by rw [f1];exact f3) (by rw [f1];exact f4) hok.1 u01).mono ?_;rintro e w2 ⟨b,k,y,rfl,k2,k3,k4,k5,k6,k7⟩
   exact ⟨b,y,rfl,k3,k4.i,k4.why.trans hok.1,k5.mono (fun j _ r=>by rcases r with r | r;exact hown _ r;rw [r];exact hgw),k4.own,k,k2,k4.own,k4.left,k5,k6,k7⟩)).mono ?_
 rintro e w5 hwd;rcases hwd with ⟨hok,bb,x2,w1,w2,u01,⟨k,hqb,hqo,hql,hqu,ht,hff⟩,hi2,hw2,_,u2,rfl,hR⟩ | ⟨hok,rfl,hR,hu⟩
 ·rw [hL.word hx.1,Bool.and_eq_true,beq_iff_eq] at hok;obtain ⟨sw,hsw⟩:=Option.isSome_iff_exists.1 hok.2;obtain ⟨f1,f2,f3,f4,f5,f6,f7⟩:=hL.at_ hiL hsw;rw [f1] at ht hff
  have hwr:wrdF T fin F (psOf x)=match F sw (psOf x) with | some (a,y)=>.ok (a,{ y with i:=x.i+1 }) | none=>.error (serr T fin x.i):=by
   rw [wrd_eq,show (psOf x).i=x.i from rfl,hsw];rfl
  have hqb5:Blk w5 g t (val k):=hqb.upd u2 (by omega);have hu4:Upd (fun k=>x.own p k∨k=g∨k=w.heap.size) w1 w5:=(hqu.mono (T:=fun k=>x.own p k∨k=g∨k=w.heap.size) (fun _ _ h=>by rcases h with h | h;exact .inl h;exact .inr (.inl h))).trans u2 (fun _ _ h=>by rcases h with h | h;exact .inl (.inl h);exact .inr (.inr h))
  have hu5:Upd (fun k=>x.own p k∨k=g) w w5:=(u01.mono (fun _ _ f=>f.elim)).trans hu4 (fun k hk q=>by
   rcases q with q | q | q
   ·exact .inl q
   ·exact .inr q
   ·omega)
  have ho5:∀k,x2.own p k→x.own p k∨w.heap.size≤k:=fun k hk=>(hqo k hk).imp_right (fun r=>Nat.le_trans u01.size r)
  cases bb with
  | true =>
   obtain ⟨v,ps,ha,hP,hvs,hms⟩:=ht rfl;rw [ha] at hwr;have hgx:=hx.2 hok.1;have hol:=hF _ _ _ _ ha;refine ⟨k,{ x2 with i:=x.i+1 },_,_,rfl,fun _=>⟨by rw [f1];exact f6,posT_eq hiL |>.symm⟩,hqb5,hR,⟨f5,fun _=>?_⟩,hql,ho5,hu5,fun _=>?_,fun q=>absurd hok.1 q⟩
   ·show x2.vs.length≤x.i+1∧x2.ms.length≤x.i+1;rw [hvs,hms];have : (psOf x).vs.length=x.vs.length:=rfl;have : (psOf x).ms.length=x.ms.length:=rfl;omega
   ·rw [hwr];refine ⟨hw2,?_,hP,Nat.le_refl _⟩;show (⟨x.i+1,x2.vs,x2.ms⟩:PS)=⟨x.i+1,ps.vs,ps.ms⟩;rw [hvs,hms]
  | false =>
   rw [hff rfl] at hwr;refine ⟨k,x2.fail 2 (posT L x.i),[],0,rfl,fun q=>?_,hqb5,hR,Good.fail (by rw [hi2];omega) (by decide),by rw [fail_left];exact hql,fun k hk=>ho5 k ((fail_own _ _ _ _ _).1 hk),hu5,fun _=>?_,fun q=>absurd hok.1 q⟩
   ·rw [fail_zero hw2] at q;exact absurd (show (2:Int)=0 from q) (by decide)
   ·rw [hwr,fail_zero hw2,hpos];exact ⟨rfl,rfl⟩
 ·refine ⟨b0,x.fail 2 (posT L x.i),[],0,rfl,fun q=>?_,hg.upd hu (by omega),hR,Good.fail hx.1 (by decide),fail_left _ _ _,fun k hk=>.inl ((fail_own _ _ _ _ _).1 hk),hu.mono (fun _ _ h=>.inl (.inl h)),fun h0=>?_,fun h1=>by rw [fail_why h1];exact ⟨rfl,rfl⟩⟩
  ·by_cases h0:x.why=0
   ·rw [fail_zero h0] at q;exact absurd (show (2:Int)=0 from q) (by decide)
   ·rw [fail_why h0] at q;exact absurd q h0
  ·rw [hL.word hx.1,h0] at hok;rw [wrd_eq,show (psOf x).i=x.i from rfl]
   cases hk:wkF T x.i with
   | none =>
    rw [fail_zero h0,hpos];exact ⟨rfl,rfl⟩
   | some sw=>rw [hk] at hok;cases hok
end Go.Proofs.YtblkgjdhaibhgaaGreat
