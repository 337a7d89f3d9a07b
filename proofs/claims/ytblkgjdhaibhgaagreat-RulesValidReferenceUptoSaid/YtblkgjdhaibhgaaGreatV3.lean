/-
  Lemmas and walks that the claim rests on, part 3 (packed by a program).
-/
import Derived.Test.YtblkgjdhaibhgaaGreatV2
import Derived.Test.YtblkgjdhaibhgaaGreatV1
namespace Go.Proofs.YtblkgjdhaibhgaaGreat
open Go.RowKit
theorem lookF_zero {l:Bs} {c:UInt8} {left:Bool} (h:(lookF l c left).1=0):(lookF l c left).2=l:=by
 unfold lookF at h ⊢
 split at h
 ·simp at h
 ·split at h
  ·simp at h
  ·rename_i hl;rw [if_neg hl]
theorem varF_zero {s:Bs} {c:Nat} {l:Bs} {left:Bool} (h:(varF s c l left).1=0):(varF s c l left).2=l:=by
 unfold varF at h ⊢
 split at h
 ·split at h
  ·rename_i q;rw [if_pos q];exact lookF_zero h
  ·rename_i q;rw [if_neg q]
 ·rfl
theorem lookF_len (l:Bs) (c:UInt8) (left:Bool):(lookF l c left).2.length≤l.length+1:=by
 unfold lookF
 split
 ·simp
 ·split <;> simp
theorem varF_len (s:Bs) (c:Nat) (l:Bs) (left:Bool):(varF s c l left).2.length≤l.length+1:=by
 unfold varF
 split
 ·split
  ·exact lookF_len _ _ _
  ·simp
 ·simp
def p0 (q:Pt):Array Value:=#[.int .i64 q.v,.int .i64 q.op,.int .i64 q.imm,.int .i64 q.iv,.slice none 0 0]
def ClsP (w:World) (p g:Nat) (A:Option Addr) (c:Nat) (L:List Tok) (x:St) (o:Option (Pt×PS)) (e:Ending) (w':World):Prop :=
 ∃(q:Pt) (b:Bool) (y:St),e=.returned (.bool b)∧q.kids=[]∧Blk w' g 40 (p0 q)∧RdS w' p A c L y∧Keeps w p x y∧Upd (fun k=>x.own p k∨k=g) w w'∧(b=true→∃ps,o=some (q,ps)∧ps.i=x.i∧y.vs=ps.vs∧y.ms=ps.ms)∧(b=false→o=none)
set_option maxRecDepth 100000 in
set_option maxHeartbeats 4000000 in
theorem rApplication1_c {w:World} {p g bx:Nat} {A:Option Addr} {c:Nat} {L:List Tok} {x:St} (h:RdS w p A c L x) (hn:x.ms.length≤100000) (s:Bs) (hs:s.length≤1000000) (q0:Pt) (hg:Blk w g 40 (p0 q0)) (hx:Blk w bx 54 #[.pointer (some ⟨p,0,none⟩)]) (hgo:¬x.own p g) (hpg:p<g) :
  Calls Tryz.prog 116 #[.string (kstr s),.pointer (some ⟨bx,0,none⟩),.pointer (some ⟨g,0,none⟩)] w (ClsP w p g A c L x (operF x.left s (psOf x))):=by
 have C:=h_ (rOperation_c h hn s hs);obtain ⟨o,Ho⟩:=nm (operF x.left s (psOf x));rw [Ho.out] at C ⊢;obtain ⟨str,Hstr⟩:=nm (kstr s);rw [Hstr.out] at C ⊢;have d0:=hx.cell 0;have H:=h_ h;have HG:=h_ hg;have hgw:=hg.lt;clear h hg;go_enter Tryz.func116,Tryz.ntmps116;go_wp2_with fail
 refine C.out.mono ?_;rintro e w1 ⟨q,b,y,rfl,hqk,hy,hvs,hk,hu,h1,h2⟩;obtain ⟨v,op,im,iv,ks⟩:=q;obtain rfl:ks=[]:=hqk;have b1:=HG.out.upd hu hgo;obtain ⟨W2,HW2⟩:=nm (w1.alloc (.cells #[.int .i64 v,.int .i64 op,.int .i64 im,.int .i64 iv,.slice none 0 0] 40));have u2:Upd Non w1 W2:=by rw [←HW2.out];exact Upd.refl.alloc _
 have b2:Blk W2 w1.heap.size 40 #[.int .i64 v,.int .i64 op,.int .i64 im,.int .i64 iv,.slice none 0 0]:=by rw [←HW2.out];exact Blk.new _ _ _
 have b1:=b1.upd u2 (fun f=>f);unfold p0 at b1;have y0:=b1.cell 0;have y1:=b1.cell 1;have y2:=b1.cell 2;have y3:=b1.cell 3;have y4:=b1.cell 4;have yf:=b1.frozen;have z0:=b2.cell 0;have z1:=b2.cell 1;have z2:=b2.cell 2;have z3:=b2.cell 3;have z4:=b2.cell 4;have HB1:=h_ b1;have HY:=h_ hy;have HU:=h_ hu;have HU2:=h_ u2;have HK:=h_ hk;have HVS:=h_ hvs;have H1:=h_ h1;have H2:=h_ h2;clear C b1 b2 hy hu u2 hk hvs h1 h2 HG;rw [show pv (.mk v op im iv []) none 0=.agg #[.int .i64 v,.int .i64 op,.int .i64 im,.int .i64 iv,.slice none 0 0] from rfl]
 go_upto_region 2 with fail
 rw [HW2.out];go_wp2_with fail
 go_ret;rw [set5_eq];have us:=set5_upd W2 g (.int .i64 v) (.int .i64 op) (.int .i64 im) (.int .i64 iv) (.slice none 0 0);refine ⟨.mk v op im iv [],b,y,rfl,rfl,set5_blk HB1.out _ _ _ _ _,(HY.out.non HU2.out).upd us (fun k _ e=>?_),HK.out,((HU.out.mono (fun _ _ q=>.inl q)).then_non HU2.out).trans us (fun _ _ q=>.inr q),(fun q=>?_),H2.out⟩
 ·subst e
  have ho:∀j,y.own p j→j≠k:=fun j hj e=>by
   subst e;rcases HK.out.own _ hj with r | r
   ·exact hgo r
   ·omega
  exact ⟨hpg,fun r=>ho _ (.inr (.inl r)) rfl,fun r=>ho _ (.inr (.inr r)) rfl⟩
 ·obtain ⟨ps,g1,g2,g3,g4⟩:=H1.out q;exact ⟨ps,g1,g2,by rw [g3];exact HVS.out,g4⟩
theorem Keeps.trans {w w':World} {p:Nat} {x y z:St} (h:Keeps w p x y) (k:Keeps w' p y z) (hw:w.heap.size≤w'.heap.size):Keeps w p x z :=
 ⟨k.i.trans h.i,k.why.trans h.why,k.ea.trans h.ea,k.left.trans h.left,fun j hj=>by
  rcases k.own j hj with q | q
  ·exact h.own j q
  ·exact .inr (Nat.le_trans hw q)⟩
set_option maxRecDepth 100000 in
set_option maxHeartbeats 4000000 in
theorem rTerm1_c {w:World} {p g bx:Nat} {A:Option Addr} {c:Nat} {L:List Tok} {x:St} (h:RdS w p A c L x) (hm:x.ms.length≤100000) (hv:x.vs.length≤100000) (s:Bs) (hs:s.length≤1000000) (q0:Pt) (hg:Blk w g 40 (p0 q0)) (hx:Blk w bx 54 #[.pointer (some ⟨p,0,none⟩)]) (hgo:¬x.own p g) (hxo:¬x.own p bx) (hpg:p<g) :
  Calls Tryz.prog 95 #[.string (kstr s),.pointer (some ⟨g,0,none⟩),.pointer (some ⟨bx,0,none⟩)] w (ClsP w p g A c L x (atomF x.left s (psOf x))):=by
 have HO:Hid (atomF x.left s (psOf x)=match decF s with
  | some n=>some (.mk 0 1 n 0 [],psOf x)
  | none =>
   if 0<(varF s 63 x.vs x.left).1 then some (.mk (varF s 63 x.vs x.left).1 0 0 0 [],{ psOf x with vs:=(varF s 63 x.vs x.left).2 })
   else if 0<(varF s 36 x.ms x.left).1 then some (.mk 0 1 0 (varF s 36 x.ms x.left).1 [],{ psOf x with ms:=(varF s 36 x.ms x.left).2 })
   else none):=rfl
 obtain ⟨o,Ho⟩:=nm (atomF x.left s (psOf x));rw [Ho.out] at HO ⊢;have CW:=h_ (wParse_c s w hs);have CV:=h_ (fun w' (y:St) (hy:RdS w' p A c L y) (hn:y.vs.length≤100000)=>rVarV_c hy hn s 63 hs);have CM:=h_ (fun w' (y:St) (hy:RdS w' p A c L y) (hn:y.ms.length≤100000)=>rVarM_c hy hn s 36 hs);rw [show ((63:UInt8).toNat:Int)=63 from rfl,show (63:UInt8).toNat=63 from rfl] at CV;rw [show ((36:UInt8).toNat:Int)=36 from rfl,show (36:UInt8).toNat=36 from rfl] at CM;obtain ⟨str,Hstr⟩:=nm (kstr s);rw [Hstr.out] at CW CV CM ⊢;have H:=h_ h;have HG:=h_ hg;have HX:=h_ hx;have hgw:=hg.lt;have HU0:Hid (Upd (fun k=>x.own p k∨k=g) w w):=Upd.refl;unfold p0 at hg
 cases hd:decF s with
 | some n =>
  rw [hd] at CW HO;simp only [Option.getD_some,Option.isSome_some] at CW;have HS:Hid (o=some (.mk 0 1 n 0 [],psOf x)):=HO.out;have y0:=hg.cell 0;have y1:=hg.cell 1;have y2:=hg.cell 2;have y3:=hg.cell 3;have y4:=hg.cell 4;have yf:=hg.frozen;have HGB:=h_ hg;clear hd HO CV CM h hg hx;go_enter Tryz.func95,Tryz.ntmps95;go_wp2_with fail
  refine CW.out.mono ?_;rintro e w1 ⟨rfl,rfl⟩;go_wp2_with fail
  go_ret;rw [set5_eq];have us:=set5_upd w1 g (.int .i64 0) (.int .i64 1) (.int .i64 n) (.int .i64 0) (.slice none 0 0);refine ⟨.mk 0 1 n 0 [],true,x,rfl,rfl,set5_blk HGB.out _ _ _ _ _,H.out.upd us (fun k _ e=>by subst e;exact ⟨hpg,fun r=>hgo (.inr (.inl r)),fun r=>hgo (.inr (.inr r))⟩),Keeps.refl,us.mono (fun _ _ q=>.inr q),(fun _=>⟨psOf x,HS.out,rfl,rfl,rfl⟩),(fun q=>by cases q)⟩
 | none =>
  rw [hd] at CW HO;simp only [Option.getD_none,Option.isSome_none] at CW
  have HO2:Hid (o=if 0<(varF s 63 x.vs x.left).1 then some (.mk (varF s 63 x.vs x.left).1 0 0 0 [],{ psOf x with vs:=(varF s 63 x.vs x.left).2 })
   else if 0<(varF s 36 x.ms x.left).1 then some (.mk 0 1 0 (varF s 36 x.ms x.left).1 [],{ psOf x with ms:=(varF s 36 x.ms x.left).2 })
   else none):=HO.out
  clear hd HO h hg;go_enter Tryz.func95,Tryz.ntmps95;go_wp2_with fail
  refine CW.out.mono ?_;rintro e w1 ⟨rfl,rfl⟩
  go_upto_region 5 with fail
  have d0:=hx.cell 0;obtain ⟨wD,HwD⟩:=nm w1.drew;have uD:Upd Non w1 wD:=by rw [←HwD.out];exact Upd.refl.drew
  have C1:=h_ (CV.out wD x (H.out.non uD) hv);refine wp_region_held_drew (S:=fun w'=>w'.cell? ⟨bx,0,none⟩=some (.pointer (some ⟨p,0,none⟩))) (by kernel_rfl) (by rw [HwD.out];exact u_ d0 uD (fun f=>f)) (fun hHeld=>?_)
  rw [HwD.out] at hHeld ⊢;refine wpT 0 ?_;(try simp only [y_,z_]);refine wpT 1 ?_;(try simp only [y_,z_]);refine wpT 2 ?_;(try simp only [y_,z_]);refine wpT 3 ?_;(try simp only [y_,z_]);refine wpT 4 ?_;(try simp only [y_,z_]);refine aR_ (rs:=[5]) (by kernel_rfl) (by simp) ?_;refine aC_ rfl (fun K hK=>?_) aN_;go_simp;refine C1.out.mono ?_;rintro e w2 ⟨rfl,y,hy,hy1,hy2,hk,hu⟩;go_wp2_with fail
  have d2:=u_ (u_ d0 uD (fun f=>f)) hu hxo;refine hK.out _ _ ?_ (fun hHeld=>?_)
  ·exact d2
  clear hK K;(try simp only [y_,z_]);refine wpT 6 ?_;(try simp only [y_,z_]);refine aD_ (by kernel_rfl) ?_ _;have hlv:y.left=x.left:=hk.left;have hu2:Upd (x.own p) w1 w2:=(uD.mono (fun _ _ f=>f.elim)).trans hu (fun _ _ q=>q);have hk2:Keeps w1 p x y:=⟨hk.i,hk.why,hk.ea,hk.left,fun j hj=>(hk.own j hj).imp_right (fun q=>Nat.le_trans uD.size q)⟩;obtain ⟨V,HV⟩:=nm (varF s 63 x.vs x.left);have HVZ:Hid (V.1=0→V.2=x.vs):=fun q=>by rw [←HV.out] at q ⊢;exact varF_zero q
  rw [HV.out] at hy1 HO2 ⊢;have hg2:=HG.out.upd hu2 hgo;have hx2:=HX.out.upd hu2 hxo;have HY:=h_ hy;have HY1:=h_ hy1;have HY2:=h_ hy2;have HK:=h_ hk2;have HU:=h_ hu2;clear hHeld C1 CV hy hy1 hy2 hk hu hk2 hu2 uD HwD d0 hx
  have hyo:∀j,j=g∨j=bx→¬y.own p j:=fun j hj q=>by
   rcases HK.out.own j q with r | r
   ·rcases hj with e | e
    ·exact hgo (e ▸ r)
    ·exact hxo (e ▸ r)
   ·have:=HG.out.lt;have:=HX.out.lt;rcases hj with e | e <;> omega
  have HYO:=h_ hyo;clear hyo;obtain ⟨v1,Hv1⟩:=nm V.1;rw [Hv1.out] at HVZ HO2 ⊢;by_cases hpos:0<v1
  ·have fp:decide ((0:Int)<(v1:Int))=true:=dT_ (by omega);have HS:Hid (o=some (.mk v1 0 0 0 [],{ psOf x with vs:=V.2 })):=by show _=_;rw [HO2.out,if_pos hpos]
   have hg:=hg2;unfold p0 at hg;have y0:=hg.cell 0;have y1:=hg.cell 1;have y2:=hg.cell 2;have y3:=hg.cell 3;have y4:=hg.cell 4;have yf:=hg.frozen;have HGB:=h_ hg;clear HO2 CM hg hg2 hx2 d2;go_wp2_with fail
   go_ret;rw [set5_eq];have us:=set5_upd w2 g (.int .i64 v1) (.int .i64 0) (.int .i64 0) (.int .i64 0) (.slice none 0 0);refine ⟨.mk v1 0 0 0 [],true,y,rfl,rfl,set5_blk HGB.out _ _ _ _ _,HY.out.upd us (fun k _ e=>by subst e;exact ⟨hpg,fun r=>HYO.out _ (.inl rfl) (.inr (.inl r)),fun r=>HYO.out _ (.inl rfl) (.inr (.inr r))⟩),HK.out,(HU.out.mono (fun _ _ q=>.inl q)).trans us (fun _ _ q=>.inr q),(fun _=>⟨_,HS.out,rfl,HY1.out,HY2.out⟩),(fun q=>by cases q)⟩
  ·have fp:decide ((0:Int)<(v1:Int))=false:=dF_ (by omega);have HO3:Hid (o=if 0<(varF s 36 x.ms x.left).1 then some (.mk 0 1 0 (varF s 36 x.ms x.left).1 [],{ psOf x with ms:=(varF s 36 x.ms x.left).2 }) else none):=by show _=_;rw [HO2.out,if_neg hpos]
   have HVS:Hid (y.vs=x.vs):=by show _=_;rw [HY1.out];exact HVZ.out (by omega)
   clear HO2 HVZ
   go_upto_region 9 with fail
   obtain ⟨wE,HwE⟩:=nm w2.drew;have uE:Upd Non w2 wE:=by rw [←HwE.out];exact Upd.refl.drew
   have C2:=h_ (CM.out wE y (HY.out.non uE) (by rw [HY2.out];exact hm));rw [HY2.out,HK.out.left] at C2;refine wp_region_held_drew (S:=fun w'=>w'.cell? ⟨bx,0,none⟩=some (.pointer (some ⟨p,0,none⟩))) (by kernel_rfl) (by rw [HwE.out];exact u_ d2 uE (fun f=>f)) (fun hHeld=>?_)
   rw [HwE.out] at hHeld ⊢;refine wpT 0 ?_;(try simp only [y_,z_]);refine wpT 1 ?_;(try simp only [y_,z_]);refine wpT 2 ?_;(try simp only [y_,z_]);refine wpT 3 ?_;(try simp only [y_,z_]);refine wpT 4 ?_;(try simp only [y_,z_]);refine aR_ (rs:=[5]) (by kernel_rfl) (by simp) ?_;refine aC_ rfl (fun K hK=>?_) aN_;go_simp;refine C2.out.mono ?_;rintro e w3 ⟨rfl,z,hz,hz1,hz2,hkz,huz⟩;go_wp2_with fail
   have d3:=u_ (u_ d2 uE (fun f=>f)) huz (HYO.out _ (.inr rfl));refine hK.out _ _ ?_ (fun hHeld=>?_)
   ·exact d3
   clear hK K;(try simp only [y_,z_]);refine wpT 6 ?_;(try simp only [y_,z_]);refine aD_ (by kernel_rfl) ?_ _;obtain ⟨M,HM⟩:=nm (varF s 36 x.ms x.left);rw [HM.out] at hz1 HO3 ⊢;obtain ⟨m1,Hm1⟩:=nm M.1;rw [Hm1.out] at HO3 ⊢;have hg:=((hg2.upd uE (fun f=>f)).upd huz (HYO.out _ (.inl rfl)));have huz2:Upd (y.own p) w2 w3:=(uE.mono (fun _ _ f=>f.elim)).trans huz (fun _ _ q=>q);have HKZ:Hid (Keeps w1 p x z):=HK.out.trans ⟨hkz.i,hkz.why,hkz.ea,hkz.left,fun j hj=>(hkz.own j hj).imp_right (fun q=>Nat.le_trans uE.size q)⟩ HU.out.size
   have HUZ:Hid (Upd (fun k=>x.own p k∨k=g) w1 w3):=(HU.out.mono (fun _ _ q=>.inl q)).trans huz2 (fun j hj q=>by
    rcases HK.out.own j q with r | r
    ·exact .inl r
    ·omega)
   have HZO:Hid (¬z.own p g):=fun q=>by
    rcases hkz.own g q with r | r
    ·exact HYO.out _ (.inl rfl) r
    ·have:=hg2.lt;have:=uE.size;omega
   have HZ:=h_ hz;have HZ1:=h_ hz1;have HZ2:=h_ hz2;unfold p0 at hg;have y0:=hg.cell 0;have y1:=hg.cell 1;have y2:=hg.cell 2;have y3:=hg.cell 3;have y4:=hg.cell 4;have yf:=hg.frozen;have HGB:=h_ hg;clear hHeld C2 CM hz hz1 hz2 hkz huz huz2 uE HwE d2 d3 hg hg2 hx2;by_cases hpos:0<m1
   ·have fp:decide ((0:Int)<(m1:Int))=true:=dT_ (by omega);have HS:Hid (o=some (.mk 0 1 0 m1 [],{ psOf x with ms:=M.2 })):=by show _=_;rw [HO3.out,if_pos hpos]
    clear HO3;go_wp2_with fail
    go_ret;rw [set5_eq];have us:=set5_upd w3 g (.int .i64 0) (.int .i64 1) (.int .i64 0) (.int .i64 m1) (.slice none 0 0);refine ⟨.mk 0 1 0 m1 [],true,z,rfl,rfl,set5_blk HGB.out _ _ _ _ _,HZ.out.upd us (fun k _ e=>by subst e;exact ⟨hpg,fun r=>HZO.out (.inr (.inl r)),fun r=>HZO.out (.inr (.inr r))⟩),HKZ.out,HUZ.out.trans us (fun _ _ q=>.inr q),(fun _=>⟨_,HS.out,rfl,by rw [HZ2.out];exact HVS.out,HZ1.out⟩),(fun q=>by cases q)⟩
   ·have fp:decide ((0:Int)<(m1:Int))=false:=dF_ (by omega);have HN:Hid (o=none):=by show _=_;rw [HO3.out,if_neg hpos]
    clear HO3;go_wp2_with fail
    go_ret;rw [set5_eq];have us:=set5_upd w3 g (.int .i64 0) (.int .i64 1) (.int .i64 0) (.int .i64 m1) (.slice none 0 0);refine ⟨.mk 0 1 0 m1 [],false,z,rfl,rfl,set5_blk HGB.out _ _ _ _ _,HZ.out.upd us (fun k _ e=>by subst e;exact ⟨hpg,fun r=>HZO.out (.inr (.inl r)),fun r=>HZO.out (.inr (.inr r))⟩),HKZ.out,HUZ.out.trans us (fun _ _ q=>.inr q),(fun q=>by cases q),(fun _=>HN.out)⟩
structure LOk (L:List Tok) (T:List (Bs×Nat)) (fin:Nat):Prop where
 lt:T.length<L.length
 good:∀i (h:i<T.length),L[i]?=some ⟨T[i].1,T[i].2,false⟩
 bad:∃s,L[T.length]?=some ⟨s,fin,true⟩
 ne:∀t∈T,t.1≠[]
 sz:∀t∈T,t.1.length≤20000
 len:L.length≤100000
section
variable {L:List Tok} {T:List (Bs×Nat)} {fin:Nat}
theorem LOk.tk (h:LOk L T fin) {i:Nat} (hi:i≤T.length) (s:Bs):isT L i s=decide (tkF T i=some s):=by
 unfold isT tkF;rcases Nat.lt_or_ge i T.length with q | q
 ·rw [h.good i q,List.getElem?_eq_getElem q];simp
 ·obtain ⟨z,hz⟩:=h.bad;rw [show i=T.length by omega,hz,List.getElem?_eq_none (Nat.le_refl _)];simp
theorem LOk.pos (h:LOk L T fin) {i:Nat} (hi:i≤T.length):posT L i=offF T fin i:=by
 unfold posT offF;rcases Nat.lt_or_ge i T.length with q | q
 ·rw [h.good i q,List.getElem?_eq_getElem q]
 ·obtain ⟨z,hz⟩:=h.bad;rw [show i=T.length by omega,hz,List.getElem?_eq_none (Nat.le_refl _)]
def wkF (T:List (Bs×Nat)) (i:Nat):Option Bs:=match tkF T i with | some s=>if isPn (s.headD 0) then none else some s | none=>none
theorem LOk.word (h:LOk L T fin) {x:St} (hi:x.i≤T.length):wordOk L x=(x.why==0&&(wkF T x.i).isSome):=by
 unfold wordOk wkF tkF;rcases Nat.lt_or_ge x.i T.length with q | q
 ·rw [h.good _ q,List.getElem?_eq_getElem q];simp only [Option.map_some,Bool.not_false,Bool.true_and];cases isPn (T[x.i].1.headD 0) <;> simp
 ·obtain ⟨z,hz⟩:=h.bad;rw [show x.i=T.length by omega,hz,List.getElem?_eq_none (Nat.le_refl _)];simp
theorem LOk.at_ (h:LOk L T fin) {i:Nat} (hi:i<L.length) {s:Bs} (hw:wkF T i=some s):L[i].s=s∧L[i].bad=false∧s≠[]∧s.length≤20000∧i<T.length∧tkF T i=some s∧isPn (s.headD 0)=false:=by
 unfold wkF at hw
 split at hw
 ·rename_i z hz
  split at hw
  ·cases hw
  ·rename_i hp;injection hw with hw
   subst hw
   have hq:i<T.length:=by
    rcases Nat.lt_or_ge i T.length with q | q
    ·exact q
    ·unfold tkF at hz;rw [List.getElem?_eq_none q] at hz;cases hz
   have e:T[i].1=z:=by unfold tkF at hz;rw [List.getElem?_eq_getElem hq] at hz;simpa using hz
   have g:=h.good i hq;rw [List.getElem?_eq_getElem hi] at g;injection g with g
   have hm:T[i]∈T:=List.getElem_mem hq;refine ⟨by rw [g];exact e,by rw [g],by rw [←e];exact h.ne _ hm,by rw [←e];exact h.sz _ hm,hq,hz,by simpa using hp⟩
 ·cases hw
theorem LOk.ne' (h:LOk L T fin) {i:Nat} (hi:i<L.length) (hT:i≤T.length):L[i].bad=false→L[i].s≠[]:=fun q=>by
 rcases Nat.lt_or_ge i T.length with r | r
 ·have g:=h.good i r;rw [List.getElem?_eq_getElem hi] at g;injection g with g
  rw [g];exact h.ne _ (List.getElem_mem r)
 ·obtain ⟨z,hz⟩:=h.bad;have e:i=T.length:=by omega
  subst e;rw [List.getElem?_eq_getElem hi] at hz;injection hz with hz
  rw [hz] at q;cases q
end
def Good (T:List (Bs×Nat)) (x:St):Prop:=x.i≤T.length∧(x.why=0→x.vs.length≤x.i∧x.ms.length≤x.i)
def ResS {α:Type} (x y:St) (r:Except Er (α×PS)) (P:α→Prop):Prop :=
 (x.why=0→match r with
  | .ok (v,ps)=>y.why=0∧psOf y=ps∧P v
  | .error e=>y.why=e.1∧y.ea=e.2)∧(x.why≠0→y.why=x.why∧y.ea=x.ea)
theorem fail_why {x:St} {a b:Int} (h:x.why≠0):x.fail a b=x:=if_neg h
theorem fail_zero {x:St} {a b:Int} (h:x.why=0):x.fail a b={ x with why:=a,ea:=b }:=if_pos h
theorem fail_own (x:St) (a b:Int) (p k:Nat):(x.fail a b).own p k↔x.own p k:=by unfold St.fail;split <;> rfl
theorem fail_i (x:St) (a b:Int):(x.fail a b).i=x.i:=by unfold St.fail;split <;> rfl
theorem fail_left (x:St) (a b:Int):(x.fail a b).left=x.left:=by unfold St.fail;split <;> rfl
theorem Good.fail {T:List (Bs×Nat)} {x:St} (h:x.i≤T.length) {a b:Int} (ha:a≠0):Good T (x.fail a b):=by
 refine ⟨by rw [fail_i];exact h,fun q=>?_⟩
 exfalso
 by_cases hx:x.why=0
 ·rw [fail_zero hx] at q;exact ha q
 ·rw [fail_why hx] at q;exact hx q
theorem wrd_eq {α:Type} (T:List (Bs×Nat)) (fin:Nat) (f:Bs→PS→Option (α×PS)) (x:PS):wrdF T fin f x=match wkF T x.i with
  | some s=>(match f s x with | some (a,y)=>.ok (a,{ y with i:=x.i+1 }) | none=>.error (serr T fin x.i))
  | none=>.error (serr T fin x.i):=by
 unfold wrdF wkF
 cases tkF T x.i with
 | none=>rfl
 | some s =>
  dsimp only;generalize isPn (s.headD 0)=b;cases b <;> rfl
def appF (T:List (Bs×Nat)) (fin:Nat) (left:Bool) (f:Nat) (x:PS):Except Er (Pt×PS) :=
 match wrdF T fin (operF left) x with
 | .error e=>.error e
 | .ok (p,y)=>match kidsF (termF T fin left f) ((arF p.op).getD 0) y with
  | .error e=>.error e
  | .ok (l,z)=>match expF T fin [41] z with
   | .error e=>.error e
   | .ok u=>.ok (.mk 0 p.op p.imm p.iv l,u)
theorem termF_succ (T:List (Bs×Nat)) (fin:Nat) (left:Bool) (f:Nat) (x:PS):termF T fin left (f+1) x=if tkF T x.i=some [40] then appF T fin left f { x with i:=x.i+1 } else wrdF T fin (atomF left) x:=rfl
def TermP (T:List (Bs×Nat)) (w:World) (p:Nat) (A:Option Addr) (c:Nat) (L:List Tok) (x:St) (r:Except Er (Pt×PS)) (e:Ending) (w':World):Prop :=
 ∃(q:Pt) (KA:Option Addr) (kc:Nat) (y:St),e=.returned (pv q KA kc)∧PtK w' (fun k=>w.heap.size≤k∧¬y.own p k) q KA kc∧RdS w' p A c L y∧Good T y∧y.left=x.left∧(∀k,y.own p k→x.own p k∨w.heap.size≤k)∧Upd (x.own p) w w'∧ResS x y r (fun v=>v=q∧q.size+x.i≤y.i)
theorem hcf64:∀(args:Array Value) (w:World),(callFunc 95 args).run Tryz.prog w=.ok (.enter 95 args) w:=fun args w=>by
 simp [callFunc,Tryz.func95,Tryz.f95]
theorem atom_len {left:Bool} {s:Bs} {x ps:PS} {q:Pt} (h:atomF left s x=some (q,ps)):ps.vs.length≤x.vs.length+1∧ps.ms.length≤x.ms.length+1:=by
 unfold atomF at h
 split at h
 ·injection h with h;injection h with _ h;subst h;exact ⟨Nat.le_succ _,Nat.le_succ _⟩
 ·split at h
  ·injection h with h;injection h with _ h;subst h;exact ⟨varF_len _ _ _ _,Nat.le_succ _⟩
  ·split at h
   ·injection h with h;injection h with _ h;subst h;exact ⟨Nat.le_succ _,varF_len _ _ _ _⟩
   ·cases h
theorem size_leaf' {q:Pt} (h:q.kids=[]):q.size=1:=by rw [Pt.size_eq,h];rfl
set_option maxRecDepth 100000 in
set_option maxHeartbeats 4000000 in
theorem rTerm_c {L:List Tok} {T:List (Bs×Nat)} {fin:Nat} (hL:LOk L T fin) (left:Bool) (f:Nat)
  (HA:∀{w:World} {p:Nat} {A:Option Addr} {c:Nat} {x:St},RdS w p A c L x→Good T x→x.left=left→x.why=0→T.length<x.i+f→Calls Tryz.prog 94 #[.pointer (some ⟨p,0,none⟩)] w (TermP T w p A c L x (appF T fin left f (psOf x))))
  {w:World} {p:Nat} {A:Option Addr} {c:Nat} {x:St} (h:RdS w p A c L x) (hx:Good T x) (hl:x.left=left) (hf:x.why=0→T.length<x.i+(f+1)) :
  Calls Tryz.prog 64 #[.pointer (some ⟨p,0,none⟩)] w (TermP T w p A c L x (termF T fin left (f+1) (psOf x))):=by
 have hiL:x.i<L.length:=by have:=hL.lt;have:=hx.1;omega
 have hLl:=hL.len;have HS:Hid (termF T fin left (f+1) (psOf x)=if tkF T x.i=some [40] then appF T fin left f { psOf x with i:=x.i+1 } else wrdF T fin (atomF left) (psOf x)):=rfl
 obtain ⟨r,Hr⟩:=nm (termF T fin left (f+1) (psOf x));rw [Hr.out] at HS ⊢;obtain ⟨W1,HW1⟩:=nm (w.alloc (.cells #[.pointer (some ⟨p,0,none⟩)] 54));have u1:Upd Non w W1:=by rw [←HW1.out];exact Upd.refl.alloc _
 have b1:Blk W1 w.heap.size 54 #[.pointer (some ⟨p,0,none⟩)]:=by rw [←HW1.out];exact Blk.new _ _ _
 have s1:W1.heap.size=w.heap.size+1:=by rw [←HW1.out];simp
 obtain ⟨W2,HW2⟩:=nm (W1.alloc (.cells #[.int .i64 0,.int .i64 0,.int .i64 0,.int .i64 0,.slice none 0 0] 40));have u2:Upd Non W1 W2:=by rw [←HW2.out];exact Upd.refl.alloc _
 have b2:Blk W2 (w.heap.size+1) 40 #[.int .i64 0,.int .i64 0,.int .i64 0,.int .i64 0,.slice none 0 0]:=by rw [←HW2.out,←s1];exact Blk.new _ _ _
 have s2:W2.heap.size=w.heap.size+2:=by rw [←HW2.out];simp [s1]
 have b1:=b1.upd u2 (fun f=>f);have U2:=u1.then_non u2;have e1:=HW1.out;have e2:=HW2.out;have h2:=h.non U2;have CI:=h_ (rIs_c h2 hiL [40]);rw [hL.tk hx.1 [40]] at CI;have d0:=b1.cell 0;have H:=h_ h;have H2:=h_ h2;have HX:=h_ hx;have HB1:=h_ b1;have HB2:=h_ b2;have HU2:=h_ U2;have hpw:p<w.heap.size:=h.blk.lt;obtain ⟨z,Hz⟩:=nm (x.why==0&&decide (tkF T x.i=some [40]));rw [Hz.out] at CI;clear h h2 b1 b2 u1 u2 U2 HW1 HW2 hx;go_enter Tryz.func64,Tryz.ntmps64;go_wp2_with fail
 refine CI.out.mono ?_;rintro e w3 ⟨rfl,hu3⟩;have d3:=u_ d0 hu3 (fun f=>f);have H3:=h_ (H2.out.non hu3);have HU3:=h_ (HU2.out.then_non hu3);have HB3:=h_ (HB2.out.upd hu3 (fun f=>f));have HX3:=h_ (HB1.out.upd hu3 (fun f=>f));have s3:=hu3.size;clear CI d0 H2 HU2 HB2 HB1 hu3 e1 e2
 cases z with
 | true =>
  have hz:=Hz.out;simp only [Bool.and_eq_true,beq_iff_eq,decide_eq_true_eq] at hz;have HZ1:Hid (x.why=0):=hz.1;have HR:Hid (r=appF T fin left f { psOf x with i:=x.i+1 }):=by show _=_;rw [HS.out,if_pos hz.2]
  have hiT:x.i<T.length:=by
   rcases Nat.lt_or_ge x.i T.length with q | q
   ·exact q
   ·have:=hz.2;unfold tkF at this;rw [List.getElem?_eq_none q] at this;cases this
  obtain ⟨c0,c1,c2,c3,c4,c5,c6⟩:=H3.out.cells;have cf:=H3.out.blk.frozen;have hlt5:x.i<100000:=by omega
  obtain ⟨i,Hi⟩:=nm x.i;rw [Hi.out] at c1 hlt5;obtain ⟨W4,HW4⟩:=nm (w3.setCell ⟨p,1,none⟩ (.int .i64 ((i:Int)+1)));have u4:Upd (·=p) w3 W4:=by rw [←HW4.out];exact updCell _ _ _ _
  have h4:RdS W4 p A c L { x with i:=x.i+1 }:=by
   refine H3.out.set u4 ?_ rfl rfl rfl rfl rfl rfl;have:=H3.out.blk.set_ 1 (.int .i64 ((i:Int)+1));rw [HW4.out] at this;simpa [rcells,Hi.out] using this
  have e4:=HW4.out;have d4:=u_ d3 u4 (by omega);have s4:=u4.size;have CA:=h_ (HA h4 ⟨hiT,fun _=>by have:=HX.out.2 hz.1;exact ⟨Nat.le_succ_of_le this.1,Nat.le_succ_of_le this.2⟩⟩ hl hz.1 (by have:=hf hz.1;show T.length<x.i+1+f;omega))
  have b4:=HB3.out.upd u4 (by omega);have HU4:Hid (Upd (·=p) w W4):=(HU3.out.mono (fun _ _ f=>f.elim)).trans u4 (fun _ _ q=>q);have HB4:=h_ b4;clear Hz HS hz c0 c2 c3 c4 c5 c6 h4 u4 b4 HA hf;go_wp2_with fail
  refine CA.out.mono ?_;rintro e w5 ⟨q,KA,kc,y,rfl,hq,hy,hg,hyl,ho,hu,hres⟩;have hown:∀j,St.own { x with i:=i+1 } p j→j<w.heap.size:=fun j hj=>H.out.lt (x:=x) (by rcases hj with q | q | q;exact .inl q;exact .inr (.inl q);exact .inr (.inr q))
  have b5:=HB4.out.upd hu (fun q=>by have:=hown _ (by rw [←Hi.out];exact q);omega);have y0:=b5.cell 0;have y1:=b5.cell 1;have y2:=b5.cell 2;have y3:=b5.cell 3;have y4:=b5.cell 4;have yf:=b5.frozen;have HB5:=h_ b5;have HQ:=h_ hq;have HY:=h_ hy;have HG:=h_ hg;have HO:=h_ ho;have HU:=h_ hu;have HRS:=h_ hres;have HYL:=h_ hyl;clear b5 hq hy hg ho hu hres hyl CA d4 c1 cf e4;unfold pv;go_wp2_with fail
  rw [set5_eq];have us:=set5_upd w5 (w.heap.size+1) (.int .i64 q.v) (.int .i64 q.op) (.int .i64 q.imm) (.int .i64 q.iv) (.slice KA q.kids.length kc);refine bodyPost_ret (results_cell_row rfl _ _ (w.heap.size+1) 40 _ (0,0) _ rfl (set5_blk HB5.out _ _ _ _ _) Tryz.underlying40 rfl (by kernel_rfl)) rfl ?_;have hyg:∀j,y.own p j→j<w.heap.size∨W4.heap.size≤j:=fun j hj=>(HO.out j hj).imp_left (fun q=>hown j (by rw [←Hi.out];exact q))
  refine ⟨q,KA,kc,y,rfl,?_,HY.out.upd us (fun j _ e=>?_),HG.out,HYL.out,fun j hj=>?_,?_,?_⟩
  ·exact PtK.mono (fun k _ hk=>⟨by omega,hk.2⟩) _ _ _ (PtK.upd us (fun k _ hk e=>by omega) _ _ _ HQ.out)
  ·subst e;exact ⟨by omega,fun q=>by rcases hyg _ (.inr (.inl q)) with r | r <;> omega,fun q=>by rcases hyg _ (.inr (.inr q)) with r | r <;> omega⟩
  ·rcases HO.out j hj with q | q
   ·exact .inl (by rcases q with q | q | q;exact .inl q;exact .inr (.inl q);exact .inr (.inr q))
   ·exact .inr (by omega)
  ·exact ((HU4.out.mono (fun _ _ q=>.inl q)).trans HU.out (fun j _ q=>by rcases q with q | q | q;exact .inl q;exact .inr (.inl q);exact .inr (.inr q))).trans us (fun j hj e=>by omega)
  ·rw [HR.out];refine ⟨fun h0=>?_,fun h0=>absurd HZ1.out h0⟩;have h3:=HRS.out.1 h0;have e:psOf { x with i:=x.i+1 }={ psOf x with i:=x.i+1 }:=rfl;rw [e] at h3
   cases hc:appF T fin left f { psOf x with i:=x.i+1 } with
   | error e=>rw [hc] at h3;exact h3
   | ok v=>rw [hc] at h3;exact ⟨h3.1,h3.2.1,h3.2.2.1,by have:=h3.2.2.2;show q.size+x.i≤y.i;have h5:q.size+(x.i+1)≤y.i:=this;omega⟩
 | false =>
  have HR:Hid (x.why=0→r=wrdF T fin (atomF left) (psOf x)):=fun h0=>by
   rw [HS.out,if_neg];intro q;have hz:=Hz.out;rw [h0,dT_ q] at hz;cases hz
  obtain ⟨W4,HW4⟩:=nm (w3.alloc (.cells #[.int .i64 0,.int .i64 0,.int .i64 0,.int .i64 0,.slice none 0 0] 40));have u4:Upd Non w3 W4:=by rw [←HW4.out];exact Upd.refl.alloc _
  have g4:Blk W4 w3.heap.size 40 (p0 (.mk 0 0 0 0 [])):=by rw [←HW4.out];exact Blk.new _ _ _
  have s4:W4.heap.size=w3.heap.size+1:=by rw [←HW4.out];simp
  have e4:=HW4.out;have H4:=h_ (H3.out.non u4);have HX4:=h_ (HX3.out.upd u4 (fun f=>f));have HB4:=h_ (HB3.out.upd u4 (fun f=>f));have HG4:=h_ g4;have HU4:=h_ (HU3.out.then_non u4);have d4:=u_ d3 u4 (fun f=>f);have hown:∀j,x.own p j→j<w.heap.size:=fun j hj=>H.out.lt hj
  have hwn:x.why=0→x.vs.length≤100000∧x.ms.length≤100000:=fun h0=>by have:=HX.out.2 h0;omega
  have CW:=h_ (rWord_c H4.out hiL hLl (hL.ne' hiL HX.out.1) 95 #[.pointer (some ⟨w3.heap.size,0,none⟩),.pointer (some ⟨w.heap.size,0,none⟩)] hcf64
   (fun bb x2 w1 w2=>∃q,q.kids=[]∧Blk w2 w3.heap.size 40 (p0 q)∧(∀k,x2.own p k→x.own p k∨w1.heap.size≤k)∧x2.left=x.left∧Upd (fun k=>x.own p k∨k=w3.heap.size) w1 w2∧(bb=true→∃ps,atomF left L[x.i].s (psOf x)=some (q,ps)∧ps.i=x.i∧x2.vs=ps.vs∧x2.ms=ps.ms)∧(bb=false→atomF left L[x.i].s (psOf x)=none))
   (fun hok w1 u01=>by
    rw [hL.word HX.out.1,Bool.and_eq_true,beq_iff_eq] at hok;obtain ⟨sw,hsw⟩:=Option.isSome_iff_exists.1 hok.2;obtain ⟨f1,f2,f3,f4,f5,f6,f7⟩:=hL.at_ hiL hsw;have hb:=hwn hok.1;refine (rTerm1_c (H4.out.non u01) hb.2 hb.1 L[x.i].s (by rw [f1];omega) (.mk 0 0 0 0 []) (HG4.out.upd u01 (fun f=>f)) (HX4.out.upd u01 (fun f=>f)) (fun q=>by have:=hown _ q;omega) (fun q=>by have:=hown _ q;omega) (by omega)).mono ?_
    rintro e w2 ⟨q,b,y,rfl,k1,k2,k3,k4,k5,k6,k7⟩;rw [hl] at k6 k7
    exact ⟨b,y,rfl,k3,k4.i,k4.why.trans hok.1,k5.mono (fun k _ r=>by rcases r with r | r;have:=hown _ r;omega;omega),k4.own,q,k1,k2,k4.own,k4.left,k5,k6,k7⟩))
  clear Hz HS HA hf g4 u4 d3 H3 HU3 HB3 HX3;go_wp2_with fail
  refine CW.out.mono ?_;rintro e w5 hwd;have HWD:=h_ hwd;clear hwd CW
  obtain ⟨q,y,ev,hq5,hqk,hy5,hgy,hyl,hyo,hu5,hrs⟩:∃(q:Pt) (y:St),(∃v,e=.returned v)∧Blk w5 w3.heap.size 40 (p0 q)∧q.kids=[]∧RdS w5 p A c L y∧Good T y∧y.left=x.left∧(∀k,y.own p k→x.own p k∨W4.heap.size≤k)∧Upd (fun k=>x.own p k∨k=w3.heap.size∨k=W4.heap.size) W4 w5∧ResS x y r (fun v=>v=q∧q.size+x.i≤y.i):=by
   have hpos:=hL.pos HX.out.1;rcases HWD.out with ⟨hok,bb,x2,w1,w2,u01,⟨q,hqk,hqb,hqo,hql,hqu,ht,hff⟩,hi2,hw2,_,u2,rfl,hR⟩ | ⟨hok,rfl,hR,hu⟩
   ·rw [hL.word HX.out.1,Bool.and_eq_true,beq_iff_eq] at hok;obtain ⟨sw,hsw⟩:=Option.isSome_iff_exists.1 hok.2;obtain ⟨f1,f2,f3,f4,f5,f6,f7⟩:=hL.at_ hiL hsw;rw [f1] at ht hff;have hwr:=HR.out hok.1;rw [wrd_eq,show (psOf x).i=x.i from rfl,hsw] at hwr;dsimp only at hwr;have hqb5:Blk w5 w3.heap.size 40 (p0 q):=hqb.upd u2 (by omega);have hu5:Upd (fun k=>x.own p k∨k=w3.heap.size∨k=W4.heap.size) W4 w5:=(u01.mono (fun _ _ f=>f.elim)).trans ((hqu.mono (T:=fun k=>x.own p k∨k=w3.heap.size∨k=W4.heap.size) (fun _ _ h=>by rcases h with h | h;exact .inl h;exact .inr (.inl h))).trans u2 (fun _ _ h=>by rcases h with h | h;exact .inl (.inl h);exact .inr (.inr h))) (fun _ _ h=>h)
    have ho5:∀k,x2.own p k→x.own p k∨W4.heap.size≤k:=fun k hk=>(hqo k hk).imp_right (fun r=>Nat.le_trans u01.size r)
    cases bb with
    | true =>
     obtain ⟨ps,ha,hpi,hvs,hms⟩:=ht rfl;rw [ha] at hwr;have hal:=atom_len ha;have hgx:=HX.out.2 hok.1;refine ⟨q,{ x2 with i:=x.i+1 },⟨_,rfl⟩,hqb5,hqk,hR,⟨f5,fun _=>?_⟩,hql,ho5,hu5,fun _=>?_,fun q=>absurd hok.1 q⟩
     ·show x2.vs.length≤x.i+1∧x2.ms.length≤x.i+1;rw [hvs,hms];have : (psOf x).vs.length=x.vs.length:=rfl;have : (psOf x).ms.length=x.ms.length:=rfl;omega
     ·rw [hwr];refine ⟨hw2,?_,rfl,?_⟩
      ·show (⟨x.i+1,x2.vs,x2.ms⟩:PS)=⟨x.i+1,ps.vs,ps.ms⟩;rw [hvs,hms]
      ·show q.size+x.i≤x.i+1;rw [size_leaf' hqk];omega
    | false =>
     rw [hff rfl] at hwr;refine ⟨q,x2.fail 2 (posT L x.i),⟨_,rfl⟩,hqb5,hqk,hR,Good.fail (by rw [hi2];omega) (by decide),by rw [fail_left];exact hql,fun k hk=>ho5 k ((fail_own _ _ _ _ _).1 hk),hu5,fun _=>?_,fun q=>absurd hok.1 q⟩
     rw [hwr,fail_zero hw2,hpos];exact ⟨rfl,rfl⟩
   ·refine ⟨.mk 0 0 0 0 [],x.fail 2 (posT L x.i),⟨_,rfl⟩,HG4.out.upd hu (by omega),rfl,hR,Good.fail HX.out.1 (by decide),fail_left _ _ _,fun k hk=>.inl ((fail_own _ _ _ _ _).1 hk),hu.mono (fun _ _ h=>.inl (.inl h)),fun h0=>?_,fun h0=>by rw [fail_why h0];exact ⟨rfl,rfl⟩⟩
    rw [hL.word HX.out.1,h0] at hok;have hwr:=HR.out h0;rw [wrd_eq,show (psOf x).i=x.i from rfl] at hwr
    cases hk:wkF T x.i with
    | none =>
     rw [hk] at hwr;rw [hwr,fail_zero h0,hpos];exact ⟨rfl,rfl⟩
    | some sw=>rw [hk] at hok;cases hok
  obtain ⟨v,rfl⟩:=ev;clear HWD
  have b5:=HB4.out.upd hu5 (fun r=>by
   rcases r with r | r | r
   ·have:=hown _ r;omega
   ·omega
   ·omega)
  have y0:=b5.cell 0;have y1:=b5.cell 1;have y2:=b5.cell 2;have y3:=b5.cell 3;have y4:=b5.cell 4;have yf:=b5.frozen;unfold p0 at hq5;have z0:=hq5.cell 0;have z1:=hq5.cell 1;have z2:=hq5.cell 2;have z3:=hq5.cell 3;have z4:=hq5.cell 4;have HB5:=h_ b5;have HY:=h_ hy5;have HG:=h_ hgy;have HO:=h_ hyo;have HU:=h_ hu5;have HRS:=h_ hrs;have HYL:=h_ hyl;have HQK:=h_ hqk;clear b5 hq5 hy5 hgy hyo hu5 hrs hyl hqk d4 e4 HR hwn;go_wp2_with fail
  rw [set5_eq];have us:=set5_upd w5 (w.heap.size+1) (.int .i64 q.v) (.int .i64 q.op) (.int .i64 q.imm) (.int .i64 q.iv) (.slice none 0 0);refine bodyPost_ret (results_cell_row rfl _ _ (w.heap.size+1) 40 _ (0,0) _ rfl (set5_blk HB5.out _ _ _ _ _) Tryz.underlying40 rfl (by kernel_rfl)) rfl ?_;have hyg:∀j,y.own p j→j<w.heap.size∨W4.heap.size≤j:=fun j hj=>(HO.out j hj).imp_left (hown j)
  refine ⟨q,none,0,y,?_,?_,HY.out.upd us (fun j _ e=>?_),HG.out,HYL.out,fun j hj=>(HO.out j hj).imp_right (fun r=>by omega),?_,HRS.out⟩
  ·unfold pv;rw [HQK.out];rfl
  ·rw [PtK.iff,HQK.out];exact ⟨Nat.le_refl _,.inl rfl⟩
  ·subst e;exact ⟨by omega,fun q=>by rcases hyg _ (.inr (.inl q)) with r | r <;> omega,fun q=>by rcases hyg _ (.inr (.inr q)) with r | r <;> omega⟩
  ·exact ((HU4.out.mono (fun _ _ f=>f.elim)).trans HU.out (fun j hj r=>by
    rcases r with r | r | r
    ·exact r
    ·have:=HU4.out.size;omega
    ·have:=HU4.out.size;omega)).trans us (fun j hj e=>by omega)
def leafF (sort:Int) (dp:Bool) (vars:Int) (st:Bool) (n:Int):Pt :=
 if sort=2 then .mk 1 0 0 0 []
 else if n % 12=0∧dp=true then .mk 0 1 (wordF (n.tdiv 12 % 1000) n) 0 []
 else if st then .mk (2+n.tdiv 12 % 1000 % (if vars - 1<1 then 1 else vars - 1)) 0 0 0 []
 else .mk (1+n.tdiv 12 % 1000 % vars) 0 0 0 []
def kOpF (sort:Int) (st:Bool) (n:Int):Int :=
 if sort=2 then 27+n.tdiv 12 % 1000 % 3 else if st=true∧9<n % 12 then 23 else 4+n.tdiv 12 % 1000 % 19
def kImmF (op n:Int):Int×Int :=
 if hasImmF op then (if n.tdiv 12 % 1000 % 5=0 then (if op=27 then 1 else 1 - n.tdiv 12 % 1000 % 2,0) else (0,1+n.tdiv 12 % 1000 % 2)) else (0,0)
def sortsOf (op:Int):List Int:=(List.range (arityF op).1.toNat).map fun (j:Nat)=>operandSortF op j
def kidsG (g:Int→List Int→Pt×List Int):List Int→List Int→List Pt×List Int
 | [],xs=>([],xs)
 | s::ss,xs=>((g s xs).1::(kidsG g ss (g s xs).2).1,(kidsG g ss (g s xs).2).2)
def patF (vars:Int) (st:Bool):Nat→Int→List Int→Pt×List Int
 | 0,s,xs=>(leafF s true vars st (xs.headD 0),xs.tail)
 | f+1,s,xs =>
  if xs.headD 0 % 12<3 then (leafF s (decide (f<2)) vars st (xs.headD 0),xs.tail)
  else (.mk 0 (kOpF s st (xs.headD 0)) (kImmF (kOpF s st (xs.headD 0)) (xs.headD 0)).1 (kImmF (kOpF s st (xs.headD 0)) (xs.headD 0)).2 (kidsG (patF vars st f) (sortsOf (kOpF s st (xs.headD 0))) xs.tail).1,
   (kidsG (patF vars st f) (sortsOf (kOpF s st (xs.headD 0))) xs.tail).2)
theorem kidsG_snoc (g:Int→List Int→Pt×List Int) (s:Int):∀(ss:List Int) (xs:List Int),kidsG g (ss++[s]) xs=((kidsG g ss xs).1++[(g s (kidsG g ss xs).2).1],(g s (kidsG g ss xs).2).2)
 | [],xs=>rfl
 | t::ss,xs=>by
  simp only [List.cons_append,kidsG,kidsG_snoc g s ss]
theorem kidsG_len (g:Int→List Int→Pt×List Int):∀(ss:List Int) (xs:List Int),(kidsG g ss xs).1.length=ss.length
 | [],_=>rfl
 | s::ss,xs=>by simp only [kidsG,List.length_cons,kidsG_len g ss]
theorem kidsG_size {g:Int→List Int→Pt×List Int} {B:Nat} (h:∀s xs,(g s xs).1.size≤B):∀(ss:List Int) (xs:List Int),Pt.sizeL (kidsG g ss xs).1≤B * ss.length
 | [],_=>by simp [kidsG,Pt.sizeL]
 | s::ss,xs=>by
  have h1:=kidsG_size h ss (g s xs).2;have h2:=h s xs;simp only [kidsG,Pt.sizeL,List.length_cons,Nat.mul_add];omega
theorem kOp_arity (sort:Int) (st:Bool) (n:Int):0≤(arityF (kOpF sort st n)).1∧(arityF (kOpF sort st n)).1≤3:=by
 have h1:∀k:Fin 30,0≤(arityF (k.val:Int)).1∧(arityF (k.val:Int)).1≤3:=by decide +kernel
 have h2:0≤kOpF sort st n∧kOpF sort st n<30:=by
  unfold kOpF
  split
  ·omega
  ·split
   ·omega
   ·omega
 obtain ⟨k,hk⟩:=Int.eq_ofNat_of_zero_le h2.1;rw [hk];exact h1 ⟨k,by omega⟩
theorem sortsOf_len (op:Int):(sortsOf op).length=(arityF op).1.toNat:=by unfold sortsOf;simp
theorem sortsOf_get (op:Int) (j:Nat) (h:j<(sortsOf op).length):(sortsOf op)[j]=operandSortF op j:=by simp [sortsOf]
theorem leaf_size (sort:Int) (dp:Bool) (vars:Int) (st:Bool) (n:Int):(leafF sort dp vars st n).size=1:=by
 unfold leafF
 split
 ·exact Pt.size_leaf _ _ _ _
 ·split
  ·exact Pt.size_leaf _ _ _ _
  ·split <;> exact Pt.size_leaf _ _ _ _
def kSize:Nat→Nat
 | 0=>1
 | f+1=>1+3 * kSize f
theorem patF_size (vars:Int) (st:Bool):∀(f:Nat) (s:Int) (xs:List Int),(patF vars st f s xs).1.size≤kSize f
 | 0,s,xs=>by simp only [patF,kSize,leaf_size];omega
 | f+1,s,xs=>by
  simp only [patF]
  split
  ·simp only [leaf_size,kSize];omega
  ·rw [Pt.size_eq];simp only [Pt.kids,kSize];have h:=kidsG_size (patF_size vars st f) (sortsOf (kOpF s st (xs.headD 0))) xs.tail;have h1:=kOp_arity s st (xs.headD 0);rw [sortsOf_len] at h;have h2:kSize f * (arityF (kOpF s st (xs.headD 0))).1.toNat≤kSize f * 3:=Nat.mul_le_mul (Nat.le_refl _) (by omega);omega
end Go.Proofs.YtblkgjdhaibhgaaGreat
namespace Go.Proofs.YtblkgjdhaibhgaaGreat
open Go.RowKit
def findG:List Int→Int→Nat→Option Nat
 | [],_,_=>none
 | y::l,x,k=>if y=x then some k else findG l x (k+1)
def lastG:List Int→Int→Nat→Int→Int
 | [],_,_,a=>a
 | y::l,x,k,a=>lastG l x (k+1) (if y=x then (k:Int) else a)
def numV (vs:List Int) (x:Int):Int×List Int :=
 match findG vs x 0 with
 | some i=>((i:Int)+1,vs)
 | none=>((vs.length:Int)+1,vs++[x])
def numI (ms:List Int) (x:Int):Int×List Int :=
 if 0<x then (if lastG ms x 0 (-1)<0 then ((ms.length:Int)+1,ms++[x]) else (lastG ms x 0 (-1)+1,ms)) else (x,ms)
mutual
def numF:Pt→List Int→List Int→Pt×List Int×List Int
 | .mk v op imm iv kids,vs,ms =>
  if 0<v then (.mk (numV vs v).1 op imm iv kids,(numV vs v).2,ms)
  else (.mk v op imm (numI ms iv).1 (numL kids vs (numI ms iv).2).1,(numL kids vs (numI ms iv).2).2.1,(numL kids vs (numI ms iv).2).2.2)
def numL:List Pt→List Int→List Int→List Pt×List Int×List Int
 | [],vs,ms=>([],vs,ms)
 | k::ks,vs,ms=>((numF k vs ms).1::(numL ks (numF k vs ms).2.1 (numF k vs ms).2.2).1,(numL ks (numF k vs ms).2.1 (numF k vs ms).2.2).2.1,(numL ks (numF k vs ms).2.1 (numF k vs ms).2.2).2.2)
end
theorem numF_var {p:Pt} (h:0<p.v) (vs ms:List Int):numF p vs ms=(.mk (numV vs p.v).1 p.op p.imm p.iv p.kids,(numV vs p.v).2,ms):=by
 cases p with
 | mk v op imm iv kids=>simp only [numF,Pt.v,Pt.op,Pt.imm,Pt.iv,Pt.kids] at h ⊢;rw [if_pos h]
theorem numF_op {p:Pt} (h:¬0<p.v) (vs ms:List Int):numF p vs ms=(.mk p.v p.op p.imm (numI ms p.iv).1 (numL p.kids vs (numI ms p.iv).2).1,(numL p.kids vs (numI ms p.iv).2).2.1,(numL p.kids vs (numI ms p.iv).2).2.2):=by
 cases p with
 | mk v op imm iv kids=>simp only [numF,Pt.v,Pt.op,Pt.imm,Pt.iv,Pt.kids] at h ⊢;rw [if_neg h]
theorem numL_snoc (k:Pt):∀(ks:List Pt) (vs ms:List Int),numL (ks++[k]) vs ms=((numL ks vs ms).1++[(numF k (numL ks vs ms).2.1 (numL ks vs ms).2.2).1],(numF k (numL ks vs ms).2.1 (numL ks vs ms).2.2).2)
 | [],vs,ms=>by simp only [List.nil_append,numL]
 | x::ks,vs,ms=>by simp only [List.cons_append,numL,numL_snoc k ks]
theorem numL_len:∀(ks:List Pt) (vs ms:List Int),(numL ks vs ms).1.length=ks.length
 | [],_,_=>by simp [numL]
 | x::ks,vs,ms=>by simp only [numL,List.length_cons,numL_len ks]
theorem numV_len (vs:List Int) (x:Int):(numV vs x).2.length≤vs.length+1:=by
 unfold numV
 split <;> simp
theorem numI_len (ms:List Int) (x:Int):(numI ms x).2.length≤ms.length+1:=by
 unfold numI
 split
 ·split <;> simp
 ·simp
mutual
theorem numF_len:∀(p:Pt) (vs ms:List Int),(numF p vs ms).2.1.length≤vs.length+p.size∧(numF p vs ms).2.2.length≤ms.length+p.size∧(numF p vs ms).1.size=p.size
 | .mk v op imm iv kids,vs,ms=>by
  simp only [numF]
  split
  ·have:=numV_len vs v;simp only [Pt.size];refine ⟨?_,?_,trivial⟩ <;> omega
  ·obtain ⟨h1,h2,h3⟩:=numL_lens kids vs (numI ms iv).2;have:=numI_len ms iv;simp only [Pt.size,h3];refine ⟨?_,?_,trivial⟩ <;> omega
theorem numL_lens:∀(ks:List Pt) (vs ms:List Int),(numL ks vs ms).2.1.length≤vs.length+Pt.sizeL ks∧(numL ks vs ms).2.2.length≤ms.length+Pt.sizeL ks∧Pt.sizeL (numL ks vs ms).1=Pt.sizeL ks
 | [],vs,ms=>by simp [numL,Pt.sizeL]
 | k::ks,vs,ms=>by
  obtain ⟨h1,h2,h3⟩:=numF_len k vs ms;obtain ⟨g1,g2,g3⟩:=numL_lens ks (numF k vs ms).2.1 (numF k vs ms).2.2;simp only [numL,Pt.sizeL,h3,g3];refine ⟨?_,?_,trivial⟩ <;> omega
end
end Go.Proofs.YtblkgjdhaibhgaaGreat
namespace Go.Proofs.YtblkgjdhaibhgaaGreat
open Go.RowKit
theorem T_pats:SlT Tryz.prog 38 40 5 56:=by
 obtain ⟨i,h1,h2,h3,h4⟩:=info_parts (show (Tryz.prog.info? 40).map (fun i=>(i.zero,i.size,i.bytes))=some (some (.agg #[.int .i64 0,.int .i64 0,.int .i64 0,.int .i64 0,.slice none 0 0]),5,56) from by kernel_rfl)
 exact ⟨Tryz.underlying38,⟨i,_,h1,h2,h3,h4,rfl⟩,by omega⟩
section
variable {w w':World} {F G G' S:Nat→Prop} {A:Option Addr} {L:List Pt} {n c:Nat}
def pcells (p:Pt) (KA:Option Addr) (kc:Nat):List Value:=[.int .i64 p.v,.int .i64 p.op,.int .i64 p.imm,.int .i64 p.iv,.slice KA p.kids.length kc]
def PtCells (w:World) (K:Nat→Prop) (cs:List Value) (L:List Pt):Prop :=
 cs.length=5 * L.length∧∀i (h:i<L.length),∃KA kc,(∀j,j<5→cs[5 * i+j]?=(pcells L[i] KA kc)[j]?)∧PtK w K L[i] KA kc
theorem PtCells.nil {K:Nat→Prop}:PtCells w K [] []:=⟨rfl,fun i h=>by simp at h⟩
theorem PtCells.mono {K K' S:Nat→Prop} {cs:List Value} (h:PtCells w K cs L) (u:Upd S w w') (d:∀k,k<w.heap.size→K k→¬S k) (hK:∀k,k<w.heap.size→K k→K' k):PtCells w' K' cs L:=by
 refine ⟨h.1,fun i hi=>?_⟩;obtain ⟨KA,kc,h1,h5⟩:=h.2 i hi;refine ⟨KA,kc,h1,?_⟩;have h6:=PtK.mono (G:=fun k=>K' k∧K k) (fun k hk hK0=>⟨hK k hk hK0,hK0⟩) _ _ _ h5;exact PtK.mono (fun _ _ h=>h.1) _ _ _ (PtK.upd u (fun k hk hk'=>d k hk hk'.2) _ _ _ h6)
theorem PtCells.snoc {K:Nat→Prop} {cs:List Value} (h:PtCells w K cs L) {p:Pt} {KA:Option Addr} {kc:Nat} (hk:PtK w K p KA kc) :
  PtCells w K (cs++pcells p KA kc) (L++[p]):=by
 refine ⟨by simp [h.1,pcells];omega,fun i hi=>?_⟩;have hl:=h.1;by_cases hlt:i<L.length
 ·obtain ⟨KA,kc,h1,h5⟩:=h.2 i hlt;refine ⟨KA,kc,fun j hj=>?_,?_⟩
  ·rw [List.getElem?_append_left (by omega),List.getElem_append_left hlt];exact h1 j hj
  ·rw [List.getElem_append_left hlt];exact h5
 ·have he:i=L.length:=by simp at hi;omega
  subst he;refine ⟨KA,kc,fun j hj=>?_,?_⟩
  ·rw [List.getElem?_append_right (by omega),hl];simp
  ·simpa using hk
def PtO (w:World) (G:Nat→Prop) (A:Option Addr) (n c:Nat) (L:List Pt):Prop :=
 n=L.length∧∃cs,Own w 40 5 A n c cs∧PtCells w (fun k=>G k∧¬At A k) cs L
theorem PtO.none_:PtO w G none 0 0 []:=⟨rfl,[],Own.none_,PtCells.nil⟩
theorem PtO.upd (h:PtO w G A n c L) (u:Upd S w w') (dA:∀k,At A k→¬S k) (dG:∀k,k<w.heap.size→G k→¬S k):PtO w' G A n c L:=by
 obtain ⟨h1,cs,h2,h3⟩:=h;exact ⟨h1,cs,h2.upd u dA,h3.mono u (fun k hk hg=>dG k hk hg.1) (fun _ _ h=>h)⟩
theorem PtO.mono (h:PtO w G A n c L) (hG:∀k,k<w.heap.size→G k→G' k):PtO w G' A n c L:=by
 obtain ⟨h1,cs,h2,h3⟩:=h;exact ⟨h1,cs,h2,h3.mono (Upd.refl (S:=Non)) (fun _ _ _ f=>f) (fun k hk hg=>⟨hG k hk hg.1,hg.2⟩)⟩
theorem PtO.le (h:PtO w G A n c L):n≤c:=by obtain ⟨_,_,h2,_⟩:=h;exact h2.le
theorem PtO.lt (h:PtO w G A n c L) {k:Nat} (hk:At A k):k<w.heap.size:=by obtain ⟨_,_,h2,_⟩:=h;exact h2.lt hk
theorem PtO.view (h:PtO w G A n c L) (hA:∀k,At A k→F k) (hG:∀k,k<w.heap.size→G k→F k) (v op imm iv:Int):PtK w F (.mk v op imm iv L) A c:=by
 obtain ⟨rfl,cs,h2,h3⟩:=h;rw [PtK.iff];refine ⟨h2.le,?_⟩;rcases h2.cases with ⟨_,h0,_,_⟩ | ⟨g,cur,rfl,hb,_,_,_,ht⟩
 ·exact .inl (List.eq_nil_of_length_eq_zero h0)
 ·refine .inr ⟨g,0,rfl,hA g (At.some_.2 rfl),PtL.of fun i hi=>?_⟩;have hl:=h3.1;obtain ⟨KA,kc,c1,c5⟩:=h3.2 i hi
  have hcell:∀j u,cs[j]?=some u→w.cell? ⟨g,j,none⟩=some u:=by
   intro j u hj;rw [hb.cell];rw [←ht] at hj;rw [List.getElem?_take] at hj
   split at hj
   ·simpa using hj
   ·cases hj
  have e:0+i * 5=5 * i:=by omega
  refine ⟨KA,kc,?_,?_,?_,?_,?_,PtK.mono (fun k hk hg=>hG k hk hg.1) _ _ _ c5⟩
  ·rw [e];exact hcell _ _ (c1 0 (by omega))
  ·rw [e];exact hcell _ _ (c1 1 (by omega))
  ·rw [e];exact hcell _ _ (c1 2 (by omega))
  ·rw [e];exact hcell _ _ (c1 3 (by omega))
  ·rw [e];exact hcell _ _ (c1 4 (by omega))
theorem PtO.snoc {cs:List Value} (h:PtO w G A n c L) (hc:PtCells w (fun k=>G k∧¬At A k) cs L) {p:Pt} {KA:Option Addr} {kc:Nat} (hk:PtK w (fun k=>G k∧¬At A k) p KA kc)
  {A':Option Addr} {c':Nat} (ho:Own w' 40 5 A' (n+1) c' (cs++pcells p KA kc)) (hu:Upd (At A) w w') (hat:∀k,At A' k→At A k∨k=w.heap.size) (hG:∀k,k<w.heap.size→G k→G' k) :
  PtO w' G' A' (n+1) c' (L++[p]):=by
 refine ⟨by simp [h.1],_,ho,?_⟩;refine (hc.snoc hk).mono hu (fun k _ hg=>hg.2) (fun k hk hg=>⟨hG k hk hg.1,fun hA=>?_⟩);rcases hat k hA with h | h
 ·exact hg.2 h
 ·omega
end
end Go.Proofs.YtblkgjdhaibhgaaGreat
namespace Go.Proofs.YtblkgjdhaibhgaaGreat
def Mild {α:Type}:Sem α→Prop
 | .pure _=>True
 | .load _ _ k=>∀v,Mild (k v)
 | .store ..=>False
 | .new _ k=>∀r,Mild (k r)
 | .shape _ k=>∀s,Mild (k s)
 | .freeze ..=>False
 | .frozen _ k=>∀b,Mild (k b)
 | .getObj _ k=>∀o,Mild (k o)
 | .setObj ..=>False
 | .choose _ k=>∀n,Mild (k n)
 | .sys ..=>False
 | .program k=>∀p,Mild (k p)
 | .mark _ k=>Mild k
 | .halt _=>True
theorem Mild.bind_ {α β:Type} {f:α→Sem β} (hf:∀a,Mild (f a)):∀(s:Sem α),Mild s→Mild (s.bind f)
 | .pure a,_=>hf a
 | .load _ _ k,h=>fun v=>Mild.bind_ hf (k v) (h v)
 | .new _ k,h=>fun v=>Mild.bind_ hf (k v) (h v)
 | .shape _ k,h=>fun v=>Mild.bind_ hf (k v) (h v)
 | .frozen _ k,h=>fun v=>Mild.bind_ hf (k v) (h v)
 | .getObj _ k,h=>fun v=>Mild.bind_ hf (k v) (h v)
 | .choose _ k,h=>fun v=>Mild.bind_ hf (k v) (h v)
 | .program k,h=>fun v=>Mild.bind_ hf (k v) (h v)
 | .mark _ k,h=>Mild.bind_ hf k h
 | .halt _,_=>trivial
 | .store ..,h=>h.elim
 | .freeze ..,h=>h.elim
 | .setObj ..,h=>h.elim
 | .sys ..,h=>h.elim
theorem Mild.bind {α β:Type} {s:Sem α} {f:α→Sem β} (hs:Mild s) (hf:∀a,Mild (f a)):Mild (s >>= f):=Mild.bind_ hf s hs
structure Calmly (R:World→Prop):Prop where
 alloc:∀w o,R w→R (w.alloc o)
 draw:∀w:World,R w→R { w with drawn:=w.drawn+1 }
theorem Mild.run {α:Type} {P:Program} {R:World→Prop} (hR:Calmly R):∀(s:Sem α) (w:World),Mild s→R w→∀a w',s.run P w=.ok a w'→R w'
 | .pure _,w,_,h,a,w',e=>by simp only [Sem.run] at e;cases e;exact h
 | .load m p k,w,hm,h,a,w',e=>by
  simp only [Sem.run] at e
  split at e
  ·exact Mild.run hR _ w (hm _) h a w' e
  ·split at e
   ·exact Mild.run hR _ w (hm _) h a w' e
   ·cases e
 | .new o k,w,hm,h,a,w',e=>by
  simp only [Sem.run] at e;exact Mild.run hR (k w.heap.size) _ (hm _) (hR.alloc w o h) a w' e
 | .shape r k,w,hm,h,a,w',e=>by simp only [Sem.run] at e;exact Mild.run hR _ w (hm _) h a w' e
 | .frozen r k,w,hm,h,a,w',e=>by simp only [Sem.run] at e;exact Mild.run hR _ w (hm _) h a w' e
 | .getObj r k,w,hm,h,a,w',e=>by
  simp only [Sem.run] at e
  split at e
  ·cases e
  ·exact Mild.run hR _ w (hm _) h a w' e
  ·cases e
 | .choose q k,w,hm,h,a,w',e=>by
  simp only [Sem.run] at e
  split at e
  ·exact Mild.run hR _ w (hm _) h a w' e
  ·exact Mild.run hR _ _ (hm _) (hR.draw w h) a w' e
 | .program k,w,hm,h,a,w',e=>by simp only [Sem.run] at e;exact Mild.run hR _ w (hm _) h a w' e
 | .mark _ k,w,hm,h,a,w',e=>by simp only [Sem.run] at e;exact Mild.run hR k w hm h a w' e
 | .halt _,w,_,h,a,w',e=>by simp only [Sem.run] at e;cases e
 | .store ..,_,h,_,_,_,_=>h.elim
 | .freeze ..,_,h,_,_,_,_=>h.elim
 | .setObj ..,_,h,_,_,_,_=>h.elim
 | .sys ..,_,h,_,_,_,_=>h.elim
theorem Mild.underlying (t:TypeId):Mild (Go.underlying t):=by unfold Go.underlying;exact Mild.bind (fun _=>trivial) (fun _=>by split <;> trivial)
theorem Mild.typeInfo (t:TypeId):Mild (Go.typeInfo t):=by unfold Go.typeInfo;exact Mild.bind (fun _=>trivial) (fun _=>by split <;> trivial)
theorem Mild.sizeOf (t:TypeId):Mild (Go.sizeOf t):=by unfold Go.sizeOf;exact Mild.bind (Mild.typeInfo t) (fun _=>trivial)
theorem Mild.isAgg (t:TypeId):Mild (Go.isAgg t):=by unfold Go.isAgg;exact Mild.bind (Mild.underlying t) (fun _=>by split <;> trivial)
theorem Mild.load (a:Addr):Mild (load a):=fun _=>trivial
theorem Mild.loadCellsFrom (a:Addr):∀(n i:Nat) (acc:Array Value),Mild (loadCellsFrom a i n acc)
 | 0,_,_=>trivial
 | n+1,i,acc=>by unfold Go.loadCellsFrom;exact Mild.bind (Mild.load _) (fun _=>Mild.loadCellsFrom a n _ _)
theorem Mild.loadVar (t:TypeId) (a:Addr):Mild (loadVar t a):=by
 unfold Go.loadVar;refine Mild.bind (Mild.isAgg t) (fun b=>?_)
 cases b with
 | true=>exact Mild.bind (Mild.sizeOf t) (fun _=>Mild.bind (Mild.loadCellsFrom _ _ _ _) (fun _=>trivial))
 | false=>exact Mild.load a
theorem Mild.sureAddr (v:Value):Mild (Instr.sureAddr v):=by unfold Instr.sureAddr;split <;> trivial
theorem Mild.loadAt (t:TypeId) (v:Value):Mild (Instr.loadAt t v):=by unfold Instr.loadAt;exact Mild.bind (Mild.sureAddr v) (fun _=>Mild.loadVar t _)
theorem Mild.choose (q:Question):Mild (Go.choose q):=fun _=>trivial
theorem Mild.map {α β:Type} {f:α→β} {s:Sem α} (h:Mild s):Mild (f <$> s):=by
 show Mild (s.bind (fun a=>Sem.pure (f a)));exact Mild.bind_ (f:=fun a=>Sem.pure (f a)) (fun _=>True.intro) s h
theorem Mild.runtimePanic {α:Type} (e:RuntimeError):Mild (Go.runtimePanic (α:=α) e):=by
 unfold Go.runtimePanic;refine Mild.bind (fun _=>trivial) (fun _=>?_);dsimp only
 repeat' (first | exact trivial | exact (fun _=>trivial) | refine Mild.bind ?_ (fun _=>?_) | split)
theorem Mild.boundsPanic {α:Type} (k:IntKind) (x y:Int) (c:BoundsCode):Mild (Go.boundsPanic (α:=α) k x y c):=by
 unfold Go.boundsPanic;dsimp only
 split
 ·exact Mild.bind (Mild.map (Mild.choose _)) (fun _=>Mild.runtimePanic _)
 ·exact Mild.bind (s:=pure _) trivial (fun _=>Mild.runtimePanic _)
theorem Mild.asIntOf (v:Value):Mild (Go.asIntOf v):=by unfold Go.asIntOf;split <;> trivial
theorem Mild.asBool (v:Value):Mild (Go.asBool v):=by unfold Go.asBool;split <;> trivial
theorem Mild.asAddr (v:Value):Mild (Go.asAddr v):=by unfold Go.asAddr;split <;> first | trivial | exact Mild.runtimePanic _
theorem Mild.sliceBound (x:Value) (y:Nat) (c:BoundsCode):Mild (Instr.sliceBound x y c):=by
 unfold Instr.sliceBound;refine Mild.bind (Mild.asIntOf x) (fun _=>?_);dsimp only
 split
 ·exact trivial
 ·exact Mild.boundsPanic _ _ _ _
theorem Mild.sliceBounds (b:Bool) (l c:Nat) (x y z:Option Value):Mild (Instr.sliceBounds b l c x y z):=by
 unfold Instr.sliceBounds
 repeat' (first | exact trivial | exact Mild.sliceBound _ _ _ | refine Mild.bind ?_ (fun _=>?_) | split)
theorem Mild.slice (t:TypeId) (v:Value) (x y z:Option Value):Mild (Instr.slice t v x y z):=by
 unfold Instr.slice
 repeat' (first | exact trivial | exact Mild.underlying _ | exact Mild.sizeOf _ | exact Mild.asAddr _ | exact Mild.sliceBounds _ _ _ _ _ _ | refine Mild.bind ?_ (fun _=>?_) | split)
theorem Mild.sliceAt (t:TypeId) (v:Value) (x y z:Option Value):Mild (Instr.sliceAt t v x y z):=by
 unfold Instr.sliceAt
 repeat' (first | exact trivial | exact Mild.underlying _ | exact Mild.sizeOf _ | exact Mild.sureAddr _ | exact Mild.sliceBounds _ _ _ _ _ _ | exact Mild.slice _ _ _ _ _ | refine Mild.bind ?_ (fun _=>?_) | split)
theorem Mild.len_ (a:Array TypeId) (t:TypeId) (args:Array Value):Mild (Builtin.len_ a t args):=by
 unfold Builtin.len_
 repeat' (first | exact trivial | exact Mild.underlying _ | exact (fun _=>trivial) | refine Mild.bind ?_ (fun _=>?_) | split)
theorem Mild.stringOp (o:BinOp) (x y:ByteArray):Mild (Op.stringOp o x y):=by
 unfold Op.stringOp;dsimp only
 repeat' (first | exact trivial | split)
theorem Mild.min2 (x y:Value):Mild (Builtin.min2 x y):=by
 unfold Builtin.min2
 repeat' (first | exact trivial | exact Mild.choose _ | exact Mild.stringOp _ _ _ | exact Mild.asBool _ | refine Mild.bind ?_ (fun _=>?_) | split)
theorem Mild.foldlM {α β:Type} {f:β→α→Sem β} (h:∀b a,Mild (f b a)):∀(l:List α) (b:β),Mild (l.foldlM f b)
 | [],_=>trivial
 | a::l,b=>by rw [List.foldlM_cons];exact Mild.bind (h b a) (fun c=>Mild.foldlM h l c)
theorem Mild.min_ (a:Array TypeId) (t:TypeId) (args:Array Value):Mild (Builtin.min_ a t args):=by
 unfold Builtin.min_
 split
 ·exact trivial
 ·exact Mild.foldlM (fun _ _=>Mild.min2 _ _) _ _
theorem Mild.indexAt (t:TypeId) (x v:Value):Mild (Instr.indexAt t x v):=by
 unfold Instr.indexAt
 repeat' (first | exact trivial | exact Mild.underlying _ | exact Mild.sizeOf _ | exact Mild.asIntOf _ | exact Mild.sureAddr _ | exact Mild.boundsPanic _ _ _ _ | refine Mild.bind ?_ (fun _=>?_) | split | dsimp only)
theorem Mild.zeroValue (t:TypeId):Mild (Go.zeroValue t):=by unfold Go.zeroValue;exact Mild.bind (Mild.typeInfo t) (fun _=>by split <;> trivial)
theorem Mild.newRow (t:TypeId) (cs:Array Value):Mild (Go.newRow t cs):=Mild.bind (fun _=>trivial) (fun _=>trivial)
theorem Mild.box (t:TypeId) (v:Value):Mild (Instr.box t v):=Mild.bind (Mild.newRow _ _) (fun _=>trivial)
theorem Mild.alloc (t:TypeId):Mild (Instr.alloc t true (.tuple #[])):=Mild.bind (Mild.zeroValue t) (fun _=>Mild.bind (Mild.newRow _ _) (fun _=>trivial))
theorem Mild.buildSlice (t:TypeId) (n:Nat) (ps:Array (Nat×Value)):Mild (Instr.buildSlice t n ps):=by
 unfold Instr.buildSlice
 repeat' (first | exact trivial | exact Mild.underlying _ | exact Mild.sizeOf _ | exact Mild.zeroValue _ | exact Mild.newRow _ _ | refine Mild.bind ?_ (fun _=>?_) | split | dsimp only)
def MildOp (o:Oper):Prop:=∀ev,∃s:Sem Value,Mild s∧execOp ev o=s.bind (fun a=>.pure (.value a))
def mildB:Op→Bool
 | .move _=>true
 | .assign _=>true
 | .load ..=>true
 | .slice ..=>true
 | .indexAddr ..=>true
 | .buildSlice ..=>true
 | .box ..=>true
 | .alloc ..=>true
 | .call { callee:=.builtin .len,.. }=>true
 | .call { callee:=.builtin .min,.. }=>true
 | _=>false
theorem mildB_spec {o:Oper} (h:mildB o.op=true):MildOp o:=by
 obtain ⟨d,op,_,_,_,_⟩:=o;intro ev;dsimp only at h
 cases op with
 | move x=>exact ⟨.pure (ev x),trivial,rfl⟩
 | assign x=>exact ⟨.pure (ev x),trivial,rfl⟩
 | load t a=>exact ⟨_,Mild.loadAt t (ev a),rfl⟩
 | slice t x lo hi mx=>exact ⟨_,Mild.sliceAt _ _ _ _ _,rfl⟩
 | indexAddr t x i=>exact ⟨_,Mild.indexAt _ _ _,rfl⟩
 | buildSlice t n ps=>exact ⟨_,Mild.buildSlice _ _ _,rfl⟩
 | box t x=>exact ⟨_,Mild.box _ _,rfl⟩
 | alloc t=>exact ⟨_,Mild.alloc _,rfl⟩
 | call c =>
  obtain ⟨cl,ar,ty⟩:=c
  cases cl with
  | builtin b=>cases b with
   | len=>exact ⟨_,Mild.len_ _ _ _,rfl⟩
   | min=>exact ⟨_,Mild.min_ _ _ _,rfl⟩
   | _=>cases h
  | _=>cases h
 | _=>cases h
section
variable {P:Program} {ops:Array Oper} {Q:Exit→Act→World→Prop} {md:Region.Mode} {S R:World→Prop}
theorem wpOp_mild (hR:Calmly R) {j:Nat} {oj:Oper} (hj:ops[j]?=some oj) (hm:MildOp oj) {K:Act→World→Prop} {a:Act} {w:World} (hRw:R w) (h:wpOp P ops Q j K a w):wpOp P ops Q j (fun a' w'=>R w'∧K a' w') a w:=by
 unfold wpOp at *;simp only [hj] at *
 split
 ·rename_i hw;simp only [hw,if_true] at h;rcases h with h | h
  ·left
   unfold Oper.wp at *;obtain ⟨s,hs,he⟩:=hm a.eval;have hr:(execOp a.eval oj).run P w=(s.run P w).andThen (fun v w'=>.ok (.value v) w'):=by rw [he];exact Sem.run_bind P w s _
   rw [hr] at h ⊢
   cases e:s.run P w with
   | ok v w'=>rw [e] at h;exact ⟨Mild.run hR s w hs hRw v w' e,h⟩
   | halt x w'=>rw [e] at h;cases x <;> exact h
  ·exact .inr h
 ·rename_i hw;simp only [hw] at h;exact ⟨hRw,h⟩
def keptB (md:Region.Mode) (ops:Array Oper) (listed:Array Bool) (i:Nat) (B:List Nat):Bool :=
 (B.all fun j=>!listed.getD j true&&!(j==i))&&(List.range ops.size).all fun j=>j==i || listed.getD j true || match ops[j]? with
  | some o=>if B.contains j then o.after.any (fun e=>Region.binds md e&&(e.on==i || B.contains e.on)) else mildB o.op
  | none=>true
theorem first_mild (hR:Calmly R) {B:List Nat} {i:Nat} {oi:Oper} {v:Value} (hi:ops[i]?=some oi) (hsel:∀(j:Nat) (o:Oper) cs b,ops[j]?=some o→o.op≠.select cs b)
  (hQ:∀c a w,Q (.panic c) (a.put oi.dst v) w→Q (.panic c) a w) (hB2:∀j∈B,∀oj,ops[j]?=some oj→∃e∈oj.after,Region.binds md e=true∧(e.on=i∨e.on∈B)) :
  ∀(fuel:Nat) (listed:Array Bool) (a:Act) (w:World),
   (∀j oj,ops[j]?=some oj→j≠i→listed.getD j true=false→(∀e∈oj.after,Region.binds md e=true→e.on≠i)→oi.apart ops oj=true) →
   (∀j oj,ops[j]?=some oj→j≠i→listed.getD j true=false→j ∉ B→MildOp oj)→(∀j∈B,listed.getD j true=false) →
   i∈Region.ready md ops listed→YieldsIf P ops R oi v a→R w→S w →
   wpAnyH P md ops Q S fuel (listed.setIfInBounds i true) (a.put oi.dst v) w→wpAnyH P md ops Q S (fuel+1) listed a w:=by
 intro fuel
 induction fuel with
 | zero =>
  intro listed a w _ _ _ hr hy hRw hS H;refine ⟨fun h=>(by rw [h] at hr;cases hr),fun j hj=>?_⟩;by_cases hji:j=i
  ·subst hji;exact hy.wpOp hi hRw ⟨hS,H⟩
  ·have:=ready_mono hj hji;rw [H.1] at this;cases this
 | succ fuel ih =>
  intro listed a w hfree hmild hB1 hr hy hRw hS H;refine ⟨fun h=>(by rw [h] at hr;cases hr),fun j hj=>?_⟩;by_cases hji:j=i
  ·subst hji;exact hy.wpOp hi hRw ⟨hS,H⟩
  ·have h1:=H.2 j (ready_mono hj hji);obtain ⟨hjun,oj,hoj,hall⟩:=mem_ready.1 hj;have hi0:=(mem_ready.1 hr).1
   have hoff:∀k,listed.getD k true=false→listed.getD k false=true→False:=fun k h0 h1=>by
    rcases Nat.lt_or_ge k listed.size with q | q
    ·simp [q] at h0 h1;rw [h0] at h1;cases h1
    ·simp [Array.getElem?_eq_none q] at h1
   have hnot:∀e∈oj.after,Region.binds md e=true→e.on≠i:=fun e he hb heq=>hoff i hi0 (by rw [←heq];exact hall e he hb)
   have hjB:j ∉ B:=fun hB=>by
    obtain ⟨e,he,hb,q | q⟩:=hB2 j hB oj hoj
    ·exact hnot e he hb q
    ·exact hoff _ (hB1 _ q) (hall e he hb)
   have h2:=wpOp_mild hR hoj (hmild j oj hoj hji hjun hjB) hRw (wpOp_putIf hoj (hfree j oj hoj hji hjun hnot) (fun cs b=>hsel i oi cs b hi) (fun cs b=>hsel j oj cs b hoj) hQ hy h1)
   have un:∀k,k≠i→(listed.setIfInBounds j true).getD k true=false→listed.getD k true=false:=fun k _ hun=>by
    by_cases hjk:j=k
    ·subst hjk;exact hjun
    ·rw [getD_set_ne true hjk] at hun;exact hun
   refine wpOp_mono (fun a' w' h3=>⟨h3.2.2.1,ih (listed.setIfInBounds j true) a' w' (fun k ok hk hki hun hno=>hfree k ok hk hki (un k hki hun) hno) (fun k ok hk hki hun hkB=>hmild k ok hk hki (un k hki hun) hkB) (fun k hk=>?_) (ready_mono hr (Ne.symm hji)) h3.2.1 h3.1 h3.2.2.1 ?_⟩) h2
   ·rw [getD_set_ne true (fun e=>hjB (by rw [e];exact hk))];exact hB1 k hk
   ·rw [Array.setIfInBounds_comm _ _ hji];exact h3.2.2.2
theorem wpAnyH_takeM (R:World→Prop) (hR:Calmly R) (B:List Nat) {i:Nat} {oi:Oper} {v:Value} {fuel:Nat} {listed:Array Bool} {a:Act} {w:World} (hi:ops[i]?=some oi)
  (hs:Region.noSelect ops=true) (hf:Region.free md ops listed i=true) (hb:keptB md ops listed i B=true) (hr:(Region.ready md ops listed).contains i=true)
  (hQ:∀c a w,Q (.panic c) (a.put oi.dst v) w→Q (.panic c) a w) (hy:YieldsIf P ops R oi v a) (hRw:R w) (hS:S w)
  (h:wpAnyH P md ops Q S fuel (listed.setIfInBounds i true) (a.put oi.dst v) w):wpAnyH P md ops Q S (fuel+1) listed a w:=by
 simp only [keptB,Bool.and_eq_true,List.all_eq_true,Bool.not_eq_true',List.mem_range,beq_eq_false_iff_ne] at hb;obtain ⟨b0,b2⟩:=hb;have b1:∀j∈B,listed.getD j true=false:=fun j hj=>(b0 j hj).1
 refine first_mild hR hi (Region.noSelect_spec hs) hQ (fun j hj oj hoj=>?_) fuel listed a w (Region.free_spec hi hf) (fun j oj hoj hji hun hjB=>?_) b1 (by simpa using hr) hy hRw hS h
 ·have:=b2 j (Array.getElem?_eq_some_iff.1 hoj).1;rw [hoj,b1 j hj] at this;simp only [Bool.or_false,Bool.or_eq_true,beq_iff_eq,(b0 j hj).2,false_or] at this;rw [if_pos (by simpa using hj)] at this;obtain ⟨e,he,hb⟩:=Array.any_eq_true'.1 this;simp only [Bool.and_eq_true,Bool.or_eq_true,beq_iff_eq] at hb;exact ⟨e,he,hb.1,hb.2.imp id (fun q=>by simpa using q)⟩
 ·have:=b2 j (Array.getElem?_eq_some_iff.1 hoj).1;rw [hoj,hun] at this;simp only [Bool.or_false,Bool.or_eq_true,beq_iff_eq,hji,false_or] at this;rw [if_neg (by simpa using hjB)] at this;exact mildB_spec this
end
theorem calm_cell (p:Addr) (v:Value):Calmly (fun w=>w.cell? p=some v) :=
 ⟨fun w o h=>by rw [World.cell?_alloc_lt _ _ _ (World.block_lt_of_cell? w p h)];exact h,fun _ h=>h⟩
def set5o (w:World) (g o:Nat) (a b c d e:Value):World:=((((w.setCell ⟨g,o,none⟩ a).setCell ⟨g,o+1,none⟩ b).setCell ⟨g,o+2,none⟩ c).setCell ⟨g,o+3,none⟩ d).setCell ⟨g,o+4,none⟩ e
theorem set5o_upd (w:World) (g o:Nat) (a b c d e:Value):Upd (·=g) w (set5o w g o a b c d e) :=
 ((((Upd.refl.setCell (S:=(·=g)) (p:=⟨g,o,none⟩) (.inl rfl) _).setCell (p:=⟨g,o+1,none⟩) (.inl rfl) _).setCell (p:=⟨g,o+2,none⟩) (.inl rfl) _).setCell (p:=⟨g,o+3,none⟩) (.inl rfl) _).setCell (p:=⟨g,o+4,none⟩) (.inl rfl) _
theorem set5o_list (cs:List Value) (z0 z1 z2 z3 z4 a b c d e:Value):(((((cs++[z0,z1,z2,z3,z4]).set cs.length a).set (cs.length+1) b).set (cs.length+2) c).set (cs.length+3) d).set (cs.length+4) e=cs++[a,b,c,d,e]:=by
 induction cs with
 | nil=>rfl
 | cons x cs _=>simp
theorem Own.set5o {w:World} {t:TypeId} {g n c:Nat} {cs:List Value} {z0 z1 z2 z3 z4:Value} (h:Own w t 5 (some ⟨g,0,none⟩) n c (cs++[z0,z1,z2,z3,z4])) {o:Nat} (ho:o=cs.length) (a b c' d e:Value):Own (set5o w g o a b c' d e) t 5 (some ⟨g,0,none⟩) n c (cs++[a,b,c',d,e]):=by
 rcases h.cases with ⟨h0,_⟩ | ⟨g',cur,e1,hb,hn,hm,hs,ht⟩
 ·cases h0
 ·injection e1 with e1;injection e1 with e1;subst e1;subst ho
  refine Own.mk_ (((((hb.set_ cs.length a).set_ (cs.length+1) b).set_ (cs.length+2) c').set_ (cs.length+3) d).set_ (cs.length+4) e) hn hm (by simpa using hs) ?_
  rw [←set5o_list cs z0 z1 z2 z3 z4,←ht];simp only [Array.toList_setIfInBounds,List.take_set]
theorem Own.cell5 {w:World} {t:TypeId} {g n c:Nat} {cs zs:List Value} (h:Own w t 5 (some ⟨g,0,none⟩) n c (cs++zs)) {o i:Nat} (ho:o=cs.length) (hi:i<zs.length):w.cell? ⟨g,o+i,none⟩=some zs[i]:=by
 rcases h.cases with ⟨h0,_⟩ | ⟨g',cur,e1,hb,hn,hm,hs,ht⟩
 ·cases h0
 ·injection e1 with e1;injection e1 with e1;subst e1;subst ho
  rw [hb.cell];have e:(cur.toList.take (n * 5))[cs.length+i]?=some zs[i]:=by rw [ht,List.getElem?_append_right (by omega)];simp
  rw [List.getElem?_take] at e
  split at e
  ·simpa using e
  ·cases e
theorem Own.frozen5 {w:World} {t:TypeId} {g n c z:Nat} {cs:List Value} (h:Own w t z (some ⟨g,0,none⟩) n c cs) (i:Nat):w.frozen? ⟨g,i,none⟩=false:=by
 rcases h.cases with ⟨h0,_⟩ | ⟨g',cur,e1,hb,hn,hm,hs,ht⟩
 ·cases h0
 ·injection e1 with e1;injection e1 with e1;subst e1
  exact hb.frozen i
theorem RdS.own_ne {w:World} {p:Nat} {A A':Option Addr} {c n c':Nat} {L:List Tok} {x:St} {cs:List Value} (h:RdS w p A c L x) (o:Own w 40 5 A' n c' cs):∀k,At A' k→¬x.own p k:=fun k hk q=>by
 rcases q with rfl | q | q
 ·exact o.ne_blk h.blk (by decide) hk
 ·exact o.ne_type h.v (by decide) hk q
 ·exact o.ne_type h.m (by decide) hk q
structure AppS (w0 w:World) (p:Nat) (A:Option Addr) (c:Nat) (L:List Tok) (x y:St) (pc:Array Value):Prop where
 rd:RdS w p A c L y
 box:Blk w w0.heap.size 54 #[.pointer (some ⟨p,0,none⟩)]
 res:Blk w (w0.heap.size+1) 40 (p0 (.mk 0 0 0 0 []))
 pat:Blk w (w0.heap.size+2) 40 pc
 own:∀k,y.own p k→x.own p k∨w0.heap.size+3≤k
 xlt:∀k,x.own p k→k<w0.heap.size
 upd:Upd (x.own p) w0 w
section
variable {w0 w w':World} {p:Nat} {A:Option Addr} {c:Nat} {L:List Tok} {x y y':St} {pc:Array Value}
theorem AppS.le (h:AppS w0 w p A c L x y pc):w0.heap.size+3≤w.heap.size:=h.pat.lt
theorem AppS.non (h:AppS w0 w p A c L x y pc) (u:Upd Non w w'):AppS w0 w' p A c L x y pc :=
 ⟨h.rd.non u,h.box.upd u (fun f=>f),h.res.upd u (fun f=>f),h.pat.upd u (fun f=>f),h.own,h.xlt,h.upd.then_non u⟩
theorem AppS.call (h:AppS w0 w p A c L x y pc) (hr:RdS w' p A c L y') (ho:∀k,y'.own p k→y.own p k∨w.heap.size≤k) (u:Upd (y.own p) w w'):AppS w0 w' p A c L x y' pc:=by
 have hl:=h.le
 have hn:∀k,w0.heap.size≤k→k<w0.heap.size+3→¬y.own p k:=fun k h1 h2 q=>by
  rcases h.own k q with r | r
  ·have:=h.xlt k r;omega
  ·omega
 refine ⟨hr,h.box.upd u (hn _ (by omega) (by omega)),h.res.upd u (hn _ (by omega) (by omega)),h.pat.upd u (hn _ (by omega) (by omega)),fun k q=>?_,h.xlt,h.upd.trans u (fun k hk q=>?_)⟩
 ·rcases ho k q with r | r
  ·exact h.own k r
  ·exact .inr (by omega)
 ·rcases h.own k q with r | r
  ·exact r
  ·omega
theorem AppS.far {S:Nat→Prop} (h:AppS w0 w p A c L x y pc) (u:Upd S w w') (hS:∀k,S k→w0.heap.size+3≤k) (hy:∀k,S k→¬y.own p k) (hp:p<w0.heap.size):AppS w0 w' p A c L x y pc :=
 ⟨h.rd.upd u (fun k _ q=>⟨by have:=hS k q;omega,fun r=>hy k q (.inr (.inl r)),fun r=>hy k q (.inr (.inr r))⟩),h.box.upd u (fun q=>by have:=hS _ q;omega),h.res.upd u (fun q=>by have:=hS _ q;omega),h.pat.upd u (fun q=>by have:=hS _ q;omega),h.own,h.xlt,h.upd.trans u (fun k hk q=>by have:=hS k q;omega)⟩
theorem AppS.setPat {pc':Array Value} (h:AppS w0 w p A c L x y pc) (u:Upd (·=w0.heap.size+2) w w') (hb:Blk w' (w0.heap.size+2) 40 pc'):AppS w0 w' p A c L x y pc':=by
 have hn:¬y.own p (w0.heap.size+2):=fun q=>by
  rcases h.own _ q with r | r
  ·have:=h.xlt _ r;omega
  ·omega
 refine ⟨h.rd.upd u (fun k _ e=>?_),h.box.upd u (by omega),h.res.upd u (by omega),hb,h.own,h.xlt,h.upd.trans u (fun k hk e=>by omega)⟩;subst e;have:=h.xlt p (.inl rfl);exact ⟨by omega,fun r=>hn (.inr (.inl r)),fun r=>hn (.inr (.inr r))⟩
end
def zs5:List Value:=[.int .i64 0,.int .i64 0,.int .i64 0,.int .i64 0,.slice none 0 0]
def KO (n0 p:Nat) (w:World) (y:St) (A:Option Addr) (n c:Nat) (ks:List Pt):Prop:=PtO w (fun k=>n0≤k∧¬y.own p k) A n c ks∧∀k,At A k→n0≤k
def KO2 (n0 p:Nat) (w:World) (y:St) (A:Option Addr) (j c:Nat) (ks:List Pt):Prop :=
 j=ks.length∧(∃cs,Own w 40 5 A (j+1) c (cs++zs5)∧PtCells w (fun k=>(n0≤k∧¬y.own p k)∧¬At A k) cs ks)∧∀k,At A k→n0≤k
section
variable {n0 p:Nat} {w w':World} {A0:Option Addr} {c0:Nat} {L:List Tok} {y y':St} {A:Option Addr} {n j c:Nat} {ks:List Pt} {S:Nat→Prop}
theorem KO.nil:KO n0 p w y none 0 0 []:=⟨PtO.none_,fun _ h=>(At.none_ h).elim⟩
theorem KO.step (h:KO n0 p w y A n c ks) (hr:RdS w p A0 c0 L y) (u:Upd (y.own p) w w') (ho:∀k,y'.own p k→y.own p k∨w.heap.size≤k):KO n0 p w' y' A n c ks:=by
 obtain ⟨h1,h2⟩:=h;obtain ⟨_,cs,hown,_⟩:=id h1;have hne:=hr.own_ne hown;refine ⟨?_,h2⟩;have g1:PtO w (fun k=>(n0≤k∧¬y.own p k)∧k<w.heap.size) A n c ks:=h1.mono (fun k hk q=>⟨q,hk⟩);exact (g1.upd u hne (fun k _ q=>q.1.2)).mono (fun k _ q=>⟨q.1.1,fun r=>by rcases ho k r with r | r;exact q.1.2 r;exact Nat.lt_irrefl _ (Nat.lt_of_lt_of_le q.2 r)⟩)
theorem KO.non (h:KO n0 p w y A n c ks) (u:Upd Non w w'):KO n0 p w' y A n c ks:=⟨h.1.upd u (fun _ _ f=>f) (fun _ _ _ f=>f),h.2⟩
theorem KO2.of {cs:List Value} (hn:n=ks.length) (hc:PtCells w (fun k=>(n0≤k∧¬y.own p k)∧¬At A k) cs ks) (hA:∀k,At A k→n0≤k) (hw:n0≤w.heap.size) {A':Option Addr} {c':Nat} (ho:Own w' 40 5 A' (n+1) c' (cs++zs5)) (u:Upd (At A) w w') (hat:∀k,At A' k→At A k∨k=w.heap.size):KO2 n0 p w' y A' n c' ks:=by
 refine ⟨hn,⟨cs,ho,hc.mono u (fun k _ q=>q.2) (fun k hk q=>⟨q.1,fun r=>?_⟩)⟩,fun k hk=>?_⟩
 ·rcases hat k r with r | r
  ·exact q.2 r
  ·omega
 ·rcases hat k hk with r | r
  ·exact hA k r
  ·omega
theorem KO2.fin (h:KO2 n0 p w y A j c ks) {q:Pt} {KA:Option Addr} {kc:Nat} (hq:PtK w (fun k=>(n0≤k∧¬y.own p k)∧¬At A k) q KA kc) {g:Nat} (hg:A=some ⟨g,0,none⟩) {o:Nat} (ho:o=j * 5) :
  KO n0 p (set5o w g o (.int .i64 q.v) (.int .i64 q.op) (.int .i64 q.imm) (.int .i64 q.iv) (.slice KA q.kids.length kc)) y A (j+1) c (ks++[q]):=by
 obtain ⟨h1,⟨cs,h2,h3⟩,h4⟩:=h;subst hg;refine ⟨⟨by simp [h1],cs++pcells q KA kc,h2.set5o (by rw [ho,h1,h3.1];omega) _ _ _ _ _,?_⟩,h4⟩;exact (h3.snoc hq).mono (set5o_upd _ _ _ _ _ _ _ _) (fun k _ r e=>r.2 (At.some_.2 e)) (fun k _ r=>r)
theorem KO2.some_ (h:KO2 n0 p w y A j c ks):∃g,A=some ⟨g,0,none⟩∧(∀o,o=j * 5→∀i (hi:i<5),w.cell? ⟨g,o+i,none⟩=some (zs5[i]'hi))∧(∀i,w.frozen? ⟨g,i,none⟩=false):=by
 obtain ⟨h1,⟨cs,h2,h3⟩,h4⟩:=h;obtain ⟨g,rfl⟩:=h2.some_ (by omega);exact ⟨g,rfl,fun o ho i hi=>h2.cell5 (by rw [ho,h1,h3.1];omega) hi,fun i=>h2.frozen5 i⟩
end
theorem kidsF_snoc (g:PS→Except Er (Pt×PS)):∀(n:Nat) (x:PS),kidsF g (n+1) x=match kidsF g n x with
  | .error e=>.error e
  | .ok (l,y)=>match g y with | .error e=>.error e | .ok (q,z)=>.ok (l++[q],z)
 | 0,x=>by
  simp only [kidsF]
  cases g x with
  | error e=>rfl
  | ok v=>rfl
 | n+1,x=>by
  rw [kidsF,kidsF]
  cases hg:g x with
  | error e=>rfl
  | ok v =>
   obtain ⟨q,y⟩:=v;dsimp only;rw [kidsF_snoc g n y]
   cases kidsF g n y with
   | error e=>rfl
   | ok v =>
    obtain ⟨l,z⟩:=v;dsimp only
    cases g z with
    | error e=>rfl
    | ok v=>rfl
theorem kidsF_err {g:PS→Except Er (Pt×PS)} {n:Nat} {x:PS} {e:Er} (h:kidsF g n x=.error e):∀{m:Nat},n≤m→kidsF g m x=.error e:=by
 intro m hm
 induction hm with
 | refl=>exact h
 | step _ ih=>rw [kidsF_snoc,ih]
theorem kidsF_len {g:PS→Except Er (Pt×PS)}:∀{n:Nat} {x y:PS} {l:List Pt},kidsF g n x=.ok (l,y)→l.length=n
 | 0,x,y,l,h=>by simp only [kidsF] at h;injection h with h;injection h with h _;subst h;rfl
 | n+1,x,y,l,h=>by
  rw [kidsF] at h
  split at h
  ·cases h
  ·rename_i q z hg
   split at h
   ·cases h
   ·rename_i l2 z2 hk;injection h with h;injection h with h _;subst h
    simp [kidsF_len hk]
theorem wrdF_err {α:Type} {T:List (Bs×Nat)} {fin:Nat} {f:Bs→PS→Option (α×PS)} {x:PS} {e:Er} (h:wrdF T fin f x=.error e):e.1≠0:=by
 rw [wrd_eq] at h
 split at h
 ·split at h
  ·cases h
  ·injection h with h;subst h;show (2:Int)≠0;decide
 ·injection h with h;subst h;show (2:Int)≠0;decide
theorem kidsF_e0 {g:PS→Except Er (Pt×PS)} (hg:∀x e,g x=.error e→e.1≠0):∀{n:Nat} {x:PS} {e:Er},kidsF g n x=.error e→e.1≠0
 | 0,x,e,h=>by simp only [kidsF] at h;cases h
 | n+1,x,e,h=>by
  rw [kidsF] at h
  split at h
  ·rename_i e' he;injection h with h;subst h;exact hg _ _ he
  ·split at h
   ·rename_i e' he;injection h with h;subst h;exact kidsF_e0 hg he
   ·cases h
theorem appF_err {T:List (Bs×Nat)} {fin:Nat} {left:Bool} {f:Nat} (hg:∀x e,termF T fin left f x=.error e→e.1≠0) {x:PS} {e:Er} (h:appF T fin left f x=.error e):e.1≠0:=by
 unfold appF at h
 split at h
 ·rename_i e' he;injection h with h;subst h;exact wrdF_err he
 ·split at h
  ·rename_i e' he;injection h with h;subst h;exact kidsF_e0 hg he
  ·split at h
   ·rename_i e' he;injection h with h;subst h
    unfold expF at he
    split at he
    ·cases he
    ·injection he with he;subst he;show (2:Int)≠0;decide
   ·cases h
theorem termF_err {T:List (Bs×Nat)} {fin:Nat} {left:Bool}:∀(f:Nat) (x:PS) (e:Er),termF T fin left f x=.error e→e.1≠0
 | 0,x,e,h=>by unfold termF at h;injection h with h;subst h;show (2:Int)≠0;decide
 | f+1,x,e,h=>by
  rw [termF_succ] at h
  split at h
  ·exact appF_err (termF_err f) h
  ·exact wrdF_err h
theorem operF_v {left:Bool} {s:Bs} {x y:PS} {q:Pt} (h:operF left s x=some (q,y)):q.v=0:=by
 unfold operF at h;dsimp only at h
 split at h
 ·cases h
 ·split at h
  ·cases h
  ·split at h
   ·injection h with h;injection h with h _;subst h;rfl
   ·split at h
    ·injection h with h;injection h with h _;subst h;rfl
    ·split at h
     ·split at h
      ·injection h with h;injection h with h _;subst h;rfl
      ·cases h
     ·cases h
theorem wrdF_v {T:List (Bs×Nat)} {fin:Nat} {left:Bool} {x y:PS} {q:Pt} (h:wrdF T fin (operF left) x=.ok (q,y)):q.v=0:=by
 rw [wrd_eq] at h
 split at h
 ·split at h
  ·rename_i h2;injection h with h;injection h with h _;subst h;exact operF_v h2
  ·cases h
 ·cases h
theorem arF_le (op:Int):(arF op).getD 0≤3:=by
 unfold arF
 split
 ·decide
 ·split
  ·decide
  ·split <;> decide
theorem sizeL_snoc (q:Pt):∀ks:List Pt,Pt.sizeL (ks++[q])=Pt.sizeL ks+q.size
 | []=>by simp [Pt.sizeL]
 | k::ks=>by simp only [List.cons_append,Pt.sizeL,sizeL_snoc q ks];omega
theorem kids_step {g:PS→Except Er (Pt×PS)} {y0 y y':St} {j:Nat} {ks:List Pt} {q:Pt} (hs:ResS y0 y (kidsF g j (psOf y0)) (fun v=>v=ks)) (h0:y.why=0) (hg:∀x e,g x=.error e→e.1≠0)
  (hr:ResS y y' (g (psOf y)) (fun v=>v=q∧q.size+y.i≤y'.i)) (hz:y.why=0→Pt.sizeL ks+y0.i≤y.i) :
  ResS y0 y' (kidsF g (j+1) (psOf y0)) (fun v=>v=ks++[q])∧(y'.why=0→Pt.sizeL (ks++[q])+y0.i≤y'.i):=by
 have h00:y0.why=0:=by
  by_cases h:y0.why=0
  ·exact h
  ·exact absurd ((hs.2 h).1 ▸ h0) h
 have h1:=hs.1 h00;have h2:=hr.1 h0;have hz:=hz h0
 cases hk:kidsF g j (psOf y0) with
 | error e=>rw [hk] at h1;exact absurd (h1.1 ▸ h0) (kidsF_e0 hg hk)
 | ok v =>
  obtain ⟨l,ps⟩:=v;rw [hk] at h1;obtain ⟨_,rfl,rfl⟩:=h1;refine ⟨⟨fun _=>?_,fun h=>absurd h00 h⟩,fun hy=>?_⟩
  ·rw [kidsF_snoc,hk];dsimp only
   cases ht:g (psOf y) with
   | error e=>rw [ht] at h2;exact h2
   | ok v =>
    obtain ⟨q2,z⟩:=v;rw [ht] at h2;exact ⟨h2.1,h2.2.1,by rw [h2.2.2.1]⟩
  ·cases ht:g (psOf y) with
   | error e=>rw [ht] at h2;exact absurd (h2.1 ▸ hy) (hg _ _ ht)
   | ok v =>
    rw [ht] at h2;have h3:q.size+y.i≤y'.i:=h2.2.2.2;rw [sizeL_snoc];omega
theorem kids_exit {g:PS→Except Er (Pt×PS)} {y0 y:St} {j n:Nat} {ks:List Pt} (hs:ResS y0 y (kidsF g j (psOf y0)) (fun v=>v=ks)) (hj:j≤n) (hd:(decide (j<n)&&(y.why==0))=false):ResS y0 y (kidsF g n (psOf y0)) (fun v=>v=ks):=by
 by_cases hlt:j<n
 ·have h0:y.why≠0:=fun h=>by rw [h,dT_ hlt] at hd;cases hd
  refine ⟨fun h00=>?_,hs.2⟩;have h1:=hs.1 h00
  cases hk:kidsF g j (psOf y0) with
  | error e=>rw [hk] at h1;rw [kidsF_err hk hj];exact h1
  | ok v=>rw [hk] at h1;exact absurd h1.1 h0
 ·obtain rfl:j=n:=by omega
  exact hs
section
variable {L:List Tok} {T:List (Bs×Nat)} {fin:Nat} {y:St} {s:Bs}
theorem exp_own (p k:Nat):(y.exp L s).own p k↔y.own p k:=by
 unfold St.exp;cases y.why==0&&isT L y.i s
 ·exact fail_own _ _ _ _ _
 ·exact Iff.rfl
theorem exp_left:(y.exp L s).left=y.left:=by
 unfold St.exp;cases y.why==0&&isT L y.i s
 ·exact fail_left _ _ _
 ·rfl
theorem exp_i:y.i≤(y.exp L s).i:=by
 unfold St.exp;cases y.why==0&&isT L y.i s
 ·exact Nat.le_of_eq (fail_i _ _ _).symm
 ·exact Nat.le_succ _
theorem exp_good (hL:LOk L T fin) (hy:Good T y):Good T (y.exp L s):=by
 unfold St.exp
 cases hb:y.why==0&&isT L y.i s with
 | false=>exact Good.fail hy.1 (by decide)
 | true =>
  simp only [Bool.and_eq_true,beq_iff_eq] at hb;rw [hL.tk hy.1,decide_eq_true_eq] at hb
  have hi:y.i<T.length:=by
   rcases Nat.lt_or_ge y.i T.length with q | q
   ·exact q
   ·have:=hb.2;unfold tkF at this;rw [List.getElem?_eq_none q] at this;cases this
  exact ⟨hi,fun _=>by have:=hy.2 hb.1;exact ⟨Nat.le_succ_of_le this.1,Nat.le_succ_of_le this.2⟩⟩
theorem exp_res (hL:LOk L T fin) (hy:Good T y) (h0:y.why=0):match expF T fin s (psOf y) with | .ok u=>(y.exp L s).why=0∧psOf (y.exp L s)=u | .error e=>(y.exp L s).why=e.1∧(y.exp L s).ea=e.2:=by
 unfold St.exp expF;rw [hL.tk hy.1,h0,show (psOf y).i=y.i from rfl];by_cases ht:tkF T y.i=some s
 ·rw [if_pos ht,dT_ ht];exact ⟨rfl,rfl⟩
 ·rw [if_neg ht,dF_ ht];dsimp only [Bool.and_false,cond_false,BEq.rfl];rw [fail_zero h0,hL.pos hy.1];exact ⟨rfl,rfl⟩
theorem exp_err (h0:y.why≠0):y.exp L s=y:=by
 unfold St.exp;rw [show (y.why==0)=false by simpa using h0];exact fail_why h0
theorem app_fin (hL:LOk L T fin) {left:Bool} {f n:Nat} {x y0:St} {q:Pt} {ks:List Pt} (hx:x.why=0) (hy:Good T y)
  (hr:ResS x y0 (wrdF T fin (operF left) (psOf x)) (fun v=>v=q∧x.i+1≤y0.i)) (hn:n=(arF q.op).getD 0)
  (hs:ResS y0 y (kidsF (termF T fin left f) n (psOf y0)) (fun v=>v=ks)) (hz:y.why=0→Pt.sizeL ks+y0.i≤y.i) :
  ResS x (y.exp L [41]) (appF T fin left f (psOf x)) (fun v=>v=.mk q.v q.op q.imm q.iv ks∧(Pt.mk q.v q.op q.imm q.iv ks).size+x.i≤(y.exp L [41]).i):=by
 refine ⟨fun _=>?_,fun h=>absurd hx h⟩;have h1:=hr.1 hx;unfold appF
 cases hw:wrdF T fin (operF left) (psOf x) with
 | error e =>
  rw [hw] at h1;have hne:y0.why≠0:=by rw [h1.1];exact wrdF_err hw
  have h2:=hs.2 hne;rw [exp_err (by rw [h2.1];exact hne)];exact ⟨h2.1.trans h1.1,h2.2.trans h1.2⟩
 | ok v =>
  obtain ⟨q',ps⟩:=v;rw [hw] at h1;obtain ⟨h00,rfl,h1q,h1i⟩:=h1;subst h1q;have h2:=hs.1 h00;dsimp only;rw [←hn]
  cases hk:kidsF (termF T fin left f) n (psOf y0) with
  | error e =>
   rw [hk] at h2;have hne:y.why≠0:=by rw [h2.1];exact kidsF_e0 (termF_err f) hk
   rw [exp_err hne];exact h2
  | ok v =>
   obtain ⟨l,ps⟩:=v;rw [hk] at h2;obtain ⟨hy0,rfl,h2l⟩:=h2;subst h2l;dsimp only;have h3:=exp_res (s:=[41]) hL hy hy0
   cases he:expF T fin [41] (psOf y) with
   | error e=>rw [he] at h3;exact h3
   | ok u =>
    rw [he] at h3;refine ⟨h3.1,h3.2,by rw [wrdF_v hw],?_⟩;have h4:=hz hy0;have h5:y.i≤(y.exp L [41]).i:=exp_i;rw [Pt.size_eq];show 1+Pt.sizeL l+x.i≤_;omega
end
section
variable {w w':World} {n0 n1 p:Nat} {y:St} {A A':Option Addr} {q:Pt} {KA:Option Addr} {kc:Nat}
theorem PtK.past (hq:PtK w (fun k=>n1≤k∧¬y.own p k) q KA kc) (hA:∀k,At A k→k<n1) (hn:n0≤n1) (u:Upd (At A) w w') (hat:∀k,At A' k→At A k∨k=w.heap.size):PtK w' (fun k=>(n0≤k∧¬y.own p k)∧¬At A' k) q KA kc:=by
 have h1:PtK w (fun k=>(n1≤k∧¬y.own p k)∧k<w.heap.size) q KA kc:=PtK.mono (fun k hk h=>⟨h,hk⟩) _ _ _ hq;refine PtK.mono (fun k _ h=>⟨⟨Nat.le_trans hn h.1.1,h.1.2⟩,fun r=>?_⟩) _ _ _ (PtK.upd u (fun k _ h r=>Nat.lt_irrefl _ (Nat.lt_of_lt_of_le (hA k r) h.1.1)) _ _ _ h1)
 rcases hat k r with r | r
 ·exact Nat.lt_irrefl _ (Nat.lt_of_lt_of_le (hA k r) h.1.1)
 ·have:=h.2;omega
end
theorem set5o_eq (w:World) (g o:Nat) (a b c d e:Value):((((w.setCell ⟨g,o,none⟩ a).setCell ⟨g,o+1,none⟩ b).setCell ⟨g,o+2,none⟩ c).setCell ⟨g,o+3,none⟩ d).setCell ⟨g,o+4,none⟩ e=set5o w g o a b c d e:=rfl
section
variable {n0 p m:Nat} {w w':World} {y:St} {A:Option Addr} {n j c:Nat} {ks:List Pt}
theorem KO.near (h:KO n0 p w y A n c ks) (u:Upd (·=m) w w') (hm:m<n0):KO n0 p w' y A n c ks :=
 ⟨h.1.upd u (fun k q e=>by have:=h.2 k q;omega) (fun k _ q e=>by have:=q.1;omega),h.2⟩
theorem KO2.near (h:KO2 n0 p w y A j c ks) (u:Upd (·=m) w w') (hm:m<n0):KO2 n0 p w' y A j c ks:=by
 obtain ⟨h1,⟨cs,h2,h3⟩,h4⟩:=h;exact ⟨h1,⟨cs,h2.upd u (fun k q e=>by have:=h4 k q;omega),h3.mono u (fun k _ q e=>by have:=q.1.1;omega) (fun _ _ q=>q)⟩,h4⟩
end
theorem AppS.kids {w0 w:World} {p:Nat} {A:Option Addr} {c:Nat} {L:List Tok} {x y:St} {a b c' d e:Value} (h:AppS w0 w p A c L x y #[a,b,c',d,e]) (v:Value):∃w9,w.setCell ⟨w0.heap.size+2,4,none⟩ v=w9∧Upd (·=w0.heap.size+2) w w9∧AppS w0 w9 p A c L x y #[a,b,c',d,v] :=
 ⟨_,rfl,updCell _ _ _ _,h.setPat (updCell _ _ _ _) (by simpa using h.pat.set_ 4 v)⟩
end Go.Proofs.YtblkgjdhaibhgaaGreat
namespace Go.Proofs.YtblkgjdhaibhgaaGreat
open Go.RowKit
theorem goodT_get:∀(L:List Tok) (i:Nat) (h:i<(goodT L).length),L[i]?=some ⟨(goodT L)[i].1,(goodT L)[i].2,false⟩
 | [],i,h=>by simp [goodT] at h
 | t::L,i,h=>by
  obtain ⟨s,q,b⟩:=t
  cases b with
  | true=>simp [goodT] at h
  | false =>
   cases i with
   | zero=>rfl
   | succ i=>exact goodT_get L i (by simpa [goodT] using h)
theorem goodT_bad:∀(L:List Tok),(∃t∈L,t.bad=true)→(goodT L).length<L.length∧∃s,L[(goodT L).length]?=some ⟨s,finT L,true⟩
 | [],h=>by obtain ⟨_,h,_⟩:=h;cases h
 | t::L,h=>by
  obtain ⟨s,q,b⟩:=t
  cases b with
  | true=>exact ⟨Nat.succ_pos _,s,rfl⟩
  | false =>
   have h2:∃t∈L,t.bad=true:=by
    obtain ⟨u,hu,hb⟩:=h;rcases List.mem_cons.1 hu with rfl | hu
    ·cases hb
    ·exact ⟨u,hu,hb⟩
   obtain ⟨h3,z,h4⟩:=goodT_bad L h2;exact ⟨Nat.succ_lt_succ h3,z,h4⟩
theorem goodT_mem:∀{L:List Tok} {x:Bs×Nat},x∈goodT L→(⟨x.1,x.2,false⟩:Tok)∈L
 | [],x,h=>by simp [goodT] at h
 | t::L,x,h=>by
  obtain ⟨s,q,b⟩:=t
  cases b with
  | true=>simp [goodT] at h
  | false =>
   rcases List.mem_cons.1 (show x∈(s,q)::goodT L from h) with rfl | h
   ·exact List.mem_cons_self
   ·exact List.mem_cons_of_mem _ (goodT_mem h)
theorem tokL_end:∀(f:Nat) (s:Bs) (o:Nat),∃t∈tokL f s o,t.bad=true
 | 0,s,o=>⟨_,List.mem_singleton.2 rfl,rfl⟩
 | f+1,[],o=>⟨_,List.mem_singleton.2 rfl,rfl⟩
 | f+1,c::r,o=>by
  unfold tokL
  split
  ·exact tokL_end f _ _
  ·split
   ·exact tokL_end f _ _
   ·split
    ·obtain ⟨t,h1,h2⟩:=tokL_end f r (o+1);exact ⟨t,List.mem_cons_of_mem _ h1,h2⟩
    ·obtain ⟨t,h1,h2⟩:=tokL_end f ((c::r).drop (wlen (c::r))) (o+wlen (c::r));exact ⟨t,List.mem_cons_of_mem _ h1,h2⟩
theorem tokL_s:∀(f:Nat) (s:Bs) (o:Nat),∀t∈tokL f s o,t.bad=false→t.s≠[]∧t.s.length≤s.length
 | 0,s,o,t,h,hb=>by rw [tokL,List.mem_singleton] at h;subst h;cases hb
 | f+1,[],o,t,h,hb=>by rw [tokL,List.mem_singleton] at h;subst h;cases hb
 | f+1,c::r,o,t,h,hb=>by
  unfold tokL at h
  split at h
  ·have:=tokL_s f _ _ t h hb;exact ⟨this.1,Nat.le_succ_of_le this.2⟩
  ·rename_i h1
   split at h
   ·have:=tokL_s f _ _ t h hb;rw [List.length_drop] at this;exact ⟨this.1,by omega⟩
   ·rename_i h2
    split at h
    ·rcases List.mem_cons.1 h with rfl | h
     ·exact ⟨by simp,by simp⟩
     ·have:=tokL_s f _ _ t h hb;exact ⟨this.1,Nat.le_succ_of_le this.2⟩
    ·rename_i h3;rcases List.mem_cons.1 h with rfl | h
     ·have hw:1≤wlen (c::r):=by
       unfold wlen;rw [if_pos]
       ·omega
       ·simp only [Bool.or_eq_true,decide_eq_true_eq,not_or] at h3;simp only [wordCh,Bool.and_eq_true,decide_eq_true_eq,Bool.not_eq_true'];have h31:isPn c=false:=by simpa using h3.1.1
        have h22:isCm (c::r)=false:=by simpa using h2
        exact ⟨⟨by omega,h31⟩,h22⟩
      refine ⟨fun q=>?_,?_⟩
      ·have q2:=congrArg List.length q;rw [List.length_take] at q2;simp only [List.length_nil,List.length_cons] at q2;omega
      ·show ((c::r).take _).length≤_;rw [List.length_take];omega
     ·have:=tokL_s f _ _ t h hb;rw [List.length_drop] at this;exact ⟨this.1,by omega⟩
theorem lok_toks {s:Bs} (hs:s.length≤20000) (hl:(toksF s).length≤s.length+1):LOk (toksF s) (goodT (toksF s)) (finT (toksF s)):=by
 obtain ⟨h1,h2⟩:=goodT_bad (toksF s) (tokL_end _ _ _);exact ⟨h1,fun i h=>goodT_get _ i h,h2,fun t ht=>(tokL_s _ _ _ _ (goodT_mem ht) rfl).1,fun t ht=>by have:=(tokL_s _ _ _ _ (goodT_mem ht) rfl).2;show t.1.length≤20000;have h3:t.1.length≤s.length:=this;omega,by omega⟩
section
variable {T:List (Bs×Nat)} {fin:Nat}
theorem wrdF_i {α:Type} {g:Bs→PS→Option (α×PS)} {x y:PS} {a:α} (h:wrdF T fin g x=.ok (a,y)):y.i=x.i+1:=by
 rw [wrd_eq] at h
 split at h
 ·split at h
  ·injection h with h;injection h with _ h;subst h;rfl
  ·cases h
 ·cases h
theorem expF_i {s:Bs} {x y:PS} (h:expF T fin s x=.ok y):y.i=x.i+1:=by
 unfold expF at h
 split at h
 ·injection h with h;subst h;rfl
 ·cases h
theorem kidsF_i {g:PS→Except Er (Pt×PS)} (hg:∀x y q,g x=.ok (q,y)→x.i≤y.i):∀{n:Nat} {x y:PS} {l:List Pt},kidsF g n x=.ok (l,y)→x.i≤y.i
 | 0,x,y,l,h=>by simp only [kidsF] at h;injection h with h;injection h with _ h;subst h;exact Nat.le_refl _
 | n+1,x,y,l,h=>by
  rw [kidsF] at h
  split at h
  ·cases h
  ·rename_i q z hq
   split at h
   ·cases h
   ·rename_i l2 z2 hk;injection h with h;injection h with _ h;subst h
    exact Nat.le_trans (hg _ _ _ hq) (kidsF_i hg hk)
theorem termF_i {left:Bool}:∀(f:Nat) (x y:PS) (q:Pt),termF T fin left f x=.ok (q,y)→x.i≤y.i
 | 0,x,y,q,h=>by unfold termF at h;cases h
 | f+1,x,y,q,h=>by
  rw [termF_succ] at h
  split at h
  ·unfold appF at h
   split at h
   ·cases h
   ·rename_i q1 y1 h1
    split at h
    ·cases h
    ·rename_i l z h2
     split at h
     ·cases h
     ·rename_i u h3;injection h with h;injection h with _ h;subst h
      have e1:=wrdF_i h1;have e2:=kidsF_i (termF_i f) h2;have e3:=expF_i h3;have e1:y1.i=x.i+1+1:=e1;omega
  ·have:=wrdF_i h;omega
theorem pcondF_i {x y:PS} {c:Cd} (h:pcondF T fin x=.ok (c,y)):x.i≤y.i:=by
 unfold pcondF at h
 split at h
 ·cases h
 ·rename_i k y1 h1;have e1:=wrdF_i h1
  split at h
  ·cases h
  ·rename_i a z h2
   have e2:z.i=y1.i+1:=by
    split at h2
    ·exact wrdF_i h2
    ·exact wrdF_i h2
   split at h
   ·injection h with h;injection h with _ h;subst h;omega
   ·split at h
    ·split at h
     ·cases h
     ·rename_i n u h3;have e3:=wrdF_i h3;injection h with h;injection h with _ h;subst h;omega
    ·split at h
     ·split at h
      ·cases h
      ·rename_i n u h3;have e3:=wrdF_i h3;injection h with h;injection h with _ h;subst h;omega
     ·split at h
      ·cases h
      ·rename_i n u h3;have e3:=wrdF_i h3;injection h with h;injection h with _ h;subst h;omega
theorem condsF_i:∀(f:Nat) (x y:PS) (l:List Cd),condsF T fin f x=.ok (l,y)→x.i≤y.i
 | 0,x,y,l,h=>by unfold condsF at h;injection h with h;injection h with _ h;subst h;exact Nat.le_refl _
 | f+1,x,y,l,h=>by
  unfold condsF at h
  split at h
  ·split at h
   ·cases h
   ·rename_i c y1 h1;have e1:x.i+1≤y1.i:=pcondF_i h1
    split at h
    ·cases h
    ·rename_i l2 z h2;have e2:=condsF_i f _ _ _ h2;injection h with h;injection h with _ h;subst h;omega
  ·injection h with h;injection h with _ h;subst h;exact Nat.le_refl _
theorem ifF_i {f:Nat} {x y:PS} {l:List Cd} (h:ifF T fin f x=.ok (l,y)):x.i≤y.i:=by
 unfold ifF at h
 split at h
 ·split at h
  ·cases h
  ·rename_i c y1 h1;have e1:x.i+1≤y1.i:=pcondF_i h1
   split at h
   ·cases h
   ·rename_i l2 z h2;have e2:=condsF_i f _ _ _ h2;injection h with h;injection h with _ h;subst h;omega
 ·injection h with h;injection h with _ h;subst h;exact Nat.le_refl _
theorem ruleF_i {x y:PS} {r:Rl} (h:ruleF T fin x=.ok (r,y)):x.i+1≤y.i:=by
 unfold ruleF at h
 split at h
 ·cases h
 ·rename_i s x1 h1;have e1:x1.i=x.i+1:=wrdF_i (x:={ x with vs:=[],ms:=[] }) h1
  split at h
  ·cases h
  ·rename_i x2 h2;have e2:=expF_i h2
   split at h
   ·cases h
   ·rename_i l x3 h3;have e3:=termF_i _ _ _ _ h3
    split at h
    ·cases h
    ·rename_i x4 h4;have e4:=expF_i h4
     split at h
     ·cases h
     ·rename_i r5 x5 h5;have e5:=termF_i _ _ _ _ h5
      split at h
      ·cases h
      ·rename_i cs x6 h6;have e6:=ifF_i h6
       split at h
       ·cases h
       ·rename_i x7 h7;have e7:=expF_i h7;injection h with h;injection h with _ h;subst h;omega
theorem itemF_i {ax:Bs→Option Rl} {x y:PS} {v:Option Rl×Nat} (h:itemF T fin ax x=.ok (v,y)):x.i+1≤y.i:=by
 unfold itemF at h
 split at h
 ·split at h
  ·cases h
  ·rename_i s y1 h1;have e1:y1.i=x.i+1+1:=wrdF_i (x:={ x with i:=x.i+1 }) h1
   split at h
   ·cases h
   ·rename_i z h2;have e2:=expF_i h2;injection h with h;injection h with _ h;subst h;omega
 ·split at h
  ·cases h
  ·rename_i y1 h1;have e1:=expF_i h1
   split at h
   ·cases h
   ·rename_i r z h2;have e2:=ruleF_i h2;injection h with h;injection h with _ h;subst h;omega
theorem expF_err {s:Bs} {x:PS} {e:Er} (h:expF T fin s x=.error e):e.1≠0:=by
 unfold expF at h
 split at h
 ·cases h
 ·injection h with h;subst h;show (2:Int)≠0;decide
end
theorem kstr_app (a b:Bs):kstr a++kstr b=kstr (a++b):=by
 apply kx_inj;rw [kx_kstr];simp [kx,kstr]
def decG:Nat→Nat→Bs
 | 0,_=>[]
 | f+1,n=>if n<10 then [UInt8.ofNat (48+n)] else decG f (n / 10)++[UInt8.ofNat (48+n % 10)]
def decD (n:Nat):Bs:=decG 20 n
def textF (n:Int):Bs:=if n<0 then 45::decD n.natAbs else decD n.natAbs
def vnF (n:Int):Bs:=[63,UInt8.ofNat (96+n.toNat)]
def inF (n:Int):Bs:=[UInt8.ofNat (106+n.toNat)]
def opNm (op:Int):Bs:=nameL.getD (op - 4).toNat []
mutual
def fmtF:Pt→Bs
 | .mk v op imm iv ks =>
  if 0<v then vnF v
  else if op=1 then (if 0<iv then 36::inF iv else textF imm)
  else [40]++opNm op++(if 0<iv then 46::inF iv else if immOp op=true then 46::textF imm else [])++fmtL ks++[41]
def fmtL:List Pt→Bs
 | []=>[]
 | k::ks=>32::fmtF k++fmtL ks
end
def condNm (k:Int):Bs:=condL.getD (k - 1).toNat []
def fmtC (c:Cd):Bs :=
 condNm c.kind++[32]++(if c.kind=1 then vnF c.a else if c.kind=4 then vnF c.a++[32]++vnF c.b else if c.kind=5 then vnF c.a++[32]++inF c.b else if c.kind=6 then inF c.a++[32]++inF c.b else vnF c.a++[32]++textF c.n)
def fmtCs:List Cd→Bool→Bs
 | [],_=>[]
 | c::cs,first=>(if first then [32,105,102,32] else [44,32])++fmtC c++fmtCs cs false
def fmtR (r:Rl):Bs:=[114,117,108,101,32]++kx r.name++[58,32]++fmtF r.l++[32,61,62,32]++fmtF r.r++fmtCs r.conds true++[59,10]
def fmtRs:List Rl→Bs
 | []=>[]
 | r::l=>fmtR r++fmtRs l
def printF (l:List Rl):Bs:=if l.all implF then fmtRs l else []
theorem decG_lt (f:Nat) {n:Nat} (h:n<10):decG (f+1) n=[UInt8.ofNat (48+n)]:=if_pos h
theorem decG_ge (f:Nat) {n:Nat} (h:¬n<10):decG (f+1) n=decG f (n / 10)++[UInt8.ofNat (48+n % 10)]:=if_neg h
theorem decG_fuel:∀(f g n:Nat),n<10 ^ (f+1)→n<10 ^ (g+1)→decG (f+1) n=decG (g+1) n
 | 0,g,n,h,_=>by rw [decG_lt 0 (by simpa using h),decG_lt g (by simpa using h)]
 | f+1,0,n,_,h=>by rw [decG_lt (f+1) (by simpa using h),decG_lt 0 (by simpa using h)]
 | f+1,g+1,n,h,k=>by
  by_cases hn:n<10
  ·rw [decG_lt (f+1) hn,decG_lt (g+1) hn]
  ·rw [decG_ge (f+1) hn,decG_ge (g+1) hn,decG_fuel f g (n / 10) (by rw [Nat.div_lt_iff_lt_mul (by decide)];rw [Nat.pow_succ] at h;exact h) (by rw [Nat.div_lt_iff_lt_mul (by decide)];rw [Nat.pow_succ] at k;exact k)]
theorem decD_lt {n:Nat} (h:n<10):decD n=[UInt8.ofNat (48+n)]:=decG_lt 19 h
theorem decD_ge {n:Nat} (h:¬n<10) (hn:n<10 ^ 20):decD n=decD (n / 10)++[UInt8.ofNat (48+n % 10)]:=by
 have e:decD n=decG 19 (n / 10)++[UInt8.ofNat (48+n % 10)]:=decG_ge 19 h;rw [e,decG_fuel 18 19 (n / 10) (by omega) (by omega)];rfl
theorem decG_len:∀(f n:Nat),(decG f n).length≤f
 | 0,n=>by simp [decG]
 | f+1,n=>by
  rw [decG]
  split
  ·simp
  ·rw [List.length_append];have:=decG_len f (n / 10);simp;omega
theorem decD_len (n:Nat):(decD n).length≤20:=decG_len 20 n
theorem textF_len {n:Int} (_:-9223372036854775808≤n∧n≤9223372036854775807):(textF n).length≤21:=by
 have:=decD_len n.natAbs;unfold textF
 split <;> simp <;> omega
theorem nameL_len5:∀s∈nameL,s.length≤5:=by decide
theorem condL_len7:∀s∈condL,s.length≤7:=by decide
theorem opNm_len (op:Int):(opNm op).length≤5:=by
 unfold opNm;rcases Nat.lt_or_ge (op - 4).toNat nameL.length with h | h
 ·rw [List.getD,List.getElem?_eq_getElem h,Option.getD_some];exact nameL_len5 _ (List.getElem_mem h)
 ·rw [List.getD,List.getElem?_eq_none h];simp
theorem condNm_len (op:Int):(condNm op).length≤7:=by
 unfold condNm;rcases Nat.lt_or_ge (op - 1).toNat condL.length with h | h
 ·rw [List.getD,List.getElem?_eq_getElem h,Option.getD_some];exact condL_len7 _ (List.getElem_mem h)
 ·rw [List.getD,List.getElem?_eq_none h];simp
inductive FmOk:Pt→Prop
 | var {v op imm iv:Int} {ks:List Pt}:0<v→v≤100→FmOk (.mk v op imm iv ks)
 | cst {v imm iv:Int} {ks:List Pt}:¬0<v → -9223372036854775808≤imm→imm≤9223372036854775807→iv≤100→FmOk (.mk v 1 imm iv ks)
 | app {v op imm iv:Int} {ks:List Pt}:¬0<v→4≤op→op<32 → -9223372036854775808≤imm→imm≤9223372036854775807→iv≤100→(∀k∈ks,FmOk k)→FmOk (.mk v op imm iv ks)
mutual
theorem fmtF_len:∀p:Pt,FmOk p→(fmtF p).length+1≤30 * p.size
 | .mk v op imm iv ks,h=>by
  have hs:(Pt.mk v op imm iv ks).size=1+Pt.sizeL ks:=by rw [Pt.size_eq];rfl
  rw [hs];unfold fmtF
  cases h with
  | var h1 h2=>rw [if_pos h1];simp [vnF];omega
  | cst h1 h2 h3 h4 =>
   rw [if_neg h1,if_pos rfl];have:=textF_len ⟨h2,h3⟩
   split <;> simp [inF] <;> omega
  | app h1 h2 h3 h4 h5 h6 h7 =>
   rw [if_neg h1,if_neg (by omega)];have e1:=fmtL_len ks h7;have e2:=opNm_len op;have e3:=textF_len ⟨h4,h5⟩;simp only [List.length_append,List.length_singleton]
   have e4:(if 0<iv then 46::inF iv else if immOp op=true then 46::textF imm else ([]:Bs)).length≤22:=by
    split
    ·simp [inF]
    ·split <;> simp <;> omega
   omega
theorem fmtL_len:∀ks:List Pt,(∀k∈ks,FmOk k)→(fmtL ks).length≤30 * Pt.sizeL ks
 | [],_=>by simp [fmtL,Pt.sizeL]
 | k::ks,h=>by
  have e1:=fmtF_len k (h k List.mem_cons_self);have e2:=fmtL_len ks (fun q hq=>h q (List.mem_cons_of_mem _ hq));simp only [fmtL,Pt.sizeL,List.cons_append,List.length_cons,List.length_append];omega
end
theorem fmtL_snoc (k:Pt):∀ks:List Pt,fmtL (ks++[k])=fmtL ks++(32::fmtF k)
 | []=>by simp [fmtL]
 | q::ks=>by simp [fmtL,fmtL_snoc k ks]
theorem bstr_k (ns:List Int):bstr ns=kstr (ns.map fun n=>UInt8.ofNat n.toNat):=rfl
set_option maxRecDepth 100000 in
theorem rImmName_c (n:Int) (h0:0<n) (h1:n≤100) (w:World):Calls Tryz.prog 73 #[.int .i64 n] w fun e w'=>e=.returned (.string (kstr (inF n)))∧Upd Non w w':=by
 have hc:=run_str (P:=Tryz.prog) (src:=57) (dst:=9) Tryz.underlying57 Tryz.underlying5 Tryz.underlying9 (ns:=[107+n - 1]) (c:=1) (Sl.new w 5 [.int .u8 (107+n - 1)]) (n:=1) rfl
 have HE:Hid (bstr [107+n - 1]=kstr (inF n)):=by
  show bstr _=_;rw [bstr_k];unfold inF;rw [show [107+n - 1].map (fun n=>UInt8.ofNat n.toNat)=[UInt8.ofNat (106+n.toNat)] by show [UInt8.ofNat (107+n - 1).toNat]=_;rw [show (107+n - 1).toNat=106+n.toNat by omega]]
 obtain ⟨s,Hs⟩:=nm (bstr [107+n - 1]);rw [Hs.out] at hc HE;rw [←HE.out];clear Hs HE;go_enter Tryz.func73,Tryz.ntmps73;go_wp2_with fail
 go_ret;exact ⟨rfl,Upd.refl.alloc _⟩
set_option maxRecDepth 100000 in
theorem rVarName_c (n:Int) (h0:0<n) (h1:n≤100) (w:World):Calls Tryz.prog 72 #[.int .i64 n] w fun e w'=>e=.returned (.string (kstr (vnF n)))∧Upd Non w w':=by
 have hc:=run_str (P:=Tryz.prog) (src:=57) (dst:=9) Tryz.underlying57 Tryz.underlying5 Tryz.underlying9 (ns:=[97+n - 1]) (c:=1) (Sl.new w 5 [.int .u8 (97+n - 1)]) (n:=1) rfl
 have HE:Hid (({ data:=#[63] }:ByteArray)++bstr [97+n - 1]=kstr (vnF n)):=by
  show _++bstr _=_;rw [bstr_k];unfold vnF;rw [show [97+n - 1].map (fun n=>UInt8.ofNat n.toNat)=[UInt8.ofNat (96+n.toNat)] by show [UInt8.ofNat (97+n - 1).toNat]=_;rw [show (97+n - 1).toNat=96+n.toNat by omega]]
  exact kstr_app [63] _
 have hsz:(bstr [97+n - 1]).size=1:=by simp [bstr,ByteArray.size]
 obtain ⟨s,Hs⟩:=nm (bstr [97+n - 1]);rw [Hs.out] at hc HE hsz;rw [←HE.out];clear Hs HE;go_enter Tryz.func72,Tryz.ntmps72;go_wp2_with fail
 go_ret;exact ⟨rfl,Upd.refl.alloc _⟩
theorem slice20 (g i:Nat) (hi:i<20) (W:World):(Instr.sliceAt 140 (.pointer (some ⟨g,0,none⟩)) (some (.int .i64 i)) none none).run Tryz.prog W=.ok (.slice (some ⟨g,i,none⟩) (20 - i) (20 - i)) W:=by
 have hal:Tryz.prog.arrayLen 140=20:=by kernel_rfl
 have hel:Tryz.prog.elem 140=5:=by kernel_rfl
 have ht:Tryz.prog.underlying 140=some (.array (Tryz.prog.arrayLen 140) (Tryz.prog.elem 140)):=by rw [hal,hel];exact Tryz.underlying140
 have hsz:(sizeOf 5).run Tryz.prog W=.ok 1 W:=by
  have h:(Tryz.prog.info? 5).map (·.size)=some 1:=by kernel_rfl
  cases hi:Tryz.prog.info? 5 with
  | none=>rw [hi] at h;cases h
  | some i=>rw [hi] at h;simp at h;simp [sizeOf,typeInfo,hi,h]
 rw [run_sliceAt_array_l W 140 ⟨g,0,none⟩ ht .i64 i (by omega) (by rw [hal];omega),hal,hel,hsz];have hne:¬20=i:=by omega
 simp [slicedAt,Result.andThen,hne,Addr.add_lit]
theorem bstr_ub (L:Bs):bstr (L.map fun b=>(b.toNat:Int))=kstr L:=by
 rw [bstr_k,List.map_map]
 congr 1
 have : ((fun n:Int=>UInt8.ofNat n.toNat) ∘ fun b:UInt8=>(b.toNat:Int))=id:=by funext b;simp
 rw [this,List.map_id]
def ub (b:UInt8):Value:=.int .u8 b.toNat
theorem Sl.drop_ {W:World} {g i:Nat} {t:TypeId} {cs:Array Value} {L:Bs} (hb:Blk W g t cs) (h:cs.toList.drop i=L.map ub):Sl W (fun _=>True) (some ⟨g,i,none⟩) ((L.map fun b=>(b.toNat:Int)).map fun x=>.int .u8 x):=by
 refine .inr ⟨_,_,rfl,trivial,fun k hk=>?_⟩;have hk2:k<L.length:=by simpa using hk
 rw [hb.cell];have h1:cs[i+k]?=(cs.toList.drop i)[k]?:=by rw [List.getElem?_drop];simp
 rw [h1,h];simp [ub,hk2]
set_option maxRecDepth 100000 in
set_option maxHeartbeats 1000000 in
theorem wDigits_c (n:Nat) (hn:n≤18446744073709551615) (w:World):Calls Tryz.prog 102 #[.int .u64 n] w fun e w'=>e=.returned (.string (kstr (decD n)))∧Upd Non w w':=by
 go_enter Tryz.func102,Tryz.ntmps102;go_wp2_with fail
 go_loopg [0,4] 20 (fun g nv av wr=>∃(j m:Nat) (suf:Bs) (cs:Array Value),Hid (g=j)∧1≤j∧j≤20∧nv=.int .u64 m∧av=.int .i64 j∧Hid (Blk wr w.heap.size 140 cs)∧cs.size=20∧Hid (cs.toList.drop j=suf.map ub)∧Hid (decD n=decD m++suf)∧m≤18446744073709551615∧Hid (m<10 ^ j)∧Hid (j=20∨0<m)∧Hid (Upd Non w wr))
 case atStart=>exact ⟨20,n,[],_,rfl,by omega,by omega,rfl,rfl,Blk.new _ _ _,rfl,rfl,by show _=_;rw [List.append_nil],hn,by show n<10 ^ 20;omega,.inl rfl,Upd.refl.alloc _⟩
 case round =>
  obtain ⟨j,m,suf,cs,Hg,hj1,hj2,rfl,rfl,Hb,hcs,HD,HN,hm64,HM,HZ,HU⟩:=hrel;obtain ⟨i,rfl⟩:∃i,j=i+1:=⟨j - 1,by omega⟩;have hil:i<cs.size:=by omega
  have ci:=Hb.out.cell i;rw [Array.getElem?_eq_getElem hil] at ci;have cf:=Hb.out.frozen i;obtain ⟨old,Hold⟩:=nm cs[i];rw [Hold.out] at ci;obtain ⟨W,HW⟩:=nm (wr.setCell ⟨w.heap.size,i,none⟩ (.int .u8 (48+(m:Int) % 10)));have e1:=HW.out;have hb2:Blk W w.heap.size 140 (cs.setIfInBounds i (.int .u8 (48+(m:Int) % 10))):=by rw [←e1];exact Hb.out.set_ i _
  have hu2:Upd Non w W:=by rw [←e1];exact HU.out.trans (updCell _ _ _ _) (fun k hk e=>by omega)
  have hd2:(cs.setIfInBounds i (.int .u8 (48+(m:Int) % 10))).toList.drop i=(UInt8.ofNat (48+m % 10)::suf).map ub:=by
   have h1:i<cs.toList.length:=by simpa using hil
   rw [Array.toList_setIfInBounds,List.drop_set,if_neg (by omega),Nat.sub_self,List.drop_eq_getElem_cons h1,HD.out];simp only [List.set_cons_zero,List.map_cons,ub]
   congr 2
   simp;omega
  have HB2:=h_ hb2;have HU2:=h_ hu2;have HD2:=h_ hd2;have hsl:=slice20 w.heap.size i (by omega) W
  have hcv:=run_str (P:=Tryz.prog) (w:=W) (F:=fun _=>True) (src:=57) (dst:=9) Tryz.underlying57 Tryz.underlying5 Tryz.underlying9 (A:=some ⟨w.heap.size,i,none⟩) (n:=20 - i) (c:=20 - i) (ns:=(UInt8.ofNat (48+m % 10)::suf).map fun b=>(b.toNat:Int))
   (Sl.drop_ hb2 hd2) (by
    have:=congrArg List.length hd2;simp only [List.length_drop,Array.length_toList,Array.size_setIfInBounds,List.length_map] at this;simp only [List.length_map]
    omega)
  rw [bstr_ub] at hcv;clear hb2 hu2 hd2;by_cases hm:m<10
  ·have tq:((m:Int) / 10==0)=true:=by simp;omega
   obtain ⟨str,Hstr⟩:=nm (kstr (UInt8.ofNat (48+m % 10)::suf));rw [Hstr.out] at hcv;go_wp2_with fail
   go_ret;refine ⟨?_,HU2.out⟩;rw [HN.out,decD_lt hm,←Hstr.out,Nat.mod_eq_of_lt hm];rfl
  ·have tq:((m:Int) / 10==0)=false:=by simp;omega
   clear hsl hcv;go_wp2_with fail
   go_roundg i
   case measure=>rw [Hg.out];omega
   case rel =>
    have hmn:m / 10<10 ^ i:=by rw [Nat.div_lt_iff_lt_mul (by decide)];have:=HM.out;rw [Nat.pow_succ] at this;exact this
    refine ⟨i,m / 10,UInt8.ofNat (48+m % 10)::suf,_,rfl,?_,by omega,by go_num,rfl,HB2.out,by simpa using hcs,HD2.out,?_,by omega,hmn,.inr (by omega),HU2.out⟩
    ·rcases Nat.eq_zero_or_pos i with q | q
     ·subst q;simp at hmn;omega
     ·exact q
    ·show decD n=_;rw [HN.out,decD_ge hm (by omega),List.append_assoc];rfl
set_option maxRecDepth 100000 in
theorem wText_c (n:Int) (h0:-9223372036854775808≤n) (h1:n≤9223372036854775807) (w:World):Calls Tryz.prog 74 #[.int .i64 n] w fun e w'=>e=.returned (.string (kstr (textF n)))∧Upd Non w w':=by
 have C:=h_ (wDigits_c n.natAbs (by omega) w)
 have HL:Hid ((kstr (decD n.natAbs)).size≤20):=by
  show _≤_;rw [←kx_len,kx_kstr];exact decD_len _
 have HE:Hid (kstr (textF n)=if n<0 then ({ data:=#[45] }:ByteArray)++kstr (decD n.natAbs) else kstr (decD n.natAbs)):=by
  show _=_;unfold textF
  split
  ·exact (kstr_app [45] _).symm
  ·rfl
 obtain ⟨s,Hs⟩:=nm (kstr (decD n.natAbs));obtain ⟨t,Ht⟩:=nm (kstr (textF n));rw [Hs.out] at C HL HE;rw [Ht.out] at HE ⊢;have hl:=HL.out;by_cases hn:n<0
 ·have t0:decide (n<0)=true:=dT_ hn;have HR:Hid (t=({ data:=#[45] }:ByteArray)++s):=by show _=_;rw [HE.out,if_pos hn]
  rw [show ((n.natAbs:Nat):Int) = -n by omega] at C;clear HE HL Hs Ht;go_enter Tryz.func74,Tryz.ntmps74
  have hw:IntKind.u64.wrap (-IntKind.u64.wrap n) = -n:=by
   simp [IntKind.wrap,IntKind.bits,IntKind.signed];omega
  go_wp2_with fail
  refine C.out.mono ?_;rintro e w2 ⟨rfl,hu⟩;clear C hw;go_wp2_with fail
  go_ret;exact ⟨by rw [HR.out];rfl,hu⟩
 ·have t0:decide (n<0)=false:=dF_ hn;have HR:Hid (t=s):=by show _=_;rw [HE.out,if_neg hn]
  rw [show ((n.natAbs:Nat):Int)=n by omega] at C;clear HE HL Hs Ht;go_enter Tryz.func74,Tryz.ntmps74;go_wp2_with fail
  refine C.out.mono ?_;rintro e w2 ⟨rfl,hu⟩;clear C;go_wp2_with fail
  go_ret;exact ⟨by rw [HR.out];rfl,hu⟩
set_option maxRecDepth 100000 in
theorem tName_c (op:Int) (h0:4≤op) (h1:op<32) (w:World):Calls Tryz.prog 75 #[.int .i64 op] w fun e w'=>e=.returned (.tuple #[.string (kstr (opNm op)),.bool true])∧Upd Non w w':=by
 have C:=h_ (tnames_c w);obtain ⟨k,rfl⟩:∃k:Nat,op=4+k:=⟨(op - 4).toNat,by omega⟩;have hk:k<28:=by omega
 have hkl:k<nameL.length:=hk
 have HN:Hid (opNm (4+(k:Int))=nameL[k]):=by
  show _=_;unfold opNm;rw [show (4+(k:Int) - 4).toNat=k by omega,List.getD,List.getElem?_eq_getElem hkl,Option.getD_some]
 rw [HN.out];obtain ⟨nk,Hnk⟩:=nm (kstr nameL[k]);rw [Hnk.out];have td:decide (28≤(k:Int))=false:=dF_ (by omega);have t1:decide (4+(k:Int)<4)=false:=dF_ (by omega);have t3:4+(k:Int) - 4=(k:Int):=by omega
 clear HN h0 h1;go_enter Tryz.func75,Tryz.ntmps75;go_wp2_with fail
 refine C.out.mono ?_;rintro e W ⟨rfl,hs,hu⟩;obtain ⟨b,o,e,_,_,hc⟩:=hs.at_ (k:=k) (by simpa [sCells] using hkl);injection e with e
 injection e with e1 e2
 subst e1 e2;have hc2:W.cell? ⟨w.heap.size,k,none⟩=some (.string (kstr nameL[k])):=by rw [Nat.zero_add] at hc;rw [hc];simp [sCells]
 rw [Hnk.out] at hc2;clear C hs hc;go_wp2_with fail
 go_ret2;exact ⟨rfl,hu⟩
theorem fmt_eq (p:Pt):fmtF p=if 0<p.v then vnF p.v else if p.op=1 then (if 0<p.iv then 36::inF p.iv else textF p.imm)
  else [40]++opNm p.op++(if 0<p.iv then 46::inF p.iv else if immOp p.op=true then 46::textF p.imm else [])++fmtL p.kids++[41]:=by
 cases p
 rw [fmtF];rfl
theorem FmOk.inv {p:Pt} (h:FmOk p):(0<p.v∧p.v≤100)∨(¬0<p.v∧p.op=1 ∧ -9223372036854775808≤p.imm∧p.imm≤9223372036854775807∧p.iv≤100)∨(¬0<p.v∧4≤p.op∧p.op<32 ∧ -9223372036854775808≤p.imm∧p.imm≤9223372036854775807∧p.iv≤100∧∀k∈p.kids,FmOk k):=by
 cases h with
 | var h1 h2=>exact .inl ⟨h1,h2⟩
 | cst h1 h2 h3 h4=>exact .inr (.inl ⟨h1,rfl,h2,h3,h4⟩)
 | app h1 h2 h3 h4 h5 h6 h7=>exact .inr (.inr ⟨h1,h2,h3,h4,h5,h6,h7⟩)
theorem ksz {L:Bs} {n:Nat} (h:L.length≤n):(kstr L).size≤n:=by rw [←kx_len,kx_kstr];exact h
set_option maxRecDepth 100000 in
set_option maxHeartbeats 2000000 in
theorem rFormat_c (p:Pt):∀(w:World) (F:Nat→Prop) (KA:Option Addr) (kc:Nat),PtK w F p KA kc→FmOk p→p.size≤1000000000000 →
  Calls Tryz.prog 32 #[pv p KA kc] w fun e w'=>e=.returned (.string (kstr (fmtF p)))∧Upd Non w w':=by
 induction p using Pt.ind with
 | h p ih =>
  intro w F KA kc hp hok hs;have hse:=Pt.size_eq p;have hle:=Pt.len_le p.kids;have HI:=h_ ih;obtain ⟨W,HW⟩:=nm (w.alloc (.cells #[.int .i64 p.v,.int .i64 p.op,.int .i64 p.imm,.int .i64 p.iv,.slice KA p.kids.length kc] 40));have hU:Upd Non w W:=by rw [←HW.out];exact Upd.refl.alloc _
  have hb:Blk W w.heap.size 40 #[.int .i64 p.v,.int .i64 p.op,.int .i64 p.imm,.int .i64 p.iv,.slice KA p.kids.length kc]:=by rw [←HW.out];exact Blk.new _ _ _
  have e0:=HW.out;have c0:=hb.cell 0;have c1:=hb.cell 1;have c2:=hb.cell 2;have c3:=hb.cell 3;have HB:=h_ hb;have HF:=h_ (fmt_eq p);have HLN:=h_ (fmtF_len p hok);obtain ⟨res,Hres⟩:=nm (fmtF p);rw [Hres.out] at HF HLN ⊢;have hpW:=PtK.upd hU (fun _ _ _ f=>f) p KA kc hp;have HPW:=h_ hpW;have HS:=h_ hse;have HU:=h_ hU;unfold pv;clear ih hse hp hb hpW hU;rcases hok.inv with ⟨a1,a2⟩ | ⟨a1,a2,a3,a4,a5⟩ | ⟨a1,a2,a3,a4,a5,a6,a7⟩
  ·have tv:decide (0<p.v)=true:=dT_ a1;have HR:Hid (res=vnF p.v):=by show _=_;rw [HF.out,if_pos a1]
   have CV:=h_ (fun W=>rVarName_c p.v a1 a2 W);rw [HR.out];clear a1 a2 hok hle;obtain ⟨v,Hv⟩:=nm p.v;rw [Hv.out] at c0 tv e0 CV ⊢;clear c1 c2 c3;go_enter Tryz.func32,Tryz.ntmps32;go_wp2_with fail
   refine (CV.out _).mono ?_;rintro e w2 ⟨rfl,hu⟩;clear CV e0;go_wp2_with fail
   go_ret;exact ⟨rfl,HU.out.then_non hu⟩
  ·have tv:decide (0<p.v)=false:=dF_ a1;by_cases hi:0<p.iv
   ·have ti:decide (0<p.iv)=true:=dT_ hi;have HR:Hid (res=36::inF p.iv):=by show _=_;rw [HF.out,if_neg a1,if_pos a2,if_pos hi]
    have CV:=h_ (fun W=>rImmName_c p.iv hi a5 W);have hz:(kstr (inF p.iv)).size≤1:=ksz (Nat.le_refl _);have HA:Hid (({ data:=#[36] }:ByteArray)++kstr (inF p.iv)=kstr res):=by show _=_;rw [HR.out];exact kstr_app [36] _
    rw [a2] at c1 e0;obtain ⟨str,Hstr⟩:=nm (kstr (inF p.iv));rw [Hstr.out] at CV HA hz;rw [a2];clear a1 a2 a3 a4 a5 hok hle HF hi;obtain ⟨v,Hv⟩:=nm p.v;obtain ⟨iv,Hiv⟩:=nm p.iv;rw [Hv.out,Hiv.out] at e0;rw [Hv.out] at c0 tv;rw [Hiv.out] at c3 ti CV;rw [Hv.out,Hiv.out];clear c2;go_enter Tryz.func32,Tryz.ntmps32;go_wp2_with fail
    refine (CV.out _).mono ?_;rintro e w2 ⟨rfl,hu⟩;clear CV e0;go_wp2_with fail
    go_ret;exact ⟨by rw [←HA.out];rfl,HU.out.then_non hu⟩
   ·have ti:decide (0<p.iv)=false:=dF_ hi;have HR:Hid (res=textF p.imm):=by show _=_;rw [HF.out,if_neg a1,if_pos a2,if_neg hi]
    have CV:=h_ (fun W=>wText_c p.imm a3 a4 W);rw [HR.out];rw [a2] at c1 e0;rw [a2];clear a1 a2 a3 a4 a5 hok hle HF hi;obtain ⟨v,Hv⟩:=nm p.v;obtain ⟨iv,Hiv⟩:=nm p.iv;obtain ⟨imm,Himm⟩:=nm p.imm;rw [Hv.out,Hiv.out,Himm.out] at e0;rw [Hv.out] at c0 tv;rw [Hiv.out] at c3 ti;rw [Himm.out] at c2 CV;rw [Hv.out,Hiv.out,Himm.out];go_enter Tryz.func32,Tryz.ntmps32;go_wp2_with fail
    refine (CV.out _).mono ?_;rintro e w2 ⟨rfl,hu⟩;clear CV e0;go_wp2_with fail
    go_ret;exact ⟨rfl,HU.out.then_non hu⟩
  ·have tv:decide (0<p.v)=false:=dF_ a1;have tp1:(p.op==1)=false:=by simp;omega
   have HR:Hid (res=[40]++opNm p.op++(if 0<p.iv then 46::inF p.iv else if immOp p.op=true then 46::textF p.imm else [])++fmtL p.kids++[41]):=by show _=_;rw [HF.out,if_neg a1,if_neg (by omega)]
   have HBD:=h_ hok;obtain ⟨suf,Hsuf⟩:=nm (if 0<p.iv then 46::inF p.iv else if immOp p.op=true then 46::textF p.imm else ([]:Bs))
   have hsufl:suf.length≤22:=by
    rw [←Hsuf.out];have:=textF_len ⟨a4,a5⟩
    split
    ·simp [inF]
    ·split <;> simp <;> omega
   rw [Hsuf.out] at HR;have hnl:=opNm_len p.op;have CN:=h_ (tName_c p.op a2 a3 W);obtain ⟨nmb,Hnmb⟩:=nm (opNm p.op);rw [Hnmb.out] at HR hnl CN;have hz:(kstr nmb).size≤5:=ksz hnl;have H5:Hid (({ data:=#[40] }:ByteArray)++kstr nmb=kstr ([40]++nmb)):=kstr_app [40] nmb;obtain ⟨ns,Hns⟩:=nm (kstr nmb);rw [Hns.out] at CN hz H5;have hz5:(kstr ([40]++nmb)).size≤6:=ksz (by simp;omega);obtain ⟨s5,Hs5⟩:=nm (kstr ([40]++nmb));rw [Hs5.out] at H5 hz5;have hk:=HBD.out;have HKS:Hid (∀k∈p.kids,FmOk k):=a7;have HIM:Hid (-9223372036854775808≤p.imm∧p.imm≤9223372036854775807∧p.iv≤100):=⟨a4,a5,a6⟩;have CI:=h_ (fun (h:0<p.iv) W=>rImmName_c p.iv h a6 W);have CT:=h_ (fun W=>wText_c p.imm a4 a5 W);have CH:=h_ (fun W=>rHasImm_c p.op W);have HSP:Hid (suf=if 0<p.iv then 46::inF p.iv else if immOp p.op=true then 46::textF p.imm else ([]:Bs)):=Hsuf.out.symm;have hpo:p.op≠1:=by omega
   clear a1 a2 a3 a4 a5 a6 a7 hok hk HF Hsuf;obtain ⟨v,Hv⟩:=nm p.v;obtain ⟨iv,Hiv⟩:=nm p.iv;obtain ⟨imm,Himm⟩:=nm p.imm;obtain ⟨op,Hop⟩:=nm p.op;obtain ⟨n,Hn⟩:=nm p.kids.length;rw [Hv.out,Hiv.out,Himm.out,Hop.out,Hn.out] at e0;rw [Hv.out] at c0 tv;rw [Hiv.out] at c3 CI;rw [Hop.out] at c1 tp1 CN CH;rw [Himm.out] at c2 CT;rw [Hiv.out,Himm.out,Hop.out] at HSP;rw [Hn.out] at hle;rw [Hv.out,Hiv.out,Himm.out,Hop.out,Hn.out];have hn12:n≤1000000000000:=by have:=HS.out;omega
   clear hpo;go_enter Tryz.func32,Tryz.ntmps32;go_wp2_with fail
   refine CN.out.mono ?_;rintro e w2 ⟨rfl,hu2⟩;have d2:=u_ c2 hu2 (fun f=>f);have d3:=u_ c3 hu2 (fun f=>f);have d1:=u_ c1 hu2 (fun f=>f);have h5:=H5.out;clear CN e0 c0 c1 c2 c3;obtain ⟨D,HD⟩:=nm (decide (0<iv));have tD:=HD.out
   go_upto_if 45 with fail
   clear tD
   go_cut [5] (fun s wx=>s=.string (kstr ([40]++nmb++suf))∧Upd Non W wx)
   case first =>
    cases D with
    | true =>
     have hi:0<iv:=of_decide_eq_true HD.out;have CII:=h_ (CI.out hi);have HSF:Hid (suf=46::inF iv):=by show _=_;rw [HSP.out,if_pos hi]
     have hzi:(kstr (inF iv)).size≤1:=ksz (Nat.le_refl _)
     have HE:Hid (s5++(({ data:=#[46] }:ByteArray)++kstr (inF iv))=kstr ([40]++nmb++suf)):=by
      show _=_;rw [←Hs5.out,HSF.out,show ({ data:=#[46] }:ByteArray)++kstr (inF iv)=kstr (46::inF iv) from kstr_app [46] _,kstr_app]
     obtain ⟨im,Him⟩:=nm (kstr (inF iv));rw [Him.out] at CII hzi HE;clear hi;go_wp2_with fail
     refine (CII.out _).mono ?_;rintro e w3 ⟨rfl,hu3⟩;clear CII;go_wp2_with fail
     go_meet
     case rel=>exact ⟨by rw [←HE.out],hu2.then_non hu3⟩
    | false =>
     have hi:¬0<iv:=of_decide_eq_false HD.out;obtain ⟨hm,Hhm⟩:=nm (immOp op);have CHH:=h_ (CH.out);rw [Hhm.out] at CHH
     cases hm with
     | true =>
      have HSF:Hid (suf=46::textF imm):=by show _=_;rw [HSP.out,if_neg hi,if_pos Hhm.out]
      have hzi:(kstr (textF imm)).size≤21:=ksz (textF_len (by rw [←Himm.out];exact ⟨HIM.out.1,HIM.out.2.1⟩))
      have HE:Hid (s5++(({ data:=#[46] }:ByteArray)++kstr (textF imm))=kstr ([40]++nmb++suf)):=by
       show _=_;rw [←Hs5.out,HSF.out,show ({ data:=#[46] }:ByteArray)++kstr (textF imm)=kstr (46::textF imm) from kstr_app [46] _,kstr_app]
      have CTT:=h_ (CT.out);obtain ⟨im,Him⟩:=nm (kstr (textF imm));rw [Him.out] at CTT hzi HE;clear hi;go_wp2_with fail
      refine (CHH.out _).mono ?_;rintro e w3 ⟨rfl,rfl⟩;go_wp2_with fail
      refine (CTT.out _).mono ?_;rintro e w4 ⟨rfl,hu3⟩;clear CTT;go_wp2_with fail
      go_meet
      case rel=>exact ⟨by rw [←HE.out],hu2.then_non hu3⟩
     | false =>
      have HE:Hid (s5=kstr ([40]++nmb++suf)):=by show _=_;rw [←Hs5.out,HSP.out,if_neg hi,if_neg (by rw [Hhm.out];decide),List.append_nil]
      clear hi;go_wp2_with fail
      refine (CHH.out _).mono ?_;rintro e w3 ⟨rfl,rfl⟩;go_wp2_with fail
      go_meet
      case rel=>exact ⟨by rw [←HE.out],hu2⟩
   case rest =>
    obtain ⟨rfl,hwc⟩:=hcut;clear d1 d2 d3 h5 CI CT CH HSP;have hbw:=HB.out.upd hwc (fun f=>f);rw [Hn.out] at hbw;have c4:=hbw.cell 4;have HPC:=h_ (PtK.upd hwc (fun _ _ _ f=>f) p KA kc HPW.out);have HUC:=h_ (HU.out.then_non hwc);obtain ⟨pre,Hpre⟩:=nm ([40]++nmb++suf);have hpl:pre.length≤28:=by rw [←Hpre.out];simp;omega
    rw [Hpre.out] at HR ⊢;clear hbw hwc hu2;go_wp2_with fail
    go_loopg [5,7,64] n (fun g v _ i wr=>∃k:Nat,Hid (g=n - k)∧k≤n∧i=.int .i64 k∧v=.string (kstr (pre++fmtL (p.kids.take k)))∧Hid (Upd Non wc wr))
    case atStart=>exact ⟨0,rfl,by omega,rfl,by simp [fmtL],Upd.refl⟩
    case round =>
     obtain ⟨k,Hg,hk,rfl,rfl,Hu⟩:=hrel;have hkt:=Pt.sizeL_take_le p.kids k;have hfl:=fmtL_len (p.kids.take k) (fun q hq=>HKS.out q (List.mem_of_mem_take hq));have hz0:(kstr (pre++fmtL (p.kids.take k))).size≤100000000000000:=ksz (by rw [List.length_append];have:=HS.out;omega);by_cases hlt:k<n
     ·have hkl:k<p.kids.length:=by rw [Hn.out];exact hlt
      obtain ⟨b,o,rfl,hF,hbw,KB,kd,h0,h1,h2,h3,h4,h5⟩:=(PtK.upd Hu.out (fun _ _ _ f=>f) p KA kc HPC.out).at_ hkl;have hks:p.kids[k].size≤1000000000000:=by have:=Pt.kids_lt (List.getElem_mem hkl);omega
      have hmem0:=List.getElem_mem hkl;have HTK:Hid (p.kids.take (k+1)=p.kids.take k++[p.kids[k]]):=take_snoc' hkl;generalize p.kids[k]=q at *;have hmem:q∈p.kids:=by assumption
      obtain ⟨W3,HW3⟩:=nm (wr.alloc (.cells #[.int .i64 q.v,.int .i64 q.op,.int .i64 q.imm,.int .i64 q.iv,.slice KB q.kids.length kd] 40));have hq:=PtK.upd (Upd.refl.alloc (S:=Non) (.cells #[.int .i64 q.v,.int .i64 q.op,.int .i64 q.imm,.int .i64 q.iv,.slice KB q.kids.length kd] 40)) (fun _ _ _ f=>f) q KB kd h5
      have C1:=h_ (HI.out q hmem _ F KB kd hq (HKS.out q hmem) hks);unfold pv at C1;have hql:=fmtF_len q (HKS.out q hmem);have hzq:(kstr (fmtF q)).size≤100000000000000:=ksz (by omega)
      have HE:Hid (kstr (pre++fmtL (p.kids.take k))++(({ data:=#[32] }:ByteArray)++kstr (fmtF q))=kstr (pre++fmtL (p.kids.take (k+1)))):=by
       show _=_;rw [HTK.out,fmtL_snoc,show ({ data:=#[32] }:ByteArray)++kstr (fmtF q)=kstr (32::fmtF q) from kstr_app [32] _,kstr_app,List.append_assoc]
      obtain ⟨sq,Hsq⟩:=nm (kstr (fmtF q));obtain ⟨sk,Hsk⟩:=nm (kstr (pre++fmtL (p.kids.take k)));rw [Hsq.out] at C1 hzq HE;rw [Hsk.out] at hz0 HE ⊢;clear hkt hfl h5 hq hql hmem hmem0 hks;go_wp2_with fail
      refine C1.out.mono ?_;rintro e w4 ⟨rfl,hu4⟩;clear C1;go_wp2_with fail
      go_roundg (n - (k+1))
      case measure=>rw [Hg.out];omega
      case rel=>exact ⟨k+1,rfl,by omega,by go_num,by rw [←HE.out],(Hu.out.alloc _).then_non hu4⟩
     ·obtain rfl:n=k:=by omega
      have HE:Hid (kstr (pre++fmtL (p.kids.take n))++({ data:=#[41] }:ByteArray)=kstr res):=by
       show _=_;rw [←Hn.out,List.take_length,HR.out];exact kstr_app _ [41]
      obtain ⟨sk,Hsk⟩:=nm (kstr (pre++fmtL (p.kids.take n)));rw [Hsk.out] at hz0 HE ⊢;clear hkt hfl;go_wp2_with fail
      go_ret;exact ⟨by rw [←HE.out];rfl,HUC.out.then_non Hu.out⟩
theorem xIsDelim_c (c:UInt8) (w:World):Calls Tryz.prog 82 #[.int .u8 c.toNat] w fun e w'=>e=.returned (.bool (isPn c))∧w'=w:=by
 have HR:Hid (isPn c=decide (c.toNat=40∨c.toNat=41∨c.toNat=59∨c.toNat=58∨c.toNat=44)):=rfl;obtain ⟨R,HRR⟩:=nm (isPn c);rw [HRR.out] at HR ⊢;obtain ⟨x,Hx⟩:=nm c.toNat;rw [Hx.out] at HR ⊢;by_cases h1:x=40
 ·have f1:((x:Int)==40)=true:=by rw [h1];rfl
  obtain rfl:R=true:=by rw [HR.out];exact dT_ (by omega)
  clear h1;go_enter Tryz.func82,Tryz.ntmps82;go_wp2_with fail
  go_ret;exact ⟨rfl,rfl⟩
 ·have f1:((x:Int)==40)=false:=by simp;omega
  by_cases h2:x=41
  ·have f2:((x:Int)==41)=true:=by rw [h2];rfl
   obtain rfl:R=true:=by rw [HR.out];exact dT_ (by omega)
   clear h1 h2;go_enter Tryz.func82,Tryz.ntmps82;go_wp2_with fail
   go_ret;exact ⟨rfl,rfl⟩
  ·have f2:((x:Int)==41)=false:=by simp;omega
   by_cases h3:x=59
   ·have f3:((x:Int)==59)=true:=by rw [h3];rfl
    obtain rfl:R=true:=by rw [HR.out];exact dT_ (by omega)
    clear h1 h2 h3;go_enter Tryz.func82,Tryz.ntmps82;go_wp2_with fail
    go_ret;exact ⟨rfl,rfl⟩
   ·have f3:((x:Int)==59)=false:=by simp;omega
    by_cases h4:x=58
    ·have f4:((x:Int)==58)=true:=by rw [h4];rfl
     obtain rfl:R=true:=by rw [HR.out];exact dT_ (by omega)
     clear h1 h2 h3 h4;go_enter Tryz.func82,Tryz.ntmps82;go_wp2_with fail
     go_ret;exact ⟨rfl,rfl⟩
    ·have f4:((x:Int)==58)=false:=by simp;omega
     obtain ⟨b,f5⟩:∃b,((x:Int)==44)=b:=⟨_,rfl⟩
     obtain rfl:R=b:=by
      rw [HR.out,←f5,Bool.eq_iff_iff];simp only [beq_iff_eq,decide_eq_true_eq];omega
     clear h1 h2 h3 h4;go_enter Tryz.func82,Tryz.ntmps82;go_wp2_with fail
     go_ret;exact ⟨rfl,rfl⟩
def xtcells (L:List (Bs×Nat)):List Value:=L.flatMap fun t=>[.string (kstr t.1),.int .i64 t.2]
theorem xtcells_snoc (L:List (Bs×Nat)) (s:Bs) (n:Nat):xtcells (L++[(s,n)])=xtcells L++[.string (kstr s),.int .i64 n]:=by simp [xtcells]
theorem T_xtoks:SlT Tryz.prog 83 120 2 24:=by
 obtain ⟨i,h1,h2,h3,h4⟩:=info_parts (show (Tryz.prog.info? 120).map (fun i=>(i.zero,i.size,i.bytes))=some (some (.agg #[.string ⟨#[]⟩,.int .i64 0]),2,24) from by kernel_rfl)
 exact ⟨Tryz.underlying83,⟨i,_,h1,h2,h3,h4,rfl⟩,by omega⟩
def gf (l:List Tok):List (Bs×Nat)×Nat:=(goodT l,finT l)
theorem gf_good (s:Bs) (n:Nat) (l:List Tok):gf (⟨s,n,false⟩::l)=((s,n)::(gf l).1,(gf l).2):=rfl
theorem gf_bad (s:Bs) (n:Nat) (l:List Tok):gf (⟨s,n,true⟩::l)=([],n):=rfl
set_option maxRecDepth 100000 in
set_option maxHeartbeats 4000000 in
theorem xTokens_c (s:ByteArray) (w:World) (hs:s.size≤100000000000) :
  Calls Tryz.prog 41 #[.string s] w fun e w'=>∃(A:Option Addr) (c:Nat) (m:Int),e=.returned (.tuple #[.slice A (goodT (toksF (kx s))).length c,.int .i64 m])∧Own w' 120 2 A (goodT (toksF (kx s))).length c (xtcells (goodT (toksF (kx s))))∧(∀k,At A k→w.heap.size≤k)∧(goodT (toksF (kx s))).length≤s.size∧finT (toksF (kx s))≤s.size∧m=(if finT (toksF (kx s))<s.size then (finT (toksF (kx s)):Int) else -1)∧Upd Non w w':=by
 obtain ⟨n,Hn⟩:=nm s.size;have hn:=Hn.out;have hkn:(kx s).length=n:=by rw [kx_len,hn]
 rw [hn] at hs ⊢;have HKN:=h_ hkn;clear hkn;obtain ⟨GT,HGT⟩:=nm (goodT (toksF (kx s)));obtain ⟨FT,HFT⟩:=nm (finT (toksF (kx s)));rw [HGT.out,HFT.out];have HG:Hid (gf (toksF (kx s))=(GT,FT)):=by show _=_;unfold gf;rw [HGT.out,HFT.out]
 clear HGT HFT;obtain ⟨mv,Hmv⟩:=nm (if FT<n then (FT:Int) else -1);rw [Hmv.out];go_enter Tryz.func41,Tryz.ntmps41;go_wp2_with fail
 go_loopg [4,5] (n+1) (fun g l p wr=>∃(k:Nat) (A:Option Addr) (c:Nat) (L:List (Bs×Nat)),Hid (g=n+1 - k)∧k≤n∧p=.int .i64 k∧l=.slice A L.length c∧Own wr 120 2 A L.length c (xtcells L)∧(∀j,At A j→w.heap.size≤j)∧Hid ((L++(gf (tokL (n - k+1) ((kx s).drop k) k)).1,(gf (tokL (n - k+1) ((kx s).drop k) k)).2)=(GT,FT))∧L.length≤k∧Upd Non w wr)
 case atStart =>
  refine ⟨0,none,0,[],rfl,by omega,rfl,rfl,Own.none_,fun j h=>(At.none_ h).elim,?_,by simp,Upd.refl⟩;show _=_;rw [List.nil_append,List.drop_zero,←HG.out];unfold toksF;rw [HKN.out];rfl
 case round =>
  obtain ⟨k,A,c,L,Hg,hk,rfl,rfl,ho,hA,HT,hLk,hu⟩:=hrel;obtain ⟨W,rfl⟩:∃x:World,x=wr:=⟨_,rfl⟩;by_cases hlt:k<n
  ·have ti:decide ((k:Int)<(n:Int))=true:=dT_ (by omega);have hkl:k<(kx s).length:=by rw [HKN.out];exact hlt
   have i1:=fun W=>run_at_str Hn.out hlt W
   have hdr:=h_ (drop_cons hkl);obtain ⟨ch,HC⟩:=nm ((kx s).getD k 0);rw [HC.out] at i1 hdr;obtain ⟨x,Hx⟩:=nm ch.toNat;rw [Hx.out] at i1;have hx256:x<256:=by rw [←Hx.out];exact ch.toNat_lt
   have HSP:Hid (isSp ch=decide (x=32∨x=9∨x=10∨x=13)):=by show _=_;rw [←Hx.out];rfl
   obtain ⟨R,HR⟩:=nm (isSp ch);rw [HR.out] at HSP
   go_upto_region 6 with fail
   go_cut [17] (fun s wx=>s=.bool R∧wx=W)
   case first =>
    by_cases h1:x=32
    ·have f1:((x:Int)==32)=true:=by rw [h1];rfl
     obtain rfl:R=true:=by rw [HSP.out];exact dT_ (by omega)
     clear h1;go_wp2_with fail
     go_meet
     case rel=>exact ⟨rfl,rfl⟩
    ·have f1:((x:Int)==32)=false:=by simp;omega
     by_cases h2:x=9
     ·have f2:((x:Int)==9)=true:=by rw [h2];rfl
      obtain rfl:R=true:=by rw [HSP.out];exact dT_ (by omega)
      clear h1 h2;go_wp2_with fail
      go_meet
      case rel=>exact ⟨rfl,rfl⟩
     ·have f2:((x:Int)==9)=false:=by simp;omega
      by_cases h3:x=10
      ·have f3:((x:Int)==10)=true:=by rw [h3];rfl
       obtain rfl:R=true:=by rw [HSP.out];exact dT_ (by omega)
       clear h1 h2 h3;go_wp2_with fail
       go_meet
       case rel=>exact ⟨rfl,rfl⟩
      ·have f3:((x:Int)==10)=false:=by simp;omega
       obtain ⟨b,f4⟩:∃b,((x:Int)==13)=b:=⟨_,rfl⟩
       obtain rfl:R=b:=by
        rw [HSP.out,←f4,Bool.eq_iff_iff];simp only [beq_iff_eq,decide_eq_true_eq];omega
       clear h1 h2 h3;go_wp2_with fail
       go_meet
       case rel=>exact ⟨rfl,rfl⟩
   case rest =>
    obtain ⟨rfl,rfl⟩:=hcut
    cases R with
    | true =>
     have HT2:Hid ((L++(gf (tokL (n - (k+1)+1) ((kx s).drop (k+1)) (k+1))).1,(gf (tokL (n - (k+1)+1) ((kx s).drop (k+1)) (k+1))).2)=(GT,FT)):=by
      show _=_;rw [←HT.out,tok_sp HKN.out hlt (by rw [HC.out];exact HR.out)]
     clear hdr HT HSP;go_wp2_with fail
     go_roundg (n+1 - (k+1))
     case measure=>rw [Hg.out];omega
     case rel=>exact ⟨k+1,A,c,L,rfl,by omega,by go_num,rfl,ho,hA,HT2,by omega,hu⟩
    | false =>
     have h1:isSp ((kx s).getD k 0)=false:=by rw [HC.out];exact HR.out
     have H1:=h_ h1;clear h1;obtain ⟨Q,HQ⟩:=nm (isCm ((kx s).drop k))
     have HQE:Hid (Q=decide (k+1<n∧x=47∧((kx s).getD (k+1) 0).toNat=47)):=by
      show _=_;rw [←HQ.out,isCm_drop,HKN.out,HC.out,Hx.out]
     clear HSP hdr HR
     go_upto_region 8 with fail
     go_cut [34] (fun s wx=>s=.bool Q∧wx=wc)
     case first =>
      clear H1 HQ HT hA ho hu;by_cases h47:x=47
      ·have f1:((x:Int)==47)=true:=by rw [h47];rfl
       by_cases hk1:k+1<n
       ·have f0:decide ((k:Int)+1<(n:Int))=true:=dT_ (by omega);have i2:=fun W=>run_at_str Hn.out hk1 W
        rw [show ((k+1:Nat):Int)=(k:Int)+1 by omega] at i2;generalize ((kx s).getD (k+1) 0).toNat=b at i2 HQE;obtain ⟨z,f2⟩:∃z,((b:Int)==47)=z:=⟨_,rfl⟩
        obtain rfl:Q=z:=by
         rw [HQE.out,←f2,Bool.eq_iff_iff];simp only [beq_iff_eq,decide_eq_true_eq];omega
        clear h47 HQE;go_wp2_with fail
        go_meet
        case rel=>exact ⟨rfl,rfl⟩
       ·have f0:decide ((k:Int)+1<(n:Int))=false:=dF_ (by omega);obtain rfl:Q=false:=by rw [HQE.out];exact dF_ (by omega)
        clear h47 HQE;go_wp2_with fail
        go_meet
        case rel=>exact ⟨rfl,rfl⟩
      ·have f1:((x:Int)==47)=false:=by simp;omega
       obtain rfl:Q=false:=by rw [HQE.out];exact dF_ (by omega)
       clear h47 HQE;go_wp2_with fail
       go_meet
       case rel=>exact ⟨rfl,rfl⟩
     case rest =>
      obtain ⟨rfl,hwc⟩:=hcut;subst hwc;clear HQE
      cases Q with
      | true =>
       go_wp2_with fail
       go_loopg [5] (n+1 - k) (fun g p wr=>∃j:Nat,Hid (g=n+1 - j)∧k≤j∧j≤n∧p=.int .i64 j∧Hid (clen ((kx s).drop k)=(j - k)+clen ((kx s).drop j))∧wr=wc)
       case atStart=>exact ⟨k,rfl,Nat.le_refl _,hk,rfl,by show _=_;omega,rfl⟩
       case round =>
        obtain ⟨j,Hj,hkj,hj,rfl,HL,rfl⟩:=hrel;by_cases hlj:j<n
        ·have tj:decide ((j:Int)<(n:Int))=true:=dT_ (by omega);have hjl:j<(kx s).length:=by rw [HKN.out];exact hlj
         have i2:=fun W=>run_at_str Hn.out hlj W
         have HS:=h_ (clen_step hjl);generalize ((kx s).getD j 0).toNat=y at i2 HS;by_cases hy:y=10
         ·have fy:((y:Int) != 10)=false:=by rw [hy];rfl
          have HE0:Hid (clen ((kx s).drop j)=0):=by show _=_;rw [HS.out,if_pos hy]
          clear hy HS;have HE:Hid (clen ((kx s).drop j)=0):=HE0;have hcl:clen ((kx s).drop k)=j - k:=by rw [HL.out,HE.out];rfl
          obtain ⟨hkj2,htk⟩:=tok_cm HKN.out hlt H1.out HQ.out hkj hcl;have HT2:Hid ((L++(gf (tokL (n - j+1) ((kx s).drop j) j)).1,(gf (tokL (n - j+1) ((kx s).drop j) j)).2)=(GT,FT)):=by show _=_;rw [←HT.out,htk]
          clear HE HE0 hcl htk HT HL;go_wp2_with fail
          go_roundg (n+1 - j)
          case measure=>rw [Hg.out];omega
          case rel=>exact ⟨j,A,c,L,rfl,hj,rfl,rfl,ho,hA,HT2,by omega,hu⟩
         ·have fy:((y:Int) != 10)=true:=by simp;omega
          have HL2:Hid (clen ((kx s).drop k)=(j+1 - k)+clen ((kx s).drop (j+1))):=by show _=_;rw [HL.out,HS.out,if_neg hy];omega
          clear hy HS HL;go_wp2_with fail
          go_roundg (n+1 - (j+1))
          case measure=>rw [Hj.out];omega
          case rel=>exact ⟨j+1,rfl,by omega,by omega,by go_num,HL2,rfl⟩
        ·have HJN:Hid (j=n):=by show _=_;omega
         have tj:decide ((j:Int)<(n:Int))=false:=dF_ (by omega);have HE0:Hid (clen ((kx s).drop j)=0):=by rw [HJN.out];exact clen_end HKN.out
         have HE:Hid (clen ((kx s).drop j)=0):=HE0;have hcl:clen ((kx s).drop k)=j - k:=by rw [HL.out,HE.out];rfl
         obtain ⟨hkj2,htk⟩:=tok_cm HKN.out hlt H1.out HQ.out hkj hcl;have HT2:Hid ((L++(gf (tokL (n - j+1) ((kx s).drop j) j)).1,(gf (tokL (n - j+1) ((kx s).drop j) j)).2)=(GT,FT)):=by show _=_;rw [←HT.out,htk]
         clear HE HE0 hcl htk HT HL;go_wp2_with fail
         go_roundg (n+1 - j)
         case measure=>rw [Hg.out];omega
         case rel=>exact ⟨j,A,c,L,rfl,hj,rfl,rfl,ho,hA,HT2,by omega,hu⟩
      | false =>
       obtain ⟨pn,Hpn⟩:=nm (isPn ch);have CP:=h_ (fun W=>xIsDelim_c ch W);rw [Hpn.out,Hx.out] at CP;have CP1:=h_ (CP.out wc);have h3:(isPn ((kx s).getD k 0) || decide (((kx s).getD k 0).toNat<33) || decide (126<((kx s).getD k 0).toNat))=(pn || decide (x<33) || decide (126<x)):=by rw [HC.out,Hx.out,Hpn.out]
       have H3:=h_ h3;obtain ⟨m,Hm⟩:=nm L.length;have ho1:Own wc 120 2 A m c (xtcells L):=by rw [←Hm.out];exact ho
       have hwA:w.heap.size≤wc.heap.size:=hu.size;rw [Hm.out] at hLk ⊢;clear h3 ho;go_wp2_with fail
       refine CP1.out.mono ?_;rintro e w2 ⟨rfl,rfl⟩;clear CP1
       cases pn with
       | true =>
        have hsl:=fun W=>run_sub_str Hn.out (show k≤k+1 by omega) (show k+1≤n by omega) W
        rw [show ((k+1:Nat):Int)=(k:Int)+1 by omega,show ((kx s).drop k).take (k+1 - k)=[ch] by rw [drop_cons hkl,HC.out,show k+1 - k=1 by omega];rfl] at hsl
        have HT2:Hid (((L++[([ch],k)])++(gf (tokL (n - (k+1)+1) ((kx s).drop (k+1)) (k+1))).1,(gf (tokL (n - (k+1)+1) ((kx s).drop (k+1)) (k+1))).2)=(GT,FT)):=by
         show _=_;rw [←HT.out,tok_pn HKN.out hlt H1.out HQ.out H3.out,HC.out,Hpn.out,Bool.not_true,gf_good,List.append_assoc];rfl
        clear CP i1 HT
        go_wp2_with (at_builtin;refine wpList_app rfl rfl T_xtoks rfl (ho1.alloc _) rfl (Sl.new _ _ _) rfl (by simp [Value.oneCell']) (by simp only [maxLen];omega) (by omega) ?_;intro A8 c8 w8 ho8 hu8 hat8)
        have e8:Own w8 120 2 A8 (L++[([ch],k)]).length c8 (xtcells (L++[([ch],k)])):=by
         rw [xtcells_snoc,List.length_append,Hm.out];exact ho8
        have hU8:Upd Non w w8:=(hu.alloc _).trans hu8 (fun i hi h=>by have:=hA i h;omega);have HO8:=h_ e8
        have HA8:Hid (∀j,At A8 j→w.heap.size≤j):=fun j h=>by
         rcases hat8 j h with h | h
         ·exact hA j h
         ·rw [h];simp;omega
        clear ho8 e8 hu8 hat8 ho1;go_wp2_with fail
        go_roundg (n+1 - (k+1))
        case measure=>rw [Hg.out];omega
        case rel=>exact ⟨k+1,A8,c8,L++[([ch],k)],rfl,by omega,by go_num,by rw [List.length_append,Hm.out];rfl,HO8.out,HA8.out,HT2,by rw [List.length_append,Hm.out,List.length_singleton];omega,hU8⟩
       | false =>
        obtain ⟨D,HD⟩:=nm (decide (32<x)&&decide (x<127))
        go_upto_region 14 with fail
        go_cut [78] (fun s wx=>s=.bool D∧wx=w2)
        case first =>
         clear H1 HQ HT hA ho1 hu H3;by_cases hx1:32<x
         ·have fx:decide ((32:Int)<(x:Int))=true:=dT_ (by omega);obtain ⟨z,fz⟩:∃z,decide ((x:Int)<127)=z:=⟨_,rfl⟩
          obtain rfl:D=z:=by
           rw [←HD.out,←fz];simp only [hx1,decide_true,Bool.true_and];rw [Bool.eq_iff_iff,decide_eq_true_eq,decide_eq_true_eq];omega
          clear hx1;go_wp2_with fail
          go_meet
          case rel=>exact ⟨rfl,rfl⟩
         ·have fx:decide ((32:Int)<(x:Int))=false:=dF_ (by omega);obtain rfl:D=false:=by rw [←HD.out];simp [hx1]
          go_wp2_with fail
          go_meet
          case rel=>exact ⟨rfl,rfl⟩
        case rest =>
         obtain ⟨rfl,hwc⟩:=hcut;subst hwc
         cases D with
         | false =>
          have hd:=HD.out
          have H3b:Hid ((isPn ((kx s).getD k 0) || decide (((kx s).getD k 0).toNat<33) || decide (126<((kx s).getD k 0).toNat))=true):=by
           show _=_;rw [H3.out];simp only [Bool.and_eq_false_iff,decide_eq_false_iff_not] at hd;simp only [Bool.or_eq_true,decide_eq_true_eq,Bool.false_or];omega
          have hT:=HT.out;rw [tok_pn HKN.out hlt H1.out HQ.out H3b.out,HC.out,Hpn.out,Bool.not_false,gf_bad,List.append_nil] at hT;injection hT with hT1 hT2
          have HT1:=h_ hT1;have HT2:=h_ hT2;clear hT1 hT2 hd HT;go_wp2_with fail
          go_ret2;refine ⟨A,c,(k:Int),by rw [←HT1.out,Hm.out];rfl,by rw [←HT1.out,Hm.out];exact ho1,hA,by rw [←HT1.out,Hm.out];omega,by rw [←HT2.out];omega,by rw [←Hmv.out,←HT2.out,if_pos hlt],hu⟩
         | true =>
          have hd:=HD.out
          have H3b:Hid ((isPn ((kx s).getD k 0) || decide (((kx s).getD k 0).toNat<33) || decide (126<((kx s).getD k 0).toNat))=false):=by
           show _=_;rw [H3.out];simp only [Bool.and_eq_true,decide_eq_true_eq] at hd;simp only [Bool.or_eq_false_iff,decide_eq_false_iff_not];exact ⟨⟨trivial,by omega⟩,by omega⟩
          clear hd CP i1;go_wp2_with fail
          go_loopg [7] (n+1 - k) (fun g p wr=>∃j:Nat,Hid (g=n+1 - j)∧k≤j∧j≤n∧p=.int .i64 j∧Hid (wlen ((kx s).drop k)=(j - k)+wlen ((kx s).drop j))∧wr=wc)
          case atStart=>exact ⟨k,rfl,Nat.le_refl _,hk,rfl,by show _=_;omega,rfl⟩
          case round =>
           obtain ⟨j,Hj,hkj,hj,rfl,HL,hwr⟩:=hrel;subst hwr;obtain ⟨E,HE⟩:=nm (decide (j<n)&&(wordCh ((kx s).getD j 0)&&!isCm ((kx s).drop j)))
           go_upto_region 16 with fail
           go_cut [128] (fun s wx=>s=.bool E∧wx=wr)
           case first =>
            clear ho1 hA HT H1 H3 H3b HQ hu HC Hx;by_cases hlj:j<n
            ·have tj:decide ((j:Int)<(n:Int))=true:=dT_ (by omega);have i2:=fun W=>run_at_str Hn.out hlj W
             rw [isCm_drop,HKN.out] at HE;generalize (kx s).getD j 0=cj at i2 HE;have CP2:=h_ (xIsDelim_c cj wr);have HW:Hid (wordCh cj=(decide (33≤cj.toNat∧cj.toNat≤126)&&!isPn cj)):=rfl;obtain ⟨pj,Hpj⟩:=nm (isPn cj);rw [Hpj.out] at CP2 HW;rw [HW.out] at HE;clear HW Hpj;generalize cj.toNat=y at i2 HE CP2;by_cases hy1:32<y
             ·have fy1:decide ((32:Int)<(y:Int))=true:=dT_ (by omega);by_cases hy2:y<127
              ·have fy2:decide ((y:Int)<127)=true:=dT_ (by omega)
               cases pj with
               | true =>
                obtain rfl:E=false:=by rw [←HE.out];simp
                clear HE;go_wp2_with fail
                refine CP2.out.mono ?_;rintro e w3 ⟨rfl,rfl⟩;go_wp2_with fail
                go_meet
                case rel=>exact ⟨rfl,rfl⟩
               | false =>
                have hy3:decide (33≤y∧y≤126)=true:=dT_ (by omega);rw [dT_ hlj,hy3] at HE;by_cases hy4:y=47
                ·have fy4:((y:Int) != 47)=false:=by rw [hy4];rfl
                 by_cases hj1:j+1<n
                 ·have fj:decide ((n:Int)≤(j:Int)+1)=false:=dF_ (by omega);have i3:=fun W=>run_at_str Hn.out hj1 W
                  rw [show ((j+1:Nat):Int)=(j:Int)+1 by omega] at i3;generalize ((kx s).getD (j+1) 0).toNat=b at i3 HE;obtain ⟨z,fz⟩:∃z,((b:Int) != 47)=z:=⟨_,rfl⟩
                  obtain rfl:E=z:=by
                   rw [←HE.out,←fz,hy4];simp only [hj1,true_and,Bool.true_and,Bool.not_false];rw [Bool.eq_iff_iff];simp only [Bool.not_eq_true',decide_eq_false_iff_not,bne_iff_ne,ne_eq];omega
                  clear HE hy4 hy3;go_wp2_with fail
                  refine CP2.out.mono ?_;rintro e w3 ⟨rfl,rfl⟩;go_wp2_with fail
                  go_meet
                  case rel=>exact ⟨rfl,rfl⟩
                 ·have fj:decide ((n:Int)≤(j:Int)+1)=true:=dT_ (by omega);obtain rfl:E=true:=by rw [←HE.out];simp [hj1]
                  clear HE hy4 hy3;go_wp2_with fail
                  refine CP2.out.mono ?_;rintro e w3 ⟨rfl,rfl⟩;go_wp2_with fail
                  go_meet
                  case rel=>exact ⟨rfl,rfl⟩
                ·have fy4:((y:Int) != 47)=true:=by simp;omega
                 obtain rfl:E=true:=by rw [←HE.out];simp [hy4]
                 clear HE hy4 hy3;go_wp2_with fail
                 refine CP2.out.mono ?_;rintro e w3 ⟨rfl,rfl⟩;go_wp2_with fail
                 go_meet
                 case rel=>exact ⟨rfl,rfl⟩
              ·have fy2:decide ((y:Int)<127)=false:=dF_ (by omega);obtain rfl:E=false:=by rw [←HE.out,dF_ (p:=33≤y∧y≤126) (by omega)];simp
               clear HE;go_wp2_with fail
               go_meet
               case rel=>exact ⟨rfl,rfl⟩
             ·have fy1:decide ((32:Int)<(y:Int))=false:=dF_ (by omega);obtain rfl:E=false:=by rw [←HE.out,dF_ (p:=33≤y∧y≤126) (by omega)];simp
              clear HE;go_wp2_with fail
              go_meet
              case rel=>exact ⟨rfl,rfl⟩
            ·have tj:decide ((j:Int)<(n:Int))=false:=dF_ (by omega);obtain rfl:E=false:=by rw [←HE.out];simp [hlj]
             clear HE;go_wp2_with fail
             go_meet
             case rel=>exact ⟨rfl,rfl⟩
           case rest =>
            obtain ⟨rfl,hwc⟩:=hcut;subst hwc
            cases E with
            | true =>
             have hd:=HE.out;simp only [Bool.and_eq_true,decide_eq_true_eq] at hd
             have HL2:Hid (wlen ((kx s).drop k)=(j+1 - k)+wlen ((kx s).drop (j+1))):=by
              show _=_;rw [HL.out,wlen_step (by rw [HKN.out];exact hd.1),if_pos (by simpa using hd.2)];omega
             have hj2:=hd.1;clear hd HE HL;go_wp2_with fail
             go_roundg (n+1 - (j+1))
             case measure=>rw [Hj.out];omega
             case rel=>exact ⟨j+1,rfl,by omega,by omega,by go_num,HL2,rfl⟩
            | false =>
             have hcl:wlen ((kx s).drop k)=j - k:=by
              rw [HL.out];by_cases hjn:j<n
              ·have hd:=HE.out;rw [dT_ hjn,Bool.true_and] at hd;rw [wlen_step (by rw [HKN.out];exact hjn),hd];simp
              ·rw [show j=n by omega,wlen_end HKN.out];rfl
             obtain ⟨hkj2,htk⟩:=tok_wd HKN.out hlt H1.out HQ.out H3b.out hkj hcl;have hsl:=fun W=>run_sub_str Hn.out hkj hj W
             obtain ⟨wd,Hwd⟩:=nm (((kx s).drop k).take (j - k));rw [Hwd.out] at hsl htk
             have HT2:Hid (((L++[(wd,k)])++(gf (tokL (n - j+1) ((kx s).drop j) j)).1,(gf (tokL (n - j+1) ((kx s).drop j) j)).2)=(GT,FT)):=by
              show _=_;rw [←HT.out,htk,gf_good,List.append_assoc];rfl
             clear HE hcl htk HL
             go_wp2_with (at_builtin;refine wpList_app rfl rfl T_xtoks rfl (ho1.alloc _) rfl (Sl.new _ _ _) rfl (by simp [Value.oneCell']) (by simp only [maxLen];omega) (by omega) ?_;intro A8 c8 w8 ho8 hu8 hat8)
             have e8:Own w8 120 2 A8 (L++[(wd,k)]).length c8 (xtcells (L++[(wd,k)])):=by
              rw [xtcells_snoc,List.length_append,Hm.out];exact ho8
             have hU8:Upd Non w w8:=(hu.alloc _).trans hu8 (fun i hi h=>by have:=hA i h;omega);have HO8:=h_ e8
             have HA8:Hid (∀j,At A8 j→w.heap.size≤j):=fun j h=>by
              rcases hat8 j h with h | h
              ·exact hA j h
              ·rw [h];simp;omega
             clear ho8 e8 hu8 hat8 ho1;go_wp2_with fail
             go_roundg (n+1 - j)
             case measure=>rw [Hg.out];omega
             case rel=>exact ⟨j,A8,c8,L++[(wd,k)],rfl,hj,rfl,by rw [List.length_append,Hm.out];rfl,HO8.out,HA8.out,HT2,by rw [List.length_append,Hm.out,List.length_singleton];omega,hU8⟩
  ·obtain rfl:n=k:=by omega
   have hT:=HT.out;rw [tok_end HKN.out,gf_bad,List.append_nil] at hT;injection hT with hT1 hT2
   have HT1:=h_ hT1;have HT2:=h_ hT2;obtain ⟨m,Hm⟩:=nm L.length;have ho1:Own W 120 2 A m c (xtcells L):=by rw [←Hm.out];exact ho
   rw [Hm.out] at hLk ⊢;clear hT1 hT2 HT ho;go_wp2_with fail
   go_ret2;exact ⟨A,c,-1,by rw [←HT1.out,Hm.out];rfl,by rw [←HT1.out,Hm.out];exact ho1,hA,by rw [←HT1.out,Hm.out];omega,by rw [←HT2.out];omega,by rw [←Hmv.out,←HT2.out,if_neg (by omega)],hu⟩
end Go.Proofs.YtblkgjdhaibhgaaGreat
