/-
  Lemmas and walks that the claim rests on, part 7 (packed by a program).
-/
import Derived.Test.YtblkgjdhaibhgaaGreatR3
import Derived.Laws.ResultCell
import Derived.Laws.Rows
import Derived.Test.YtblkgjdhaibhgaaGreatR6
namespace Go.Proofs.YtblkgjdhaibhgaaGreat
open Go.RowKit
theorem results_cell_row_tmps {P:Program} {fn:Func} {p u v:Tmp} {ty:TypeId} (h:fn.results=#[.cell p ty,.tmp u,.tmp v]) (tmps:Array Value) (w:World) (g:Nat) (t:TypeId) (cs:Array Value) (fr:Nat×Nat) (d:TypeDesc)
  (hp:tmps.getD p undef=.pointer (some ⟨g,0,none⟩)) (hg:w.heap[g]?=some (.cells cs t fr))
  (hu:P.underlying ty=some d) (hd:(match d with | .struct _ | .array _ _=>true | _=>false)=true) (hi:(P.info? ty).map (·.size)=some cs.size) :
  (results fn tmps).run P w=.ok (.tuple #[.agg cs,tmps.getD u undef,tmps.getD v undef]) w:=by
 have hp':tmps[p]?.getD undef=.pointer (some ⟨g,0,none⟩):=by simpa using hp
 simp [results,h,hp',asAddr,run_loadVar_row w g t ty cs fr d hg hu hd hi,Result.andThen]
theorem PtK.swap {w:World} {F:Nat→Prop} {p:Pt} {KA:Option Addr} {kc:Nat} (h:PtK w F p KA kc) (a b c d:Int):PtK w F (.mk a b c d p.kids) KA kc:=by
 rw [PtK.iff] at h ⊢;exact h
def NS (w:World) (A:Option Addr) (c:Nat) (vs:List Int) (B:Option Addr) (d:Nat) (ms:List Int):Prop :=
 Own w 3 1 A vs.length c (icells vs)∧Own w 3 1 B ms.length d (icells ms)∧∀k,At A k→¬At B k
theorem NS.upd {w w':World} {S:Nat→Prop} {A B:Option Addr} {c d:Nat} {vs ms:List Int} (h:NS w A c vs B d ms) (u:Upd S w w') (hA:∀k,At A k→¬S k) (hB:∀k,At B k→¬S k):NS w' A c vs B d ms:=⟨h.1.upd u hA,h.2.1.upd u hB,h.2.2⟩
theorem findG_drop {vs:List Int} {k:Nat} (h:k<vs.length) (x:Int):findG (vs.drop k) x k=if vs[k]=x then some k else findG (vs.drop (k+1)) x (k+1):=by
 rw [List.drop_eq_getElem_cons h];rfl
theorem lastG_drop {vs:List Int} {k:Nat} (h:k<vs.length) (x a:Int):lastG (vs.drop k) x k a=lastG (vs.drop (k+1)) x (k+1) (if vs[k]=x then (k:Int) else a):=by
 rw [List.drop_eq_getElem_cons h];rfl
theorem Ints.cellA {w:World} {F:Nat→Prop} {A:Option Addr} {xs:List Int} (h:Ints w F A xs) {j:Nat} (hj:j<xs.length):∃b o,A=some ⟨b,o,none⟩∧F b∧b<w.heap.size∧w.cell? ⟨b,o+j,none⟩=some (.int .i64 xs[j]):=by
 obtain ⟨b,o,h1,h2,h3,h4⟩:=Sl.at_ (k:=j) h (by simpa using hj);exact ⟨b,o,h1,h2,h3,by simpa using h4⟩
def NumPost (w:World) (F:Nat→Prop) (A B:Option Addr) (r:Pt×List Int×List Int) (e:Ending) (w':World):Prop :=
 ∃(KA':Option Addr) (kc':Nat) (A':Option Addr) (c':Nat) (B':Option Addr) (d':Nat),
  e=.returned (.tuple #[pv r.1 KA' kc',.slice A' r.2.1.length c',.slice B' r.2.2.length d']) ∧
  PtK w' (fun k=>(F k∨w.heap.size≤k)∧¬At A' k∧¬At B' k) r.1 KA' kc'∧NS w' A' c' r.2.1 B' d' r.2.2 ∧
  (∀k,At A' k→At A k∨w.heap.size≤k)∧(∀k,At B' k→At B k∨w.heap.size≤k)∧Upd (fun k=>At A k∨At B k) w w'
set_option maxRecDepth 100000 in
set_option maxHeartbeats 4000000 in
theorem numbered_c (p:Pt):∀(w:World) (F:Nat→Prop) (KA:Option Addr) (kc:Nat) (A:Option Addr) (c:Nat) (B:Option Addr) (d:Nat) (vs ms:List Int),PtK w F p KA kc→(∀k,F k→¬At A k∧¬At B k)→NS w A c vs B d ms→vs.length+p.size≤1000000→ms.length+p.size≤1000000 →
  Calls Tryz.prog 78 #[pv p KA kc,.slice A vs.length c,.slice B ms.length d] w fun e w'=>NumPost w F A B (numF p vs ms) e w':=by
 induction p using Pt.ind with
 | h p ih =>
  intro w F KA kc A c B d vs ms hp0 hF0 hns hsv hsm;have HI:=Lib.hid ih;have hp1:=PtK.mono (G:=fun k=>F k∧k<w.heap.size) (fun k hk h=>⟨h,hk⟩) p KA kc hp0;obtain ⟨W,HW⟩:=nm (w.alloc (.cells #[.int .i64 p.v,.int .i64 p.op,.int .i64 p.imm,.int .i64 p.iv,.slice KA p.kids.length kc] 40))
  have hU:Upd Non w W:=by rw [←HW.out];exact Upd.refl.alloc _
  have hb:Blk W w.heap.size 40 #[.int .i64 p.v,.int .i64 p.op,.int .i64 p.imm,.int .i64 p.iv,.slice KA p.kids.length kc]:=by rw [←HW.out];exact Blk.new _ _ _
  have hsW:W.heap.size=w.heap.size+1:=by rw [←HW.out];simp
  obtain ⟨W2,HW2⟩:=nm (W.alloc (.cells #[.int .i64 0,.int .i64 0,.int .i64 0,.int .i64 0,.slice none 0 0] 40))
  have hU2:Upd Non W W2:=by rw [←HW2.out];exact Upd.refl.alloc _
  have hb2:Blk W2 (w.heap.size+1) 40 #[.int .i64 0,.int .i64 0,.int .i64 0,.int .i64 0,.slice none 0 0]:=by rw [←HW2.out,←hsW];exact Blk.new _ _ _
  have hsW2:W2.heap.size=w.heap.size+2:=by rw [←HW2.out];simp [hsW]
  have hb:=hb.upd hU2 (fun f=>f);have hU0:=hU.then_non hU2;have e0:=HW.out;have e2:=HW2.out;have hpW:=PtK.upd hU0 (fun _ _ _ f=>f) p KA kc hp1;have hnsW:=hns.upd hU0 (fun _ _ f=>f) (fun _ _ f=>f)
  have hAlt:∀k,At A k→k<w.heap.size:=fun k h=>hns.1.lt h
  have hBlt:∀k,At B k→k<w.heap.size:=fun k h=>hns.2.1.lt h
  have HS:=Lib.hid (Pt.size_eq p)
  have hkl:p.kids.length≤1000000:=by have h1:=Pt.len_le p.kids;have h2:=HS.out;omega
  have HF0:=Lib.hid hF0;have HAL:=Lib.hid hAlt;have HBL:=Lib.hid hBlt;have HNV:=Lib.hid (@numF_var p);have HNO:=Lib.hid (@numF_op p)
  have hps:1≤p.size:=by have:=HS.out;omega
  obtain ⟨R,HR⟩:=nm (numF p vs ms);rw [HR.out];have c0:=hb.cell 0;have c3:=hb.cell 3;unfold pv;obtain ⟨v,Hv⟩:=nm p.v;obtain ⟨op,Hop⟩:=nm p.op;obtain ⟨imm,Himm⟩:=nm p.imm;obtain ⟨iv,Hiv⟩:=nm p.iv;obtain ⟨k,Hk⟩:=nm p.kids.length;rw [Hv.out] at c0 e0 hb HNV HNO;rw [Hop.out] at e0 hb HNV HNO;rw [Himm.out] at e0 hb HNV HNO;rw [Hiv.out] at c3 e0 hb HNV HNO
  rw [Hk.out] at e0 hb hkl;rw [Hv.out,Hop.out,Himm.out,Hiv.out,Hk.out];obtain ⟨nv,Hnv⟩:=nm vs.length;obtain ⟨nm_,Hnm⟩:=nm ms.length;rw [Hnv.out] at hsv ⊢;rw [Hnm.out] at hsm ⊢;clear ih hp0 hF0 hns hp1 hAlt hBlt hU hU2
  by_cases hv:0<v
  ·
   have hR:=HNV.out hv vs ms;rw [HR.out] at hR;have hiV:=hnsW.1.ints;have HIV:=Lib.hid hiV;have HNS:=Lib.hid hnsW;have HR2:=Lib.hid hR;have tv:decide (0<v)=true:=decide_eq_true hv;have HV0:=Lib.hid hv;clear HNV HNO hnsW hR hiV hv c3;go_enter Tryz.func78,Tryz.ntmps78
   go_wp2_with fail
   go_loopg [9] nv (fun g i wr=>∃j:Nat,Hid (g=nv - j)∧j≤nv∧i=.int .i64 j∧Hid (findG vs v 0=findG (vs.drop j) v j)∧Upd Non W2 wr)
   case atStart=>exact ⟨0,rfl,by omega,rfl,rfl,Upd.refl⟩
   case round =>
    obtain ⟨j,Hg,hj,rfl,HFD,hu⟩:=hrel;have hbr:=hb.upd hu (fun f=>f);have hbR:=hb2.upd hu (fun f=>f);have d0:=hbr.cell 0;have g0:=hbr.frozen 0
    by_cases hlt:j<nv
    ·
     have hjl:j<vs.length:=by rw [Hnv.out];exact hlt
     obtain ⟨ba,oa,hA,_,_,z⟩:=(HIV.out.upd hu (fun _ _ _ f=>f)).cellA hjl
     have HFJ:Hid (findG vs v 0=if vs[j]=v then some j else findG (vs.drop (j+1)) v (j+1)):=by show _=_;rw [HFD.out];exact findG_drop hjl v
     generalize vs[j]=y at *;have t1:decide (j<nv)=true:=decide_eq_true hlt
     have hj0:(0:Int)≤(j:Int):=by omega
     have hjn:(j:Int)<(nv:Int):=by omega
     subst hA;obtain ⟨wD,HwD⟩:=nm wr.drew
     have uD:Upd Non wr wD:=by rw [←HwD.out];exact Upd.refl.drew
     have dD0:=cell_upd d0 uD (fun f=>f);have zD:=cell_upd z uD (fun f=>f);have HFL:=Lib.hid hlt;clear hlt
     go_wp2_with fail
     refine wp_region_held_drew (S:=fun w'=>w'.cell? ⟨w.heap.size,0,none⟩=some (.int .i64 v)∧w'.cell? ⟨ba,oa+j,none⟩=some (.int .i64 y)) (by kernel_rfl) (by rw [HwD.out];exact ⟨dD0,zD⟩) (fun hHeld=>?_)
     rw [HwD.out] at hHeld ⊢
     by_cases hy:y=v
     ·
      subst hy;refine wpT 0 ?_
      try simp only [put_y,put_z]
      refine wpT 1 ?_
      try simp only [put_y,put_z]
      refine wpT 2 ?_
      try simp only [put_y,put_z]
      refine wpT 3 ?_
      try simp only [put_y,put_z]
      refine wpT 4 ?_
      try simp only [put_y,put_z]
      refine wpT 5 ?_
      try simp only [put_y,put_z]
      refine wpT 6 ?_
      try simp only [put_y,put_z]
      refine wpAnyH_done (by kernel_rfl) ?_ _;have hbD:=hbr.upd uD (fun f=>f);have hbRD:=hbR.upd uD (fun f=>f)
      have hE:findG vs y 0=some j:=by rw [HFJ.out,if_pos rfl]
      have g0:=hbD.frozen 0;obtain ⟨X1,HX1⟩:=nm (wD.setCell ⟨w.heap.size,0,none⟩ (.int .i64 ((j:Int)+1)));have x1:=HX1.out
      have hx1:Blk X1 w.heap.size 40 #[.int .i64 ((j:Int)+1),.int .i64 op,.int .i64 imm,.int .i64 iv,.slice KA k kc]:=by rw [←x1];simpa using hbD.set_ 0 (.int .i64 ((j:Int)+1))
      have v1:Upd (·=w.heap.size) wD X1:=by rw [←x1];exact updCell _ _ _ _
      have hxR:=hbRD.upd v1 (by omega);have k0:=hx1.cell 0;have k1:=hx1.cell 1;have k2:=hx1.cell 2;have k3:=hx1.cell 3;have k4:=hx1.cell 4;have r0:=hxR.cell 0;have r1:=hxR.cell 1;have r2:=hxR.cell 2;have r3:=hxR.cell 3;have r4:=hxR.cell 4;have rf:=hxR.frozen;have HE:=Lib.hid hE
      have UX:Upd (·=w.heap.size) W2 X1:=((hu.then_non uD).mono (fun _ _ f=>f.elim)).trans v1 (fun _ _ h=>h);have HXR:=Lib.hid hxR;clear hE z zD
      go_wp2_with fail
      rw [set5_eq]
      refine bodyPost_ret (results_cell_row_tmps rfl _ _ (w.heap.size+1) 40 _ (0,0) _ rfl (set5_blk HXR.out _ _ _ _ _) Tryz.underlying40 rfl (by kernel_rfl)) rfl ?_
      have uS:=set5_upd X1 (w.heap.size+1) (.int .i64 ((j:Int)+1)) (.int .i64 op) (.int .i64 imm) (.int .i64 iv) (.slice KA k kc)
      have UF:Upd (fun i=>i=w.heap.size∨i=w.heap.size+1) W2 (set5 X1 (w.heap.size+1) (.int .i64 ((j:Int)+1)) (.int .i64 op) (.int .i64 imm) (.int .i64 iv) (.slice KA k kc)):=(UX.mono (fun _ _ h=>.inl h)).trans uS (fun _ _ h=>.inr h)
      have hRe:R=(.mk ((j:Int)+1) op imm iv p.kids,vs,ms):=by rw [HR2.out];unfold numV;rw [HE.out]
      rw [hRe];have hkk:=Hk.out
      refine ⟨KA,kc,_,c,B,d,?_,?_,HNS.out.upd UF (fun k h e=>by have:=HAL.out k h;omega) (fun k h e=>by have:=HBL.out k h;omega),fun k h=>.inl h,fun k h=>.inl h,(hU0.mono (fun _ _ f=>f.elim)).trans UF (fun i hi h=>by omega)⟩
      ·
       show _=Ending.returned (.tuple #[.agg #[_,_,_,_,.slice KA p.kids.length kc],.slice _ vs.length c,.slice B ms.length d]);rw [Hnv.out,Hnm.out,Hk.out];rfl
      ·
       exact PtK.swap (PtK.mono (fun i _ h=>⟨.inl h.1,HF0.out i h.1⟩) _ _ _ (PtK.upd UF (fun i hi h e=>by have:=h.2;omega) p KA kc hpW)) _ _ _ _
     ·
      have ty:(y==v)=false:=by simpa using hy
      have HFN:Hid (findG vs v 0=findG (vs.drop (j+1)) v (j+1)):=by show _=_;rw [HFJ.out,if_neg hy]
      clear hy;refine wpT 0 ?_
      try simp only [put_y,put_z]
      refine wpT 1 ?_
      try simp only [put_y,put_z]
      refine wpT 2 ?_
      try simp only [put_y,put_z]
      refine wpT 3 ?_
      try simp only [put_y,put_z]
      refine wpT 4 ?_
      try simp only [put_y,put_z]
      refine wpT 5 ?_
      try simp only [put_y,put_z]
      refine wpT 6 ?_
      try simp only [put_y,put_z]
      refine wpAnyH_done (by kernel_rfl) ?_ _;have hltj:=HFL.out
      go_wp2_with fail
      go_roundg (nv - (j+1))
      case measure=>rw [Hg.out];omega
      case rel=>exact ⟨j+1,rfl,by omega,by go_num,HFN,hu.then_non uD⟩
    ·
     obtain rfl:nv=j:=by omega
     have hE:findG vs v 0=none:=by rw [HFD.out,List.drop_of_length_le (by rw [Hnv.out];exact Nat.le_refl _)];rfl
     have HE:=Lib.hid hE;have hoR:=HNS.out.1.upd hu (fun _ _ f=>f);rw [Hnv.out] at hoR;have hltr:=hb2.lt;have hsu:=hu.size;clear hE
     go_wp2_with (at_builtin;refine wpList_app rfl rfl T_ints' rfl (hoR.alloc _) rfl (Sl.new _ _ _) rfl (by simp [Value.oneCell']) (by simp only [maxLen];omega) (by omega) ?_;intro A3 c3 w3 ho3 hu3 hat3;have hb3:=(hbr.alloc (.cells #[.int .i64 v] 3)).upd hu3 (fun h=>by have:=HAL.out _ h;omega);have hbR3:=(hbR.alloc (.cells #[.int .i64 v] 3)).upd hu3 (fun h=>by have:=HAL.out _ h;omega);have d03:=hb3.cell 0;have g03:=hb3.frozen 0;obtain ⟨X1,HX1⟩:=nm (w3.setCell ⟨w.heap.size,0,none⟩ (.int .i64 ((nv:Int)+1)));have x1:=HX1.out;have hx1:Blk X1 w.heap.size 40 #[.int .i64 ((nv:Int)+1),.int .i64 op,.int .i64 imm,.int .i64 iv,.slice KA k kc]:=(by rw [←x1];simpa using hb3.set_ 0 (.int .i64 ((nv:Int)+1)));have v1:Upd (·=w.heap.size) w3 X1:=(by rw [←x1];exact updCell _ _ _ _);have hxR:=hbR3.upd v1 (by omega);have k0:=hx1.cell 0;have k1:=hx1.cell 1;have k2:=hx1.cell 2;have k3:=hx1.cell 3;have k4:=hx1.cell 4;have r0:=hxR.cell 0;have r1:=hxR.cell 1;have r2:=hxR.cell 2;have r3:=hxR.cell 3;have r4:=hxR.cell 4;have rf:=hxR.frozen)
     rw [set5_eq];refine bodyPost_ret (results_cell_row_tmps rfl _ _ (w.heap.size+1) 40 _ (0,0) _ rfl (set5_blk hxR _ _ _ _ _) Tryz.underlying40 rfl (by kernel_rfl)) rfl ?_;have uS:=set5_upd X1 (w.heap.size+1) (.int .i64 ((nv:Int)+1)) (.int .i64 op) (.int .i64 imm) (.int .i64 iv) (.slice KA k kc)
     have hat4:∀i,At A3 i→At A i∨i=wr.heap.size+1:=fun i h=>by simpa using hat3 i h
     have hal:Upd Non wr (wr.alloc (.cells #[.int .i64 v] 3)):=Upd.refl.alloc _
     have u3X:Upd (fun i=>i=w.heap.size∨i=w.heap.size+1) w3 (set5 X1 (w.heap.size+1) (.int .i64 ((nv:Int)+1)) (.int .i64 op) (.int .i64 imm) (.int .i64 iv) (.slice KA k kc)):=(v1.mono (fun _ _ h=>.inl h)).trans uS (fun _ _ h=>.inr h)
     have UF:Upd (fun i=>At A i∨i=w.heap.size∨i=w.heap.size+1) W2 (set5 X1 (w.heap.size+1) (.int .i64 ((nv:Int)+1)) (.int .i64 op) (.int .i64 imm) (.int .i64 iv) (.slice KA k kc)) :=
      ((((hu.then_non hal).mono (fun _ _ f=>f.elim)).trans hu3 (fun _ _ h=>.inl h))).trans u3X (fun _ _ h=>.inr h)
     have hRe:R=(.mk ((nv:Int)+1) op imm iv p.kids,vs++[v],ms):=by rw [HR2.out];unfold numV;rw [HE.out,Hnv.out]
     rw [hRe];have hoF:=ho3.upd u3X (fun i h e=>by rcases hat4 i h with h | h;have:=HAL.out i h;omega;omega);rw [←icells_snoc] at hoF;have hdis:=HNS.out.2.2
     refine ⟨KA,kc,A3,c3,B,d,?_,?_,⟨by simpa [Hnv.out] using hoF,HNS.out.2.1.upd UF (fun i h e=>by
      have h1:=HBL.out i h
      rcases e with e | e
      ·
       exact hdis i e h
      ·
       omega),fun i h hB=>?_⟩,fun i h=>?_,fun i h=>.inl h,(hU0.mono (fun _ _ f=>f.elim)).trans UF (fun i hi h=>by rcases h with h | h;exact .inl h;omega)⟩
     ·
      show _=Ending.returned (.tuple #[.agg #[_,_,_,_,.slice KA p.kids.length kc],.slice _ (vs++[v]).length c3,.slice B ms.length d]);rw [List.length_append,Hnv.out,Hnm.out,Hk.out];rfl
     ·
      refine PtK.swap (PtK.mono (G:=fun i=>(F i∨w.heap.size≤i)∧¬At A3 i∧¬At B i) (fun i _ h=>⟨.inl h.1,fun h3=>?_,(HF0.out i h.1).2⟩) _ _ _ (PtK.upd UF (fun i hi h e=>by
       have h1:=HF0.out i h.1;have h2:=h.2
       rcases e with e | e
       ·
        exact h1.1 e
       ·
        omega) p KA kc hpW)) _ _ _ _
      rcases hat4 i h3 with h3 | h3
      ·
       exact (HF0.out i h.1).1 h3
      ·
       have:=h.2;omega
     ·
      rcases hat4 i h with h | h
      ·
       exact hdis i h hB
      ·
       have:=HBL.out i hB;omega
     ·
      rcases hat4 i h with h | h
      ·
       exact .inl h
      ·
       exact .inr (by omega)
  ·
   have hR:=HNO.out hv vs ms;rw [HR.out] at hR;have HIM:=Lib.hid hnsW.2.1.ints;have HNS:=Lib.hid hnsW;have tv:decide (0<v)=false:=decide_eq_false hv;have HV0:=Lib.hid hv;obtain ⟨iv1,Hiv1⟩:=nm (numI ms iv).1;obtain ⟨msI,HmsI⟩:=nm (numI ms iv).2;rw [Hiv1.out,HmsI.out] at hR
   have HNI:Hid ((iv1,msI)=numI ms iv):=by show _=_;rw [←Hiv1.out,←HmsI.out]
   unfold numI at HNI;have hIl:=numI_len ms iv;rw [HmsI.out,Hnm.out] at hIl;have HR2:=Lib.hid hR;clear HNV HNO hnsW hR hv;go_enter Tryz.func78,Tryz.ntmps78
   go_upto_region 11 with fail
   go_cut [50] (fun t wx=>t=.bool (decide (0<iv))∧W2=wx)
   case first =>
    go_wp2_with fail
    go_meet
    case rel=>exact ⟨rfl,rfl⟩
   case rest =>
   obtain ⟨rfl,rfl⟩:=hcut;obtain ⟨tb,Htb⟩:=nm (decide (0<iv));rw [Htb.out]
   go_upto_if 50 with fail
   go_cut [2,10,11] (fun s2 _ _ wx=>∃(B1:Option Addr) (d1:Nat),s2=.slice B1 msI.length d1∧Hid (NS wx A c vs B1 d1 msI)∧Hid (∀i,At B1 i→At B i∨w.heap.size+2≤i)∧Blk wx w.heap.size 40 #[.int .i64 v,.int .i64 op,.int .i64 imm,.int .i64 iv1,.slice KA k kc]∧Upd (fun i=>At B i∨i=w.heap.size) W2 wx)
   case first =>
    by_cases hiv:0<iv
    ·
     have tiv:tb=true:=by rw [←Htb.out];exact decide_eq_true hiv
     subst tiv;have hni:=HNI.out;rw [if_pos hiv] at hni;have HNI2:=Lib.hid hni;clear hni hiv
     go_wp2_with fail
     go_loopg [10,11] nm_ (fun g s i wr=>∃(j:Nat) (a:Int),Hid (g=nm_ - j)∧j≤nm_∧i=.int .i64 j∧s=.int .i64 a ∧ -1≤a∧a<nm_∧Hid (lastG ms iv 0 (-1)=lastG (ms.drop j) iv j a)∧Upd Non W2 wr)
     case atStart=>exact ⟨0,-1,rfl,by omega,rfl,rfl,by omega,by omega,rfl,Upd.refl⟩
     case round =>
      obtain ⟨j,a,Hg,hj,rfl,rfl,ha1,ha2,HFD,hu⟩:=hrel;have hbr:=hb.upd hu (fun f=>f);have d3:=hbr.cell 3;have g3:=hbr.frozen 3
      by_cases hlt:j<nm_
      ·
       have hjl:j<ms.length:=by rw [Hnm.out];exact hlt
       obtain ⟨ba,oa,hB,_,_,z⟩:=(HIM.out.upd hu (fun _ _ _ f=>f)).cellA hjl
       have HFJ:Hid (lastG ms iv 0 (-1)=lastG (ms.drop (j+1)) iv (j+1) (if ms[j]=iv then (j:Int) else a)):=by show _=_;rw [HFD.out];exact lastG_drop hjl iv a
       generalize ms[j]=y at *;have t1:decide (j<nm_)=true:=decide_eq_true hlt
       have hj0:(0:Int)≤(j:Int):=by omega
       have hjn:(j:Int)<(nm_:Int):=by omega
       subst hB;obtain ⟨wD,HwD⟩:=nm wr.drew
       have uD:Upd Non wr wD:=by rw [←HwD.out];exact Upd.refl.drew
       have dD0:=cell_upd d3 uD (fun f=>f);have zD:=cell_upd z uD (fun f=>f);have HFL:=Lib.hid hlt;have HA1:=Lib.hid ha1;clear hlt ha1
       go_wp2_with fail
       refine wp_region_held_drew (S:=fun w'=>w'.cell? ⟨w.heap.size,3,none⟩=some (.int .i64 iv)∧w'.cell? ⟨ba,oa+j,none⟩=some (.int .i64 y)) (by kernel_rfl) (by rw [HwD.out];exact ⟨dD0,zD⟩) (fun hHeld=>?_)
       rw [HwD.out] at hHeld ⊢
       by_cases hy:y=iv
       ·
        subst hy
        have HFK:Hid (lastG ms y 0 (-1)=lastG (ms.drop (j+1)) y (j+1) (j:Int)):=by show _=_;rw [HFJ.out,if_pos rfl]
        refine wpT 0 ?_
        try simp only [put_y,put_z]
        refine wpT 1 ?_
        try simp only [put_y,put_z]
        refine wpT 2 ?_
        try simp only [put_y,put_z]
        refine wpT 3 ?_
        try simp only [put_y,put_z]
        refine wpT 4 ?_
        try simp only [put_y,put_z]
        refine wpT 5 ?_
        try simp only [put_y,put_z]
        refine wpT 6 ?_
        try simp only [put_y,put_z]
        refine wpAnyH_done (by kernel_rfl) ?_ _;have hltj:=HFL.out
        go_wp2_with fail
        go_roundg (nm_ - (j+1))
        case measure=>rw [Hg.out];omega
        case rel=>exact ⟨j+1,j,rfl,by omega,by go_num,rfl,by omega,hjn,HFK,hu.then_non uD⟩
       ·
        have ty:(y==iv)=false:=by simpa using hy
        have HFK:Hid (lastG ms iv 0 (-1)=lastG (ms.drop (j+1)) iv (j+1) a):=by show _=_;rw [HFJ.out,if_neg hy]
        clear hy;refine wpT 0 ?_
        try simp only [put_y,put_z]
        refine wpT 1 ?_
        try simp only [put_y,put_z]
        refine wpT 2 ?_
        try simp only [put_y,put_z]
        refine wpT 3 ?_
        try simp only [put_y,put_z]
        refine wpT 4 ?_
        try simp only [put_y,put_z]
        refine wpT 5 ?_
        try simp only [put_y,put_z]
        refine wpT 6 ?_
        try simp only [put_y,put_z]
        refine wpAnyH_done (by kernel_rfl) ?_ _;have hltj:=HFL.out
        go_wp2_with fail
        go_roundg (nm_ - (j+1))
        case measure=>rw [Hg.out];omega
        case rel=>exact ⟨j+1,a,rfl,by omega,by go_num,rfl,HA1.out,ha2,HFK,hu.then_non uD⟩
      ·
       obtain rfl:nm_=j:=by omega
       have HE:Hid (lastG ms iv 0 (-1)=a):=by show _=_;rw [HFD.out,List.drop_of_length_le (by rw [Hnm.out];exact Nat.le_refl _)];rfl
       have t1:decide (nm_<nm_)=false:=by simp
       rw [HE.out] at HNI2;have hbm:=HNS.out.upd hu (fun _ _ f=>f) (fun _ _ f=>f);have hsu:=hu.size
       by_cases h0:a<0
       ·
        have t2:decide (a<0)=true:=decide_eq_true h0;have hni:=HNI2.out;rw [if_pos h0,Hnm.out] at hni;have HI1:Hid (iv1=(nm_:Int)+1):=congrArg Prod.fst hni;have HI2:Hid (msI=ms++[iv]):=congrArg Prod.snd hni;have hoR:=hbm.2.1;rw [Hnm.out] at hoR;have HBM:=Lib.hid hbm;clear hni h0 hbm
        go_wp2_with (at_builtin;refine wpList_app rfl rfl T_ints' rfl (hoR.alloc _) rfl (Sl.new _ _ _) rfl (by simp [Value.oneCell']) (by simp only [maxLen];omega) (by omega) ?_;intro B3 d3' w3 ho3 hu3 hat3;have hb3:=(hbr.alloc (.cells #[.int .i64 iv] 3)).upd hu3 (fun h=>by have:=HBL.out _ h;omega);have d03:=hb3.cell 3;have g03:=hb3.frozen 3)
        go_meet
        case rel =>
         have v1:Upd (·=w.heap.size) w3 (w3.setCell ⟨w.heap.size,3,none⟩ (.int .i64 ((nm_:Int)+1))):=updCell _ _ _ _
         have hx1:Blk (w3.setCell ⟨w.heap.size,3,none⟩ (.int .i64 ((nm_:Int)+1))) w.heap.size 40 #[.int .i64 v,.int .i64 op,.int .i64 imm,.int .i64 iv1,.slice KA k kc]:=by
          rw [HI1.out];simpa using hb3.set_ 3 (.int .i64 ((nm_:Int)+1))
         have hat4:∀i,At B3 i→At B i∨i=wr.heap.size+1:=fun i h=>by simpa using hat3 i h
         have hal:Upd Non wr (wr.alloc (.cells #[.int .i64 iv] 3)):=Upd.refl.alloc _;have hdis:=HNS.out.2.2
         refine ⟨B3,d3',by rw [HI2.out,List.length_append,Hnm.out];rfl,⟨((HBM.out.1.alloc _).upd hu3 hdis).upd v1 (fun i h e=>by have:=HAL.out i h;omega),?_,fun i h hB=>?_⟩,fun i h=>?_,hx1,((hu.then_non hal).mono (fun _ _ f=>f.elim)).trans (hu3.mono (fun _ _ h=>.inl h)) (fun _ _ h=>h) |>.trans v1 (fun _ _ h=>.inr h)⟩
         ·
          have h1:=ho3.upd v1 (fun i h e=>by rcases hat4 i h with h | h;have:=HBL.out i h;omega;omega);rw [←icells_snoc] at h1;rw [HI2.out]
          simpa [Hnm.out] using h1
         ·
          rcases hat4 i hB with h3 | h3
          ·
           exact hdis i h h3
          ·
           have:=HAL.out i h;omega
         ·
          rcases hat4 i h with h3 | h3
          ·
           exact .inl h3
          ·
           exact .inr (by omega)
       ·
        have t2:decide (a<0)=false:=decide_eq_false h0;have hni:=HNI2.out;rw [if_neg h0] at hni;have HI1:Hid (iv1=a+1):=congrArg Prod.fst hni;have HI2:Hid (msI=ms):=congrArg Prod.snd hni;have HBM:=Lib.hid hbm
        have hsm0:nm_≤1000000:=by omega
        clear hni h0 hbm
        go_wp2_with fail
        go_meet
        case rel =>
         have v1:Upd (·=w.heap.size) wr (wr.setCell ⟨w.heap.size,3,none⟩ (.int .i64 (a+1))):=updCell _ _ _ _
         have hx1:Blk (wr.setCell ⟨w.heap.size,3,none⟩ (.int .i64 (a+1))) w.heap.size 40 #[.int .i64 v,.int .i64 op,.int .i64 imm,.int .i64 iv1,.slice KA k kc]:=by
          rw [HI1.out];simpa using hbr.set_ 3 (.int .i64 (a+1))
         refine ⟨B,d,by rw [HI2.out,Hnm.out],?_,fun i h=>.inl h,hx1,(hu.mono (fun _ _ f=>f.elim)).trans v1 (fun _ _ h=>.inr h)⟩;rw [HI2.out];exact HBM.out.upd v1 (fun i h e=>by have:=HAL.out i h;omega) (fun i h e=>by have:=HBL.out i h;omega)
    ·
     have tiv:tb=false:=by rw [←Htb.out];exact decide_eq_false hiv
     subst tiv;have hni:=HNI.out;rw [if_neg hiv] at hni;have h1:iv1=iv:=congrArg Prod.fst hni;have h2:msI=ms:=congrArg Prod.snd hni;subst h1 h2;clear hiv hni
     go_wp2_with fail
     go_meet
     case rel=>exact ⟨B,d,by rw [Hnm.out],HNS,fun i h=>.inl h,hb,Upd.refl⟩
   case rest =>
   obtain ⟨B0,d0,rfl,hns0,hat0,hb0,hu0⟩:=hcut;obtain ⟨w1,rfl⟩:∃w1:World,w1=wc:=⟨_,rfl⟩;have hbR0:=hb2.upd hu0 (fun h=>by rcases h with h | h;have:=HBL.out _ h;omega;omega)
   have hpK0:=PtK.upd hu0 (fun i hi h e=>by
    have h1:=HF0.out i h.1;have h2:=h.2
    rcases e with e | e
    ·
     exact h1.2 e
    ·
     omega) p KA kc hpW
   have c4:=hb0.cell 4;have hs1:=hu0.size;clear hb hb2 hpW c0 c3 e0 e2;obtain ⟨w2,Hw2⟩:=nm (w1.alloc (.cells #[] 40))
   have uw2:Upd Non w1 w2:=by rw [←Hw2.out];exact Upd.refl.alloc _
   have hsw2:w2.heap.size=w1.heap.size+1:=by rw [←Hw2.out];simp
   have hK0:Own w2 40 5 (some ⟨w1.heap.size,0,none⟩) 0 0 []:=Own.mk_ (cur:=#[]) (by rw [←Hw2.out];exact Blk.new _ _ _) (by omega) (by simp [maxLen]) rfl rfl
   obtain ⟨F0,HF0e⟩:∃F0:Nat→Prop,Hid (F0=fun i=>F i∧i<w.heap.size):=⟨_,rfl⟩;have HL:=Lib.hid (fun (ks:List Pt)=>numL_lens ks vs msI)
   have hml:msI.length≤ms.length+1:=by rw [Hnm.out];exact hIl
   go_wp2_with fail
   rw [Hw2.out]
   go_loopg [1,2,12,13,14] k (fun g s1 s2 s12 i _ wr=>∃(j:Nat) (A1:Option Addr) (c1:Nat) (B1:Option Addr) (d1:Nat) (KS:Option Addr) (ks:Nat) (L:List Pt) (vs1 ms1:List Int),
    Hid (g=k - j)∧j≤k∧s1=.slice A1 vs1.length c1∧s2=.slice B1 ms1.length d1∧s12=.slice KS j ks∧i=.int .i64 j ∧
    Hid ((L,vs1,ms1)=numL (p.kids.take j) vs msI)∧Hid (NS wr A1 c1 vs1 B1 d1 ms1) ∧
    Hid (PtO wr (fun i=>(F0 i∨w.heap.size+2≤i)∧¬At A1 i∧¬At B1 i) KS j ks L) ∧
    Hid (∀i,At A1 i→At A i∨w1.heap.size≤i)∧Hid (∀i,At B1 i→At B0 i∨w1.heap.size≤i)∧Hid (∀i,At KS i→w1.heap.size≤i∧¬At A1 i∧¬At B1 i) ∧
    Upd (fun i=>At A i∨At B0 i) w1 wr)
   case atStart =>
    refine ⟨0,A,c,B0,d0,_,0,[],vs,msI,rfl,by omega,by rw [Hnv.out],rfl,rfl,rfl,rfl,hns0.upd uw2 (fun _ _ f=>f) (fun _ _ f=>f),⟨rfl,_,hK0,PtCells.nil⟩,fun i h=>.inl h,fun i h=>.inl h,fun i h=>?_,uw2.mono (fun _ _ f=>f.elim)⟩
    rw [At.some_] at h;subst h;refine ⟨by omega,fun hA=>?_,fun hB=>?_⟩
    ·
     have:=HAL.out _ hA;omega
    ·
     have:=hns0.2.1.lt hB;omega
   case round =>
    obtain ⟨j,A1,c1,B1,d1,KS,ks,L,vs1,ms1,Hg,hj,rfl,rfl,rfl,rfl,HN,HNS1,HPO,HA1,HB1,HKS,hu⟩:=hrel
    by_cases hlt:j<k
    ·
     have hjk:j<p.kids.length:=by rw [Hk.out];exact hlt
     have t1:decide (j<k)=true:=decide_eq_true hlt
     have hbr:=hb0.upd hu (fun h=>by
      rcases h with h | h
      ·
       have:=HAL.out _ h;omega
      ·
       rcases hat0.out _ h with h | h
       ·
        have:=HBL.out _ h;omega
       ·
        omega)
     have c4r:=hbr.cell 4;have hsu:=hu.size
     go_upto_region 27 with fail
     obtain ⟨w5,Hw5⟩:=nm (wr.alloc (.cells #[.int .i64 0,.int .i64 0,.int .i64 0,.int .i64 0,.slice none 0 0] 40))
     have u5:Upd Non wr w5:=by rw [←Hw5.out];exact Upd.refl.alloc _
     have hs5:w5.heap.size=wr.heap.size+1:=by rw [←Hw5.out];simp
     have hB5:Blk w5 wr.heap.size 40 #[.int .i64 0,.int .i64 0,.int .i64 0,.int .i64 0,.slice none 0 0]:=by rw [←Hw5.out];exact Blk.new _ _ _
     have hpk:=PtK.upd hu (fun i hi h e=>by
      have h1:=HF0.out i h.1;have h2:=h.2
      rcases e with e | e
      ·
       exact h1.1 e
      ·
       rcases hat0.out _ e with e | e
       ·
        exact h1.2 e
       ·
        omega) _ _ _ hpK0
     have hpk:=PtK.upd u5 (fun _ _ _ f=>f) _ _ _ hpk;obtain ⟨bk,ok,hKA,hFk,hbw,KQ,kq,h0,h1,h2,h3,h4,hqk⟩:=hpk.at_ hjk;have HTK:Hid (p.kids.take (j+1)=p.kids.take j++[p.kids[j]]):=take_snoc_ hjk
     have hqs:p.kids[j].size≤Pt.sizeL (p.kids.take (j+1))∧Pt.sizeL (p.kids.take j)+p.kids[j].size≤Pt.sizeL p.kids:=by
      have e1:=Pt.sizeL_take p.kids j hjk;have e2:=Pt.sizeL_take_le p.kids (j+1);omega
     have CI:=HI.out p.kids[j] (List.getElem_mem hjk) w5 F0 KQ kq A1 c1 B1 d1 vs1 ms1;generalize p.kids[j]=q at *;have hll:=HL.out (p.kids.take j);rw [←HN.out] at hll;have hse:=HS.out;have hnv:=Hnv.out;have hnm:=Hnm.out;have hF0:=HF0e.out
     have hF01:∀i,F0 i→¬At A1 i∧¬At B1 i:=by
      intro i hi;rw [hF0] at hi;refine ⟨fun h=>?_,fun h=>?_⟩
      ·
       rcases HA1.out i h with h | h
       ·
        exact (HF0.out i hi.1).1 h
       ·
        have:=hi.2;omega
      ·
       rcases HB1.out i h with h | h
       ·
        rcases hat0.out _ h with h | h
        ·
         exact (HF0.out i hi.1).2 h
        ·
         have:=hi.2;omega
       ·
        have:=hi.2;omega
     have hns5:=HNS1.out.upd u5 (fun _ _ f=>f) (fun _ _ f=>f);have C1:=Lib.hid (CI (by rw [hF0];exact hqk) hF01 hns5 (by have:=hll.1;simp only at this;omega) (by have:=hll.2.1;simp only at this;omega))
     have HNE:Hid (numL (p.kids.take (j+1)) vs msI=(L++[(numF q vs1 ms1).1],(numF q vs1 ms1).2)):=by
      show _=_;rw [HTK.out,numL_snoc,←HN.out]
     obtain ⟨Rq,HRq⟩:=nm (numF q vs1 ms1);rw [HRq.out] at C1 HNE;have HQ:=Lib.hid hqk;have c4r:=hbr.upd u5 (fun f=>f) |>.cell 4;rw [Hw5.out];clear CI hF0 hns5 hqk hpk hll hse hqs hF01 hnv hnm;subst hKA
     go_wp2_with fail
     refine C1.out.mono ?_;rintro e w7 ⟨KA',kc',A2,c2,B2,d2,rfl,hq7,hn7,ha7,hb7,u7⟩;have HQ7:=Lib.hid hq7;have HN7:=Lib.hid hn7;have HA7:=Lib.hid ha7;have HB7:=Lib.hid hb7;obtain ⟨q',Hq'⟩:=nm Rq.1;obtain ⟨vs2,Hvs2⟩:=nm Rq.2.1;obtain ⟨ms2,Hms2⟩:=nm Rq.2.2;rw [Hq'.out] at HQ7;rw [Hvs2.out,Hms2.out] at HN7;rw [Hq'.out,Hvs2.out,Hms2.out]
     have hA5:∀i,At A1 i∨At B1 i→i<wr.heap.size:=fun i h=>by
      rcases h with h | h
      ·
       exact HNS1.out.1.lt h
      ·
       exact HNS1.out.2.1.lt h
     have hB7:=hB5.upd u7 (fun h=>by have:=hA5 _ h;omega);have r0:=hB7.cell 0;have r1:=hB7.cell 1;have r2:=hB7.cell 2;have r3:=hB7.cell 3;have r4:=hB7.cell 4;have rf:=hB7.frozen;have HB7b:=Lib.hid hB7;clear hq7 hn7 ha7 hb7 hB7 h0 h1 h2 h3 h4 c4r hbr;unfold pv
     go_upto_region 28 with fail
     rw [set5_eq];obtain ⟨w8,Hw8⟩:=nm (set5 w7 wr.heap.size (.int .i64 q'.v) (.int .i64 q'.op) (.int .i64 q'.imm) (.int .i64 q'.iv) (.slice KA' q'.kids.length kc'))
     have u8:Upd (·=wr.heap.size) w7 w8:=by rw [←Hw8.out];exact set5_upd _ _ _ _ _ _ _
     have b8:Blk w8 wr.heap.size 40 #[.int .i64 q'.v,.int .i64 q'.op,.int .i64 q'.imm,.int .i64 q'.iv,.slice KA' q'.kids.length kc']:=by rw [←Hw8.out];exact set5_blk HB7b.out _ _ _ _ _
     rw [Hw8.out];have s0:=b8.cell 0;have s1:=b8.cell 1;have s2:=b8.cell 2;have s3:=b8.cell 3;have s4:=b8.cell 4;have hs7:=u7.size;have hs8:=u8.size;have hKS:=HKS.out
     have hKlt:∀i,At KS i→i<wr.heap.size:=fun i h=>HPO.out.lt h
     have hA2w:∀i,At A2 i→At A1 i∨w5.heap.size≤i:=HA7.out;have hB2w:∀i,At B2 i→At B1 i∨w5.heap.size≤i:=HB7.out
     have hn7l:∀i,At A2 i∨At B2 i→i<w7.heap.size:=fun i h=>by
      rcases h with h | h
      ·
       exact HN7.out.1.lt h
      ·
       exact HN7.out.2.1.lt h
     have hp0:=HPO.out.mono (G':=fun i=>(F0 i∨w.heap.size+2≤i)∧¬At A2 i∧¬At B2 i∧¬At A1 i∧¬At B1 i∧i<wr.heap.size) (fun i hi h =>
      ⟨h.1,fun f=>by rcases hA2w i f with f | f;exact h.2.1 f;omega,fun f=>by rcases hB2w i f with f | f;exact h.2.2 f;omega,h.2.1,h.2.2,hi⟩)
     have hp8:=(((hp0.upd u5 (fun _ _ f=>f) (fun _ _ _ f=>f)).upd u7 (fun i h e=>by rcases e with e | e;exact (hKS i h).2.1 e;exact (hKS i h).2.2 e) (fun i _ h e=>by
      rcases e with e | e
      ·
       exact h.2.2.2.1 e
      ·
       exact h.2.2.2.2.1 e)).upd u8 (fun i h e=>by have:=hKlt i h;omega) (fun i _ h e=>by have:=h.2.2.2.2.2;omega)).mono (G':=fun i=>(F0 i∨w.heap.size+2≤i)∧¬At A2 i∧¬At B2 i) (fun i _ h=>⟨h.1,h.2.1,h.2.2.1⟩)
     have hF0w:∀i,F0 i→i<w.heap.size:=fun i h=>by rw [HF0e.out] at h;exact h.2
     have hq8:PtK w8 (fun i=>((F0 i∨w.heap.size+2≤i)∧¬At A2 i∧¬At B2 i)∧¬At KS i) q' KA' kc' :=
      PtK.mono (fun i _ h=>⟨⟨by rcases h.1 with h | h;exact .inl h;exact .inr (by omega),h.2.1,h.2.2⟩,fun f=>by
       have h3:=(hKS i f).1;have h4:=hKlt i f
       rcases h.1 with h | h
       ·
        have:=hF0w i h;omega
       ·
        omega⟩) _ _ _ (PtK.upd u8 (fun i hi h e=>by
        rcases h.1 with h | h
        ·
         have:=hF0w i h;omega
        ·
         omega) _ _ _ HQ7.out)
     have hn8:=HN7.out.upd u8 (fun i h e=>by rcases hA2w i h with h | h;have:=hA5 i (.inl h);omega;omega) (fun i h e=>by rcases hB2w i h with h | h;have:=hA5 i (.inr h);omega;omega)
     obtain ⟨hnL,cs,ho8,hc8⟩:=id hp8;have HP8:=Lib.hid hp8;have HC8:=Lib.hid hc8;have HQ8:=Lib.hid hq8;have HN8:=Lib.hid hn8;have HA2w:=Lib.hid hA2w;have HB2w:=Lib.hid hB2w;have HKSb:=Lib.hid hKS;have HKlt:=Lib.hid hKlt;have HF0w:=Lib.hid hF0w;have HA5:=Lib.hid hA5;have Hn7l:=Lib.hid hn7l
     clear hp0 hp8 hc8 hq8 hn8 hA2w hB2w hKS hKlt hF0w hA5 hn7l b8 hnL r0 r1 r2 r3 r4 rf
     go_wp2_with (at_builtin;refine wpList_app rfl rfl T_pats rfl (ho8.alloc _) rfl (Sl.new _ _ _) rfl (by simp [Value.oneCell']) (by simp only [maxLen];omega) (by omega) ?_;intro A9 c9 w9 ho9 hu9 hat9)
     have hal:Upd Non w8 (w8.alloc (.cells #[.int .i64 q'.v,.int .i64 q'.op,.int .i64 q'.imm,.int .i64 q'.iv,.slice KA' q'.kids.length kc'] 40)):=Upd.refl.alloc _
     have hat9b:∀i,At A9 i→At KS i∨i=w8.heap.size+1:=fun i h=>by simpa using hat9 i h
     have hpa:=HP8.out.upd hal (fun _ _ f=>f) (fun _ _ _ f=>f)
     have hp9:=PtO.snoc (G':=fun i=>(F0 i∨w.heap.size+2≤i)∧¬At A2 i∧¬At B2 i) hpa (HC8.out.mono hal (fun _ _ _ f=>f) (fun _ _ h=>h)) (PtK.upd hal (fun _ _ _ f=>f) _ _ _ HQ8.out) ho9 hu9 hat9 (fun _ _ h=>h)
     have hn9:=(HN8.out.upd hal (fun _ _ f=>f) (fun _ _ f=>f)).upd hu9 (fun i h e=>by
      rcases HA2w.out i h with h | h
      ·
       exact (HKSb.out i e).2.1 h
      ·
       have:=HKlt.out i e;omega) (fun i h e=>by
      rcases HB2w.out i h with h | h
      ·
       exact (HKSb.out i e).2.2 h
      ·
       have:=HKlt.out i e;omega)
     have HU9:Upd (fun i=>At A i∨At B0 i) w1 w9:=by
      refine Upd.trans (Upd.then_non (Upd.trans (Upd.trans (hu.then_non u5) u7 ?_) u8 ?_) hal) hu9 ?_
      ·
       intro i hi h
       rcases h with h | h
       ·
        rcases HA1.out i h with h | h
        ·
         exact .inl h
        ·
         omega
       ·
        rcases HB1.out i h with h | h
        ·
         exact .inr h
        ·
         omega
      ·
       intro i hi h;omega
      ·
       intro i hi h;have:=(HKSb.out i h).1;omega
     have HN1:Hid ((L++[q'],vs2,ms2)=numL (p.kids.take (j+1)) vs msI):=by
      show _=_;rw [HNE.out,←Hq'.out,←Hvs2.out,←Hms2.out]
     have HN9:=Lib.hid hn9;have HP9:=Lib.hid hp9
     have HA9:Hid (∀i,At A2 i→At A i∨w1.heap.size≤i):=fun i h=>by
      rcases HA2w.out i h with h | h
      ·
       exact HA1.out i h
      ·
       exact .inr (by omega)
     have HB9:Hid (∀i,At B2 i→At B0 i∨w1.heap.size≤i):=fun i h=>by
      rcases HB2w.out i h with h | h
      ·
       exact HB1.out i h
      ·
       exact .inr (by omega)
     have HK9:Hid (∀i,At A9 i→w1.heap.size≤i∧¬At A2 i∧¬At B2 i):=fun i h=>by
      rcases hat9b i h with h | h
      ·
       have h1:=HKSb.out i h;have h2:=HKlt.out i h;refine ⟨h1.1,fun f=>?_,fun f=>?_⟩
       ·
        rcases HA2w.out i f with f | f
        ·
         exact h1.2.1 f
        ·
         omega
       ·
        rcases HB2w.out i f with f | f
        ·
         exact h1.2.2 f
        ·
         omega
      ·
       refine ⟨by omega,fun f=>?_,fun f=>?_⟩
       ·
        have:=Hn7l.out i (.inl f);omega
       ·
        have:=Hn7l.out i (.inr f);omega
     clear hn9 hp9 hpa ho9 hu9 hat9 hat9b ho8
     go_roundg (k - (j+1))
     case measure=>rw [Hg.out];omega
     case rel=>exact ⟨j+1,A2,c2,B2,d2,A9,c9,_,vs2,ms2,rfl,by omega,rfl,rfl,rfl,by go_num,HN1,HN9,HP9,HA9,HB9,HK9,HU9⟩
    ·
     obtain rfl:k=j:=by omega
     have HTK:Hid (p.kids.take k=p.kids):=List.take_of_length_le (by rw [Hk.out];exact Nat.le_refl _);rw [HTK.out] at HN
     have t1:decide (k<k)=false:=by simp
     have hbox:∀i,At A i∨At B0 i→i≠w.heap.size∧i≠w.heap.size+1:=fun i h=>by
      rcases h with h | h
      ·
       have:=HAL.out _ h;omega
      ·
       rcases hat0.out _ h with h | h
       ·
        have:=HBL.out _ h;omega
       ·
        omega
     have hbr:=hb0.upd hu (fun h=>(hbox _ h).1 rfl);have hbR:=hbR0.upd hu (fun h=>(hbox _ h).2 rfl);have c4r:=hbr.cell 4;have f4r:=hbr.frozen 4;obtain ⟨X1,HX1⟩:=nm (wr.setCell ⟨w.heap.size,4,none⟩ (.slice KS k ks));have x1:=HX1.out
     have hx1:Blk X1 w.heap.size 40 #[.int .i64 v,.int .i64 op,.int .i64 imm,.int .i64 iv1,.slice KS k ks]:=by rw [←x1];simpa using hbr.set_ 4 (.slice KS k ks)
     have v1:Upd (·=w.heap.size) wr X1:=by rw [←x1];exact updCell _ _ _ _
     have hxR:=hbR.upd v1 (by omega);have k0:=hx1.cell 0;have k1:=hx1.cell 1;have k2:=hx1.cell 2;have k3:=hx1.cell 3;have k4:=hx1.cell 4;have r0:=hxR.cell 0;have r1:=hxR.cell 1;have r2:=hxR.cell 2;have r3:=hxR.cell 3;have r4:=hxR.cell 4;have rf:=hxR.frozen;have HXR:=Lib.hid hxR;have Hbox:=Lib.hid hbox;clear hbox hxR hbr hbR hx1
     go_wp2_with fail
     rw [set5_eq]
     refine bodyPost_ret (results_cell_row_tmps rfl _ _ (w.heap.size+1) 40 _ (0,0) _ rfl (set5_blk HXR.out _ _ _ _ _) Tryz.underlying40 rfl (by kernel_rfl)) rfl ?_
     have uS:=set5_upd X1 (w.heap.size+1) (.int .i64 v) (.int .i64 op) (.int .i64 imm) (.int .i64 iv1) (.slice KS k ks);obtain ⟨X2,HX2⟩:=nm (set5 X1 (w.heap.size+1) (.int .i64 v) (.int .i64 op) (.int .i64 imm) (.int .i64 iv1) (.slice KS k ks));rw [HX2.out] at uS ⊢
     have UX:Upd (fun i=>i=w.heap.size∨i=w.heap.size+1) wr X2:=(v1.mono (fun _ _ h=>.inl h)).trans uS (fun _ _ h=>.inr h);have hlen:=numL_len p.kids vs msI;rw [←HN.out,Hk.out] at hlen;simp only at hlen
     have hRe:R=(.mk v op imm iv1 L,vs1,ms1):=by rw [HR2.out,←HN.out]
     have hF0w:∀i,F0 i→i<w.heap.size:=fun i h=>by rw [HF0e.out] at h;exact h.2
     have hF0F:∀i,F0 i→F i:=fun i h=>by rw [HF0e.out] at h;exact h.1
     have hA1:∀i,At A1 i→i≠w.heap.size∧i≠w.heap.size+1:=fun i h=>by
      rcases HA1.out i h with h | h
      ·
       have:=HAL.out _ h;omega
      ·
       omega
     have hB1:∀i,At B1 i→(At B i∨w.heap.size+2≤i):=fun i h=>by
      rcases HB1.out i h with h | h
      ·
       exact hat0.out _ h
      ·
       exact .inr (by omega)
     have hB1n:∀i,At B1 i→i≠w.heap.size∧i≠w.heap.size+1:=fun i h=>by
      rcases hB1 i h with h | h
      ·
       have:=HBL.out _ h;omega
      ·
       omega
     have hpr:=HPO.out.mono (G':=fun i=>(F0 i∨w.heap.size+2≤i)∧¬At A1 i∧¬At B1 i) (fun _ _ h=>h)
     have hp2:=hpr.upd UX (fun i h e=>by have:=(HKS.out i h).1;omega) (fun i _ h e=>by
      rcases h.1 with h | h
      ·
       have:=hF0w i h;omega
      ·
       omega)
     rw [hRe]
     refine ⟨KS,ks,A1,c1,B1,d1,?_,?_,HNS1.out.upd UX (fun i h e=>by have:=hA1 i h;omega) (fun i h e=>by have:=hB1n i h;omega),fun i h=>?_,fun i h=>?_,?_⟩
     ·
      show _=Ending.returned (.tuple #[.agg #[_,_,_,_,.slice KS L.length ks],.slice _ vs1.length _,.slice _ ms1.length _]);rw [hlen];rfl
     ·
      exact hp2.view (fun i h=>⟨.inr (by have:=(HKS.out i h).1;omega),(HKS.out i h).2⟩) (fun i _ h=>⟨by
       rcases h.1 with h | h
       ·
        exact .inl (hF0F i h)
       ·
        exact .inr (by omega),h.2⟩) _ _ _ _
     ·
      rcases HA1.out i h with h | h
      ·
       exact .inl h
      ·
       exact .inr (by omega)
     ·
      rcases hB1 i h with h | h
      ·
       exact .inl h
      ·
       exact .inr (by omega)
     ·
      have h1:Upd (fun i=>At A i∨At B i) w w1:=(hU0.mono (fun _ _ f=>f.elim)).trans hu0 (fun i h e=>by
       rcases e with e | e
       ·
        exact .inr e
       ·
        omega)
      have h2:=h1.trans hu (fun i h e=>by
       rcases e with e | e
       ·
        exact .inl e
       ·
        rcases hat0.out i e with e | e
        ·
         exact .inr e
        ·
         omega)
      exact h2.trans UX (fun i h e=>by omega)
theorem NS.none_ (w:World):NS w none 0 [] none 0 []:=⟨Own.none_,Own.none_,fun _ h=>(At.none_ h).elim⟩
theorem Numbered_c (p:Pt) (w:World) (F:Nat→Prop) (KA:Option Addr) (kc:Nat) (hp:PtK w F p KA kc) (hs:p.size≤1000000) :
  Calls Tryz.prog 35 #[pv p KA kc] w fun e w'=>∃(KA':Option Addr) (kc':Nat),e=.returned (.tuple #[pv (numF p [] []).1 KA' kc',.int .i64 (numF p [] []).2.1.length,.int .i64 (numF p [] []).2.2.length]) ∧
   PtK w' (fun k=>F k∨w.heap.size≤k) (numF p [] []).1 KA' kc'∧Upd Non w w':=by
 have hp1:=PtK.mono (G:=fun k=>F k∧k<w.heap.size) (fun k hk h=>⟨h,hk⟩) p KA kc hp;obtain ⟨W,HW⟩:=nm (w.alloc (.cells #[.int .i64 p.v,.int .i64 p.op,.int .i64 p.imm,.int .i64 p.iv,.slice KA p.kids.length kc] 40))
 have hU:Upd Non w W:=by rw [←HW.out];exact Upd.refl.alloc _
 have hb:Blk W w.heap.size 40 #[.int .i64 p.v,.int .i64 p.op,.int .i64 p.imm,.int .i64 p.iv,.slice KA p.kids.length kc]:=by rw [←HW.out];exact Blk.new _ _ _
 have hsW:W.heap.size=w.heap.size+1:=by rw [←HW.out];simp
 obtain ⟨W2,HW2⟩:=nm (W.alloc (.cells #[.int .i64 0,.int .i64 0,.int .i64 0,.int .i64 0,.slice none 0 0] 40))
 have hU2:Upd Non W W2:=by rw [←HW2.out];exact Upd.refl.alloc _
 have hb2:Blk W2 (w.heap.size+1) 40 #[.int .i64 0,.int .i64 0,.int .i64 0,.int .i64 0,.slice none 0 0]:=by rw [←HW2.out,←hsW];exact Blk.new _ _ _
 have hsW2:W2.heap.size=w.heap.size+2:=by rw [←HW2.out];simp [hsW]
 have hb:=hb.upd hU2 (fun f=>f);have hU0:=hU.then_non hU2;have e0:=HW.out;have e2:=HW2.out;have hpW:=PtK.upd hU0 (fun _ _ _ f=>f) p KA kc hp1;have hls:=numF_len p [] [];have C:=Lib.hid (numbered_c p W2 _ KA kc none 0 none 0 [] [] hpW (fun _ _=>⟨At.none_,At.none_⟩) (NS.none_ _) (by simpa using hs) (by simpa using hs));simp only [List.length_nil,Nat.zero_add] at hls
 have c0:=hb.cell 0;have c1:=hb.cell 1;have c2:=hb.cell 2;have c3:=hb.cell 3;have c4:=hb.cell 4;have f0:=hb.frozen;unfold pv at C ⊢;go_enter Tryz.func35,Tryz.ntmps35
 go_wp2_with fail
 refine C.out.mono ?_;rintro e w3 ⟨KA',kc',A',c',B',d',rfl,hp3,hn3,-,-,hu3⟩;obtain ⟨R,HR⟩:=nm (numF p [] []);rw [HR.out] at hp3 hn3 hls ⊢;unfold pv;obtain ⟨q,Hq⟩:=nm R.1;obtain ⟨a,Ha⟩:=nm R.2.1.length;obtain ⟨b,Hb⟩:=nm R.2.2.length;rw [Hq.out] at hp3 ⊢;rw [Ha.out,Hb.out]
 have ha:a≤1000000:=by rw [←Ha.out];omega
 have hbl:b≤1000000:=by rw [←Hb.out];omega
 have hu3s:=hu3.size;have hbx:=hb2.upd hu3 (fun h=>by rcases h with h | h <;> exact At.none_ h);clear hn3 hls c0 c1 c2 c3 c4 f0 hb2 C
 go_upto_region 2 with fail
 have hal:Upd Non w3 (w3.alloc (.cells #[.int .i64 q.v,.int .i64 q.op,.int .i64 q.imm,.int .i64 q.iv,.slice KA' q.kids.length kc'] 40)):=Upd.refl.alloc _;have b5:=Blk.new w3 40 #[.int .i64 q.v,.int .i64 q.op,.int .i64 q.imm,.int .i64 q.iv,.slice KA' q.kids.length kc']
 obtain ⟨w5,Hw5⟩:=nm (w3.alloc (.cells #[.int .i64 q.v,.int .i64 q.op,.int .i64 q.imm,.int .i64 q.iv,.slice KA' q.kids.length kc'] 40));rw [Hw5.out] at hal b5 ⊢;have s4:=hal.size;have hbx:=hbx.upd hal (fun f=>f);have c0:=b5.cell 0;have c1:=b5.cell 1;have c2:=b5.cell 2;have c3:=b5.cell 3;have c4:=b5.cell 4;have r0:=hbx.cell 0;have r1:=hbx.cell 1;have r2:=hbx.cell 2
 have r3:=hbx.cell 3;have r4:=hbx.cell 4;have rf:=hbx.frozen;have HB:=Lib.hid hbx;have HP:=Lib.hid hp3;clear hbx b5 hp3
 go_wp2_with fail
 rw [set5_eq];refine bodyPost_ret (results_cell_row_tmps rfl _ _ (w.heap.size+1) 40 _ (0,0) _ rfl (set5_blk HB.out _ _ _ _ _) Tryz.underlying40 rfl (by kernel_rfl)) rfl ?_;have u6:=set5_upd w5 (w.heap.size+1) (.int .i64 q.v) (.int .i64 q.op) (.int .i64 q.imm) (.int .i64 q.iv) (.slice KA' q.kids.length kc');have s6:=u6.size;rw [HR.out,Hq.out,Ha.out,Hb.out]
 refine ⟨KA',kc',rfl,?_,?_⟩
 ·
  exact PtK.mono (fun k _ h=>by rcases h with h | h;exact .inl h.1;exact .inr (by omega)) _ _ _ (PtK.upd u6 (fun k hk h e=>by omega) _ _ _ (PtK.upd hal (fun _ _ _ f=>f) _ _ _ (PtK.mono (G:=fun k=>(F k∧k<w.heap.size)∨w.heap.size+2≤k) (fun k hk h=>by rcases h.1 with h | h;exact .inl h;exact .inr (by omega)) _ _ _ HP.out)))
 ·
  have h1:=(hU0.then_non (hu3.mono (fun _ _ h=>by rcases h with h | h <;> exact (At.none_ h).elim))).then_non hal;exact h1.trans u6 (fun k hk h=>by omega)
theorem tdiv_i64 {x k:Int} (h:I64 x) (hk:1≤k):I64 (x.tdiv k):=by
 unfold I64 at h ⊢
 by_cases h0:0≤x
 ·
  have h1:=Int.tdiv_nonneg h0 (show 0≤k by omega);have h2:=Int.tdiv_le_self k h0;omega
 ·
  have e:x.tdiv k = -((-x).tdiv k):=by rw [Int.neg_tdiv,Int.neg_neg]
  have h1:=Int.tdiv_nonneg (show 0 ≤ -x by omega) (show 0≤k by omega);have h2:=Int.tdiv_le_self k (show 0 ≤ -x by omega);omega
theorem m2_facts (m:Nat):∃r:Nat,(m:Int).tmod 2=(r:Int)∧(m:Int) % 2=(r:Int)∧r<2∧(r:Int)<2:=⟨m % 2,by rw [Int.tmod_eq_emod_of_nonneg (by omega)];omega,by omega,by omega,by omega⟩
theorem m5_facts (m:Nat):∃r:Nat,(m:Int).tmod 5=(r:Int)∧(m:Int) % 5=(r:Int)∧r<5∧(r:Int)<5:=⟨m % 5,by rw [Int.tmod_eq_emod_of_nonneg (by omega)];omega,by omega,by omega,by omega⟩
set_option maxRecDepth 100000 in
set_option maxHeartbeats 4000000 in
theorem rdPattern_c (n:Nat) (h1:1≤n) (h2:n≤1000) (st:Bool):∀(f:Nat),f≤3→∀(w:World) (F:Nat→Prop) (p:Nat) (xs:List Int) (s:Int),s=1∨s=2→(∀k,F k→k≠p)→Rd w F p xs →
  Calls Tryz.prog 36 #[.pointer (some ⟨p,0,none⟩),.int .i64 s,.int .i64 (3 - f:Nat),.int .i64 n,.bool st] w fun e w'=>∃(KA:Option Addr) (kc:Nat),e=.returned (pv (patF n st f s xs).1 KA kc)∧PtK w' (fun k=>w.heap.size≤k) (patF n st f s xs).1 KA kc∧Rd w' F p (patF n st f s xs).2∧Upd (·=p) w w':=by
 intro f
 induction f with
 | zero =>
  intro _ w F p xs s hs hF hr;have hlt:=hr.lt;have HX:=Lib.hid hr.i64
  have hFF:∀k,(F k∧k<w.heap.size)→k≠p:=fun k h=>hF k h.1
  have hrF:=hr.mono (G:=fun k=>F k∧k<w.heap.size) (fun k hk h=>⟨h,hk⟩);obtain ⟨W,HW⟩:=nm (w.alloc (.cells #[.int .i64 0,.int .i64 0,.int .i64 0,.int .i64 0,.slice none 0 0] 40))
  have hU:Upd Non w W:=by rw [←HW.out];exact Upd.refl.alloc _
  have hb:Blk W w.heap.size 40 #[.int .i64 0,.int .i64 0,.int .i64 0,.int .i64 0,.slice none 0 0]:=by rw [←HW.out];exact Blk.new _ _ _
  have hsW:W.heap.size=w.heap.size+1:=by rw [←HW.out];simp
  have e0:=HW.out;have C1:=Lib.hid (rdNext_c hFF (hrF.upd hU (fun _ _ _ f=>f) (fun f=>f)));obtain ⟨Q,HQ0⟩:=nm (patF n st 0 s xs).1;obtain ⟨Y,HY0⟩:=nm (patF n st 0 s xs).2;rw [HQ0.out,HY0.out]
  have HQY:Hid ((Q,Y)=(leafF s true n st (xs.headD 0),xs.tail)):=by show _=_;rw [←HQ0.out,←HY0.out];rfl
  clear hr hrF HQ0 HY0;go_enter Tryz.func36,Tryz.ntmps36
  go_wp2_with fail
  refine C1.out.mono ?_;rintro e w2 ⟨rfl,hr2,hu2⟩;obtain ⟨x,Hx⟩:=nm (xs.headD 0);rw [Hx.out] at HX HQY ⊢;obtain ⟨z,Hz⟩:=nm (wrap64 (x.tdiv 12));have ez:=Hz.out;have C2:=Lib.hid (pick_c x 12 w2 (by omega) (by omega));have C3:=Lib.hid (pick_c z 1000 w2 (by omega) (by omega))
  have HM0:Hid (z=x.tdiv 12):=by
   show _=_;rw [←ez];exact wrap64_of (tdiv_i64 HX.out (by omega))
  obtain ⟨k,Hk⟩:=nm (x % 12)
  have k0:0≤k∧k<12:=by rw [←Hk.out];omega
  obtain ⟨m,hm⟩:∃m:Nat,z % 1000=(m:Int):=Int.eq_ofNat_of_zero_le (by omega)
  have hm1:m<1000:=by omega
  have HM:Hid (x.tdiv 12 % 1000=(m:Int)):=by show _=_;rw [←HM0.out];exact hm
  rw [Hk.out] at C2
  try rw [Hk.out] at HQY
  rw [hm] at C3;clear hm
  go_wp2_with fail
  refine C2.out.mono ?_;rintro e w3 ⟨rfl,rfl⟩
  go_wp2_with fail
  refine C3.out.mono ?_;rintro e w3 ⟨rfl,rfl⟩;have hb2:=hb.upd hu2 (by omega);have HU2:Upd (·=p) w w2:=(hU.mono (T:=(·=p)) (fun _ _ f=>f.elim)).trans hu2 (fun _ _ h=>h);have hs2:=hu2.size;have HS2:=Lib.hid hs2;have HSW:=Lib.hid hsW;have HK0:=Lib.hid k0;clear hb hU C1 C2 C3 hs2 hsW k0;have HQ:Hid (Q=leafF s true n st x):=congrArg Prod.fst HQY.out
  have HY:Hid (Y=xs.tail):=congrArg Prod.snd HQY.out
  by_cases hs2:s=2
  ·
   subst hs2;have c0:=hb2.cell 0;have c1:=hb2.cell 1;have c2:=hb2.cell 2;have c3:=hb2.cell 3;have c4:=hb2.cell 4;have f0:=hb2.frozen;have HL:Hid (Q=.mk 1 0 0 0 []):=HQ.out
   go_wp2_with fail
   rw [set5_eq];refine bodyPost_ret (results_cell_row rfl _ _ w.heap.size 40 _ (0,0) _ rfl (set5_blk hb2 _ _ _ _ _) Tryz.underlying40 rfl (by kernel_rfl)) rfl ?_;have hsW:=HSW.out;have hs2:=HS2.out;refine ⟨none,0,by rw [HL.out];rfl,by rw [HL.out];exact PtK.leaf,?_,HU2.trans (set5_upd _ _ _ _ _ _ _) (fun i hi e=>by omega)⟩;rw [HY.out]
   exact (hr2.upd (set5_upd _ _ _ _ _ _ _) (fun k hk q e=>by have:=q.2;omega) (by omega)).mono (fun k _ h=>h.1)
  ·
   have ts:(s==2)=false:=by simpa using hs2
   by_cases hk0:k=0
   ·
    subst hk0;have hdt:true=true:=rfl;have CW:=Lib.hid (word_c w2 m x (by unfold I64;omega))
    have HL:Hid (Q=.mk 0 1 (wordF m x) 0 []):=by
     show _=_;rw [HQ.out];unfold leafF;rw [if_neg hs2,if_pos ⟨Hk.out,hdt⟩,HM.out]
    obtain ⟨wd,Hwd⟩:=nm (wordF m x);rw [Hwd.out] at HL CW;have HSS:=Lib.hid hs2;clear hs2
    go_wp2_with fail
    refine CW.out.mono ?_;rintro e w3 ⟨rfl,hu3⟩;have hb2:=hb2.upd hu3 (fun f=>f);have hr2:=hr2.upd hu3 (fun _ _ _ f=>f) (fun f=>f);have HU2:=HU2.then_non hu3;have c0:=hb2.cell 0;have c1:=hb2.cell 1;have c2:=hb2.cell 2;have c3:=hb2.cell 3;have c4:=hb2.cell 4;have f0:=hb2.frozen
    go_wp2_with fail
    rw [set5_eq];refine bodyPost_ret (results_cell_row rfl _ _ w.heap.size 40 _ (0,0) _ rfl (set5_blk hb2 _ _ _ _ _) Tryz.underlying40 rfl (by kernel_rfl)) rfl ?_;have hsW:=HSW.out;have hs2:=HS2.out;refine ⟨none,0,by rw [HL.out];rfl,by rw [HL.out];exact PtK.leaf,?_,HU2.trans (set5_upd _ _ _ _ _ _ _) (fun i hi e=>by omega)⟩;rw [HY.out]
    exact (hr2.upd (set5_upd _ _ _ _ _ _ _) (fun k hk q e=>by have:=q.2;omega) (by omega)).mono (fun k _ h=>h.1)
   ·
    have tk:(k==0)=false:=by simpa using hk0
    have hkd:¬(k=0∧true=true):=fun q=>hk0 q.1
    clear hk0;have c0:=hb2.cell 0;have c1:=hb2.cell 1;have c2:=hb2.cell 2;have c3:=hb2.cell 3;have c4:=hb2.cell 4;have f0:=hb2.frozen
    cases st with
    | true =>
     by_cases hg:(1:Int)<(n:Int) - 1
     ·
      have hmn0:0≤(m:Int) % ((n:Int) - 1):=Int.emod_nonneg _ (by omega);have hmn:(m:Int) % ((n:Int) - 1)<(n:Int) - 1:=Int.emod_lt_of_pos _ (by omega)
      have hv:wrap64 (2+(m:Int) % ((n:Int) - 1))=2+(m:Int) % ((n:Int) - 1):=by unfold wrap64;omega
      have HL:Hid (Q=.mk (2+(m:Int) % ((n:Int) - 1)) 0 0 0 []):=by
       show _=_;rw [HQ.out];unfold leafF;rw [if_neg hs2,if_neg (by rw [Hk.out];exact hkd),if_pos rfl,HM.out,if_neg (by omega)]
      have HKD:=Lib.hid hkd;have HSS:=Lib.hid hs2;clear hkd hs2
      go_wp2_with fail
      rw [set5_eq];refine bodyPost_ret (results_cell_row rfl _ _ w.heap.size 40 _ (0,0) _ rfl (set5_blk hb2 _ _ _ _ _) Tryz.underlying40 rfl (by kernel_rfl)) rfl ?_;have hsW:=HSW.out;have hs2:=HS2.out;refine ⟨none,0,by rw [HL.out];rfl,by rw [HL.out];exact PtK.leaf,?_,HU2.trans (set5_upd _ _ _ _ _ _ _) (fun i hi e=>by omega)⟩;rw [HY.out]
      exact (hr2.upd (set5_upd _ _ _ _ _ _ _) (fun k hk q e=>by have:=q.2;omega) (by omega)).mono (fun k _ h=>h.1)
     ·
      have hg2:(n:Int) - 1≤1:=by omega
      have hv:wrap64 2=2:=wrap64_of (by unfold I64;omega)
      have HL:Hid (Q=.mk 2 0 0 0 []):=by
       show _=_;rw [HQ.out];unfold leafF;rw [if_neg hs2,if_neg (by rw [Hk.out];exact hkd),if_pos rfl,HM.out]
       split
       ·
        rw [Int.emod_one];rfl
       ·
        rw [show (n:Int) - 1=1 by omega,Int.emod_one];rfl
      have HKD:=Lib.hid hkd;have HSS:=Lib.hid hs2;clear hkd hs2 hg
      go_wp2_with fail
      rw [set5_eq];refine bodyPost_ret (results_cell_row rfl _ _ w.heap.size 40 _ (0,0) _ rfl (set5_blk hb2 _ _ _ _ _) Tryz.underlying40 rfl (by kernel_rfl)) rfl ?_;have hsW:=HSW.out;have hs2:=HS2.out;refine ⟨none,0,by rw [HL.out];rfl,by rw [HL.out];exact PtK.leaf,?_,HU2.trans (set5_upd _ _ _ _ _ _ _) (fun i hi e=>by omega)⟩;rw [HY.out]
      exact (hr2.upd (set5_upd _ _ _ _ _ _ _) (fun k hk q e=>by have:=q.2;omega) (by omega)).mono (fun k _ h=>h.1)
    | false =>
     have hmn0:0≤(m:Int) % (n:Int):=Int.emod_nonneg _ (by omega);have hmn:(m:Int) % (n:Int)<n:=Int.emod_lt_of_pos _ (by omega)
     have hv:wrap64 (1+(m:Int) % (n:Int))=1+(m:Int) % (n:Int):=by unfold wrap64;omega
     have HL:Hid (Q=.mk (1+(m:Int) % (n:Int)) 0 0 0 []):=by
      show _=_;rw [HQ.out];unfold leafF;rw [if_neg hs2,if_neg (by rw [Hk.out];exact hkd),if_neg (by decide),HM.out]
     have HKD:=Lib.hid hkd;have HSS:=Lib.hid hs2;clear hkd hs2
     go_wp2_with fail
     rw [set5_eq];refine bodyPost_ret (results_cell_row rfl _ _ w.heap.size 40 _ (0,0) _ rfl (set5_blk hb2 _ _ _ _ _) Tryz.underlying40 rfl (by kernel_rfl)) rfl ?_;have hsW:=HSW.out;have hs2:=HS2.out;refine ⟨none,0,by rw [HL.out];rfl,by rw [HL.out];exact PtK.leaf,?_,HU2.trans (set5_upd _ _ _ _ _ _ _) (fun i hi e=>by omega)⟩;rw [HY.out]
     exact (hr2.upd (set5_upd _ _ _ _ _ _ _) (fun k hk q e=>by have:=q.2;omega) (by omega)).mono (fun k _ h=>h.1)
 | succ f ih =>
  intro hf3 w F p xs s hs hF hr;have HI:=Lib.hid (ih (by omega));have hlt:=hr.lt;have HX:=Lib.hid hr.i64
  have hFF:∀k,(F k∧k<w.heap.size)→k≠p:=fun k h=>hF k h.1
  have hrF:=hr.mono (G:=fun k=>F k∧k<w.heap.size) (fun k hk h=>⟨h,hk⟩);obtain ⟨W,HW⟩:=nm (w.alloc (.cells #[.int .i64 0,.int .i64 0,.int .i64 0,.int .i64 0,.slice none 0 0] 40))
  have hU:Upd Non w W:=by rw [←HW.out];exact Upd.refl.alloc _
  have hb:Blk W w.heap.size 40 #[.int .i64 0,.int .i64 0,.int .i64 0,.int .i64 0,.slice none 0 0]:=by rw [←HW.out];exact Blk.new _ _ _
  have hsW:W.heap.size=w.heap.size+1:=by rw [←HW.out];simp
  have e0:=HW.out;have C1:=Lib.hid (rdNext_c hFF (hrF.upd hU (fun _ _ _ f=>f) (fun f=>f)));obtain ⟨Q,HQ0⟩:=nm (patF n st (f+1) s xs).1;obtain ⟨Y,HY0⟩:=nm (patF n st (f+1) s xs).2;rw [HQ0.out,HY0.out]
  have HQY:Hid ((Q,Y)=patF n st (f+1) s xs):=by show _=_;rw [←HQ0.out,←HY0.out]
  obtain ⟨G,HG⟩:=nm (patF n st f);unfold patF at HQY;rw [HG.out] at HQY HI;obtain ⟨dp,Hdp⟩:=nm (3 - (f+1))
  have hdp:dp+1=3 - f:=by rw [←Hdp.out];omega
  have hd2:dp≤2:=by omega
  have HF2:Hid (f≤2):=by show f≤2;omega
  have t0:decide ((2:Int)<(dp:Int))=false:=decide_eq_false (by omega)
  have HDP:Hid (0<dp↔f<2):=by show _↔_;omega
  rw [←hdp] at HI;rw [Hdp.out];clear hr hrF HQ0 HY0 ih hdp hf3;go_enter Tryz.func36,Tryz.ntmps36
  go_wp2_with fail
  refine C1.out.mono ?_;rintro e w2 ⟨rfl,hr2,hu2⟩;obtain ⟨x,Hx⟩:=nm (xs.headD 0);rw [Hx.out] at HX HQY ⊢;obtain ⟨z,Hz⟩:=nm (wrap64 (x.tdiv 12));have ez:=Hz.out;have C2:=Lib.hid (pick_c x 12 w2 (by omega) (by omega));have C3:=Lib.hid (pick_c z 1000 w2 (by omega) (by omega))
  have HM0:Hid (z=x.tdiv 12):=by
   show _=_;rw [←ez];exact wrap64_of (tdiv_i64 HX.out (by omega))
  obtain ⟨k,Hk⟩:=nm (x % 12)
  have k0:0≤k∧k<12:=by rw [←Hk.out];omega
  obtain ⟨m,hm⟩:∃m:Nat,z % 1000=(m:Int):=Int.eq_ofNat_of_zero_le (by omega)
  have hm1:m<1000:=by omega
  have HM:Hid (x.tdiv 12 % 1000=(m:Int)):=by show _=_;rw [←HM0.out];exact hm
  rw [Hk.out] at C2
  try rw [Hk.out] at HQY
  rw [hm] at C3;clear hm
  go_wp2_with fail
  refine C2.out.mono ?_;rintro e w3 ⟨rfl,rfl⟩
  go_wp2_with fail
  refine C3.out.mono ?_;rintro e w3 ⟨rfl,rfl⟩;have hb2:=hb.upd hu2 (by omega);have HU2:Upd (·=p) w w2:=(hU.mono (T:=(·=p)) (fun _ _ f=>f.elim)).trans hu2 (fun _ _ h=>h);have hs2:=hu2.size;have HS2:=Lib.hid hs2;have HSW:=Lib.hid hsW;have HK0:=Lib.hid k0;clear hb hU C1 C2 C3 hs2 hsW k0
  by_cases hk3:k<3
  ·
   have tk3:decide (k<3)=true:=decide_eq_true hk3;rw [if_pos hk3] at HQY;have HQ:Hid (Q=leafF s (decide (f<2)) n st x):=congrArg Prod.fst HQY.out;have HY:Hid (Y=xs.tail):=congrArg Prod.snd HQY.out;clear HQY hk3
   by_cases hs2:s=2
   ·
    subst hs2;have c0:=hb2.cell 0;have c1:=hb2.cell 1;have c2:=hb2.cell 2;have c3:=hb2.cell 3;have c4:=hb2.cell 4;have f0:=hb2.frozen;have HL:Hid (Q=.mk 1 0 0 0 []):=HQ.out
    go_wp2_with fail
    rw [set5_eq];refine bodyPost_ret (results_cell_row rfl _ _ w.heap.size 40 _ (0,0) _ rfl (set5_blk hb2 _ _ _ _ _) Tryz.underlying40 rfl (by kernel_rfl)) rfl ?_;have hsW:=HSW.out;have hs2:=HS2.out;refine ⟨none,0,by rw [HL.out];rfl,by rw [HL.out];exact PtK.leaf,?_,HU2.trans (set5_upd _ _ _ _ _ _ _) (fun i hi e=>by omega)⟩;rw [HY.out]
    exact (hr2.upd (set5_upd _ _ _ _ _ _ _) (fun k hk q e=>by have:=q.2;omega) (by omega)).mono (fun k _ h=>h.1)
   ·
    have ts:(s==2)=false:=by simpa using hs2
    by_cases hk0:k=0
    ·
     subst hk0
     by_cases hf2:f<2
     ·
      have hdt:decide (f<2)=true:=decide_eq_true hf2;have td:decide (0<dp)=true:=decide_eq_true (HDP.out.2 hf2);clear hf2;have CW:=Lib.hid (word_c w2 m x (by unfold I64;omega))
      have HL:Hid (Q=.mk 0 1 (wordF m x) 0 []):=by
       show _=_;rw [HQ.out];unfold leafF;rw [if_neg hs2,if_pos ⟨Hk.out,hdt⟩,HM.out]
      obtain ⟨wd,Hwd⟩:=nm (wordF m x);rw [Hwd.out] at HL CW;have HSS:=Lib.hid hs2;clear hs2
      go_wp2_with fail
      refine CW.out.mono ?_;rintro e w3 ⟨rfl,hu3⟩;have hb2:=hb2.upd hu3 (fun f=>f);have hr2:=hr2.upd hu3 (fun _ _ _ f=>f) (fun f=>f);have HU2:=HU2.then_non hu3;have c0:=hb2.cell 0;have c1:=hb2.cell 1;have c2:=hb2.cell 2;have c3:=hb2.cell 3;have c4:=hb2.cell 4;have f0:=hb2.frozen
      go_wp2_with fail
      rw [set5_eq];refine bodyPost_ret (results_cell_row rfl _ _ w.heap.size 40 _ (0,0) _ rfl (set5_blk hb2 _ _ _ _ _) Tryz.underlying40 rfl (by kernel_rfl)) rfl ?_;have hsW:=HSW.out;have hs2:=HS2.out;refine ⟨none,0,by rw [HL.out];rfl,by rw [HL.out];exact PtK.leaf,?_,HU2.trans (set5_upd _ _ _ _ _ _ _) (fun i hi e=>by omega)⟩;rw [HY.out]
      exact (hr2.upd (set5_upd _ _ _ _ _ _ _) (fun k hk q e=>by have:=q.2;omega) (by omega)).mono (fun k _ h=>h.1)
     ·
      have td:decide (0<dp)=false:=decide_eq_false (fun q=>hf2 (HDP.out.1 q))
      have hkd:¬((0:Int)=0∧decide (f<2)=true):=fun q=>hf2 (of_decide_eq_true q.2)
      clear hf2;have c0:=hb2.cell 0;have c1:=hb2.cell 1;have c2:=hb2.cell 2;have c3:=hb2.cell 3;have c4:=hb2.cell 4;have f0:=hb2.frozen
      cases st with
      | true =>
       by_cases hg:(1:Int)<(n:Int) - 1
       ·
        have hmn0:0≤(m:Int) % ((n:Int) - 1):=Int.emod_nonneg _ (by omega);have hmn:(m:Int) % ((n:Int) - 1)<(n:Int) - 1:=Int.emod_lt_of_pos _ (by omega)
        have hv:wrap64 (2+(m:Int) % ((n:Int) - 1))=2+(m:Int) % ((n:Int) - 1):=by unfold wrap64;omega
        have HL:Hid (Q=.mk (2+(m:Int) % ((n:Int) - 1)) 0 0 0 []):=by
         show _=_;rw [HQ.out];unfold leafF;rw [if_neg hs2,if_neg (by rw [Hk.out];exact hkd),if_pos rfl,HM.out,if_neg (by omega)]
        have HKD:=Lib.hid hkd;have HSS:=Lib.hid hs2;clear hkd hs2
        go_wp2_with fail
        rw [set5_eq];refine bodyPost_ret (results_cell_row rfl _ _ w.heap.size 40 _ (0,0) _ rfl (set5_blk hb2 _ _ _ _ _) Tryz.underlying40 rfl (by kernel_rfl)) rfl ?_;have hsW:=HSW.out;have hs2:=HS2.out;refine ⟨none,0,by rw [HL.out];rfl,by rw [HL.out];exact PtK.leaf,?_,HU2.trans (set5_upd _ _ _ _ _ _ _) (fun i hi e=>by omega)⟩;rw [HY.out]
        exact (hr2.upd (set5_upd _ _ _ _ _ _ _) (fun k hk q e=>by have:=q.2;omega) (by omega)).mono (fun k _ h=>h.1)
       ·
        have hg2:(n:Int) - 1≤1:=by omega
        have hv:wrap64 2=2:=wrap64_of (by unfold I64;omega)
        have HL:Hid (Q=.mk 2 0 0 0 []):=by
         show _=_;rw [HQ.out];unfold leafF;rw [if_neg hs2,if_neg (by rw [Hk.out];exact hkd),if_pos rfl,HM.out]
         split
         ·
          rw [Int.emod_one];rfl
         ·
          rw [show (n:Int) - 1=1 by omega,Int.emod_one];rfl
        have HKD:=Lib.hid hkd;have HSS:=Lib.hid hs2;clear hkd hs2 hg
        go_wp2_with fail
        rw [set5_eq];refine bodyPost_ret (results_cell_row rfl _ _ w.heap.size 40 _ (0,0) _ rfl (set5_blk hb2 _ _ _ _ _) Tryz.underlying40 rfl (by kernel_rfl)) rfl ?_;have hsW:=HSW.out;have hs2:=HS2.out;refine ⟨none,0,by rw [HL.out];rfl,by rw [HL.out];exact PtK.leaf,?_,HU2.trans (set5_upd _ _ _ _ _ _ _) (fun i hi e=>by omega)⟩;rw [HY.out]
        exact (hr2.upd (set5_upd _ _ _ _ _ _ _) (fun k hk q e=>by have:=q.2;omega) (by omega)).mono (fun k _ h=>h.1)
      | false =>
       have hmn0:0≤(m:Int) % (n:Int):=Int.emod_nonneg _ (by omega);have hmn:(m:Int) % (n:Int)<n:=Int.emod_lt_of_pos _ (by omega)
       have hv:wrap64 (1+(m:Int) % (n:Int))=1+(m:Int) % (n:Int):=by unfold wrap64;omega
       have HL:Hid (Q=.mk (1+(m:Int) % (n:Int)) 0 0 0 []):=by
        show _=_;rw [HQ.out];unfold leafF;rw [if_neg hs2,if_neg (by rw [Hk.out];exact hkd),if_neg (by decide),HM.out]
       have HKD:=Lib.hid hkd;have HSS:=Lib.hid hs2;clear hkd hs2
       go_wp2_with fail
       rw [set5_eq];refine bodyPost_ret (results_cell_row rfl _ _ w.heap.size 40 _ (0,0) _ rfl (set5_blk hb2 _ _ _ _ _) Tryz.underlying40 rfl (by kernel_rfl)) rfl ?_;have hsW:=HSW.out;have hs2:=HS2.out;refine ⟨none,0,by rw [HL.out];rfl,by rw [HL.out];exact PtK.leaf,?_,HU2.trans (set5_upd _ _ _ _ _ _ _) (fun i hi e=>by omega)⟩;rw [HY.out]
       exact (hr2.upd (set5_upd _ _ _ _ _ _ _) (fun k hk q e=>by have:=q.2;omega) (by omega)).mono (fun k _ h=>h.1)
    ·
     have tk:(k==0)=false:=by simpa using hk0
     have hkd:¬(k=0∧decide (f<2)=true):=fun q=>hk0 q.1
     clear hk0;have c0:=hb2.cell 0;have c1:=hb2.cell 1;have c2:=hb2.cell 2;have c3:=hb2.cell 3;have c4:=hb2.cell 4;have f0:=hb2.frozen
     cases st with
     | true =>
      by_cases hg:(1:Int)<(n:Int) - 1
      ·
       have hmn0:0≤(m:Int) % ((n:Int) - 1):=Int.emod_nonneg _ (by omega);have hmn:(m:Int) % ((n:Int) - 1)<(n:Int) - 1:=Int.emod_lt_of_pos _ (by omega)
       have hv:wrap64 (2+(m:Int) % ((n:Int) - 1))=2+(m:Int) % ((n:Int) - 1):=by unfold wrap64;omega
       have HL:Hid (Q=.mk (2+(m:Int) % ((n:Int) - 1)) 0 0 0 []):=by
        show _=_;rw [HQ.out];unfold leafF;rw [if_neg hs2,if_neg (by rw [Hk.out];exact hkd),if_pos rfl,HM.out,if_neg (by omega)]
       have HKD:=Lib.hid hkd;have HSS:=Lib.hid hs2;clear hkd hs2
       go_wp2_with fail
       rw [set5_eq];refine bodyPost_ret (results_cell_row rfl _ _ w.heap.size 40 _ (0,0) _ rfl (set5_blk hb2 _ _ _ _ _) Tryz.underlying40 rfl (by kernel_rfl)) rfl ?_;have hsW:=HSW.out;have hs2:=HS2.out;refine ⟨none,0,by rw [HL.out];rfl,by rw [HL.out];exact PtK.leaf,?_,HU2.trans (set5_upd _ _ _ _ _ _ _) (fun i hi e=>by omega)⟩;rw [HY.out]
       exact (hr2.upd (set5_upd _ _ _ _ _ _ _) (fun k hk q e=>by have:=q.2;omega) (by omega)).mono (fun k _ h=>h.1)
      ·
       have hg2:(n:Int) - 1≤1:=by omega
       have hv:wrap64 2=2:=wrap64_of (by unfold I64;omega)
       have HL:Hid (Q=.mk 2 0 0 0 []):=by
        show _=_;rw [HQ.out];unfold leafF;rw [if_neg hs2,if_neg (by rw [Hk.out];exact hkd),if_pos rfl,HM.out]
        split
        ·
         rw [Int.emod_one];rfl
        ·
         rw [show (n:Int) - 1=1 by omega,Int.emod_one];rfl
       have HKD:=Lib.hid hkd;have HSS:=Lib.hid hs2;clear hkd hs2 hg
       go_wp2_with fail
       rw [set5_eq];refine bodyPost_ret (results_cell_row rfl _ _ w.heap.size 40 _ (0,0) _ rfl (set5_blk hb2 _ _ _ _ _) Tryz.underlying40 rfl (by kernel_rfl)) rfl ?_;have hsW:=HSW.out;have hs2:=HS2.out;refine ⟨none,0,by rw [HL.out];rfl,by rw [HL.out];exact PtK.leaf,?_,HU2.trans (set5_upd _ _ _ _ _ _ _) (fun i hi e=>by omega)⟩;rw [HY.out]
       exact (hr2.upd (set5_upd _ _ _ _ _ _ _) (fun k hk q e=>by have:=q.2;omega) (by omega)).mono (fun k _ h=>h.1)
     | false =>
      have hmn0:0≤(m:Int) % (n:Int):=Int.emod_nonneg _ (by omega);have hmn:(m:Int) % (n:Int)<n:=Int.emod_lt_of_pos _ (by omega)
      have hv:wrap64 (1+(m:Int) % (n:Int))=1+(m:Int) % (n:Int):=by unfold wrap64;omega
      have HL:Hid (Q=.mk (1+(m:Int) % (n:Int)) 0 0 0 []):=by
       show _=_;rw [HQ.out];unfold leafF;rw [if_neg hs2,if_neg (by rw [Hk.out];exact hkd),if_neg (by decide),HM.out]
      have HKD:=Lib.hid hkd;have HSS:=Lib.hid hs2;clear hkd hs2
      go_wp2_with fail
      rw [set5_eq];refine bodyPost_ret (results_cell_row rfl _ _ w.heap.size 40 _ (0,0) _ rfl (set5_blk hb2 _ _ _ _ _) Tryz.underlying40 rfl (by kernel_rfl)) rfl ?_;have hsW:=HSW.out;have hs2:=HS2.out;refine ⟨none,0,by rw [HL.out];rfl,by rw [HL.out];exact PtK.leaf,?_,HU2.trans (set5_upd _ _ _ _ _ _ _) (fun i hi e=>by omega)⟩;rw [HY.out]
      exact (hr2.upd (set5_upd _ _ _ _ _ _ _) (fun k hk q e=>by have:=q.2;omega) (by omega)).mono (fun k _ h=>h.1)
  ·
   have tk3:decide (k<3)=false:=decide_eq_false hk3;rw [if_neg hk3] at HQY;clear hk3;obtain ⟨op,Hop⟩:=nm (kOpF s st x);rw [Hop.out] at HQY;have har:=kOp_arity s st x;rw [Hop.out] at har;obtain ⟨ar,har2⟩:∃ar:Nat,(arityF op).1=(ar:Int):=Int.eq_ofNat_of_zero_le har.1
   have har3:ar≤3:=by omega
   have HAR:=Lib.hid har2
   have HOPE:Hid (op=if s=2 then 27+(m:Int) % 3 else if st=true∧9<k then 23 else 4+(m:Int) % 19):=by show _=_;rw [←Hop.out];unfold kOpF;rw [HM.out,Hk.out]
   go_upto_region 13 with fail
   obtain ⟨W4,HW4⟩:=nm (w2.alloc (.cells #[.int .i64 0,.int .i64 (4+(m:Int) % 19),.int .i64 0,.int .i64 0,.slice none 0 0] 40));rw [HW4.out];have e4:=HW4.out
   have u4:Upd Non w2 W4:=by rw [←e4];exact Upd.refl.alloc _
   have hb4:Blk W4 w2.heap.size 40 #[.int .i64 0,.int .i64 (4+(m:Int) % 19),.int .i64 0,.int .i64 0,.slice none 0 0]:=by rw [←e4];exact Blk.new _ _ _
   have hs4:W4.heap.size=w2.heap.size+1:=by rw [←e4];simp
   have hm19:(m:Int).tmod 19=(m:Int) % 19:=Int.tmod_eq_emod_of_nonneg (by omega);clear har har2
   go_upto_if 62 with fail
   go_cut [] (fun wx=>Blk wx w2.heap.size 40 #[.int .i64 0,.int .i64 op,.int .i64 0,.int .i64 0,.slice none 0 0]∧Upd Non w2 wx)
   case first =>
    by_cases hs2:s=2
    ·
     subst hs2
     obtain ⟨r,hma,hmb,hmc,hmd⟩:∃r:Nat,(m:Int).tmod 3=(r:Int)∧(m:Int) % 3=(r:Int)∧r<3∧(r:Int)<3:=⟨m % 3,by rw [Int.tmod_eq_emod_of_nonneg (by omega)];omega,by omega,by omega,by omega⟩
     have ho:op=27+(r:Int):=by rw [HOPE.out,if_pos rfl,hmb]
     obtain ⟨W5,HW5⟩:=nm (W4.alloc (.cells #[.int .i64 27,.int .i64 28,.int .i64 29] 3));have e5:=HW5.out
     have u5:Upd Non W4 W5:=by rw [←e5];exact Upd.refl.alloc _
     have hi5:W5.cell? ⟨W4.heap.size,r,none⟩=some (.int .i64 op):=by
      rw [←e5,(Blk.new W4 3 #[.int .i64 27,.int .i64 28,.int .i64 29]).cell,ho]
      have : r=0∨r=1∨r=2:=by omega
      rcases this with rfl | rfl | rfl <;> rfl
     rw [hs4] at hi5;have hb5:=hb4.upd u5 (fun f=>f);have c1:=hb5.cell 1;have f1:=hb5.frozen 1;obtain ⟨W6,HW6⟩:=nm (W5.setCell ⟨w2.heap.size,1,none⟩ (.int .i64 op));have e6:=HW6.out
     have hb6:Blk W6 w2.heap.size 40 #[.int .i64 0,.int .i64 op,.int .i64 0,.int .i64 0,.slice none 0 0]:=by rw [←e6];exact hb5.set_ 1 (.int .i64 op)
     have u6:Upd (·=w2.heap.size) W5 W6:=by rw [←e6];exact updCell _ _ _ _
     have HB6:=Lib.hid hb6;have HO:=Lib.hid ho;clear ho hb6 hb4
     go_wp2_with fail
     go_meet
     case rel=>exact ⟨HB6.out,(u4.then_non u5).trans u6 (fun i hi e=>by omega)⟩
    ·
     have ts:(s==2)=false:=by simpa using hs2
     have hop2:Hid (op=if st=true∧9<k then 23 else 4+(m:Int) % 19):=by show _=_;rw [HOPE.out,if_neg hs2]
     have HSS:=Lib.hid hs2;clear hs2
     cases st with
     | false =>
      have ho:Hid (op=4+(m:Int) % 19):=by show _=_;rw [hop2.out,if_neg (fun q=>by cases q.1)]
      have hbE:Hid (Blk W4 w2.heap.size 40 #[.int .i64 0,.int .i64 op,.int .i64 0,.int .i64 0,.slice none 0 0]):=by rw [ho.out];exact hb4
      go_wp2_with fail
      go_meet
      case rel=>exact ⟨hbE.out,u4⟩
     | true =>
      by_cases h9:9<k
      ·
       have t9:decide (9<k)=true:=decide_eq_true h9
       have ho:op=23:=by rw [hop2.out,if_pos ⟨rfl,h9⟩]
       have c1:=hb4.cell 1;have f1:=hb4.frozen 1;obtain ⟨W6,HW6⟩:=nm (W4.setCell ⟨w2.heap.size,1,none⟩ (.int .i64 23));have e6:=HW6.out
       have hb6:Blk W6 w2.heap.size 40 #[.int .i64 0,.int .i64 op,.int .i64 0,.int .i64 0,.slice none 0 0]:=by rw [←e6,ho];exact hb4.set_ 1 (.int .i64 23)
       have u6:Upd (·=w2.heap.size) W4 W6:=by rw [←e6];exact updCell _ _ _ _
       have HB6:=Lib.hid hb6;have HO:=Lib.hid ho;clear ho hb6 h9
       go_wp2_with fail
       go_meet
       case rel=>exact ⟨HB6.out,u4.trans u6 (fun i hi e=>by omega)⟩
      ·
       have t9:decide (9<k)=false:=decide_eq_false h9
       have ho:Hid (op=4+(m:Int) % 19):=by show _=_;rw [hop2.out,if_neg (fun q=>h9 q.2)]
       have hbE:Hid (Blk W4 w2.heap.size 40 #[.int .i64 0,.int .i64 op,.int .i64 0,.int .i64 0,.slice none 0 0]):=by rw [ho.out];exact hb4
       clear h9
       go_wp2_with fail
       go_meet
       case rel=>exact ⟨hbE.out,u4⟩
   case rest =>
   obtain ⟨w5,rfl⟩:∃w5:World,w5=wc:=⟨_,rfl⟩;obtain ⟨hb5,u5⟩:=hcut;clear hb4 e4 HW4 u4 hs4 hm19;have c1:=hb5.cell 1;have CA:=Lib.hid (arity_c op w5);rw [HAR.out] at CA;obtain ⟨ab,Hab⟩:=nm (arityF op).2;rw [Hab.out] at CA
   go_wp2_with fail
   refine CA.out.mono ?_;rintro e w6 ⟨rfl,rfl⟩
   have hss:(sortsOf op).length=ar:=by rw [sortsOf_len,HAR.out];rfl
   have hsj:∀j (h:j<(sortsOf op).length),(sortsOf op)[j]=operandSortF op j:=sortsOf_get op
   have hso:∀j (h:j<(sortsOf op).length),(sortsOf op)[j]=1∨(sortsOf op)[j]=2:=fun j h=>by
    rw [hsj j h];unfold operandSortF;split
    ·
     exact .inr rfl
    ·
     exact .inl rfl
   obtain ⟨ss,Hss⟩:=nm (sortsOf op);rw [Hss.out] at HQY hss hsj hso;have HSL:=Lib.hid hss;have HSJ:=Lib.hid hsj;have HSO:=Lib.hid hso;obtain ⟨ys,Hys⟩:=nm xs.tail;rw [Hys.out] at HQY hr2;have hr6:=hr2.upd u5 (fun _ _ _ f=>f) (fun f=>f);have hsu:=u5.size;have hpw:p<w2.heap.size:=hr2.lt;have hF6:∀k,(F k∧k<w.heap.size)→k≠p:=hFF
   have hwrapd:IntKind.i64.wrap ((dp:Int)+1)=((dp+1:Nat):Int):=by rw [i64w_of (by unfold I64;omega)];omega
   have HWD:=Lib.hid hwrapd;have HKS:=Lib.hid (patF_size n st f);rw [HG.out] at HKS
   have hks:kSize f≤1000:=by
    have : f=0∨f=1∨f=2:=by have:=HF2.out;omega
    rcases this with rfl | rfl | rfl <;> decide
   have hlt5:w2.heap.size<w5.heap.size:=hb5.lt
   have hww:w.heap.size<w2.heap.size:=by have:=HS2.out;have:=HSW.out;omega
   clear hr2 hss hsj hso hwrapd CA c1 hFF
   go_wp2_with fail
   go_loopg [17] ar (fun g i wr=>∃(j:Nat) (A:Option Addr) (c:Nat),Hid (g=ar - j)∧j≤ar∧i=.int .i64 j∧Blk wr w2.heap.size 40 #[.int .i64 0,.int .i64 op,.int .i64 0,.int .i64 0,.slice A j c]∧PtO wr (fun k=>w5.heap.size≤k) A j c (kidsG G (ss.take j) ys).1∧Hid (∀k,At A k→w5.heap.size≤k)∧Rd wr (fun k=>F k∧k<w.heap.size) p (kidsG G (ss.take j) ys).2∧Upd (fun k=>k=p∨k=w2.heap.size) w5 wr)
   case atStart=>exact ⟨0,none,0,rfl,by omega,rfl,hb5,PtO.none_,fun k h=>(At.none_ h).elim,hr6,Upd.refl⟩
   case round =>
    obtain ⟨j,A,c,Hg,hj,rfl,hbr,hpo,HA,hrr,hu⟩:=hrel
    by_cases hlt:j<ar
    ·
     have hjs:j<ss.length:=by rw [HSL.out];exact hlt
     have HTK:Hid (ss.take (j+1)=ss.take j++[ss[j]]):=take_snoc_ hjs;have hsjE:=HSJ.out j hjs;have hsoE:=HSO.out j hjs;generalize ss[j]=sj at *
     have HKN:Hid (kidsG G (ss.take (j+1)) ys=((kidsG G (ss.take j) ys).1++[(G sj (kidsG G (ss.take j) ys).2).1],(G sj (kidsG G (ss.take j) ys).2).2)):=by
      show _=_;rw [HTK.out,kidsG_snoc]
     obtain ⟨kids,Hkids⟩:=nm (kidsG G (ss.take j) ys).1;obtain ⟨zs,Hzs⟩:=nm (kidsG G (ss.take j) ys).2;rw [Hkids.out,Hzs.out] at HKN;rw [Hkids.out] at hpo;rw [Hzs.out] at hrr;have CO:=Lib.hid (fun w'=>operandSort_c op j w');rw [←hsjE] at CO;have t1:decide (j<ar)=true:=decide_eq_true hlt;have d1:wr.cell? ⟨w2.heap.size,1,none⟩=some (.int .i64 op):=hbr.cell 1
     obtain ⟨wD,HwD⟩:=nm wr.drew
     have uD:Upd Non wr wD:=by rw [←HwD.out];exact Upd.refl.drew
     have hbD:=hbr.upd uD (fun f=>f);have hpD:=hpo.upd uD (fun _ _ f=>f) (fun _ _ _ f=>f);have hrD:=hrr.upd uD (fun _ _ _ f=>f) (fun f=>f);have C1:=Lib.hid (HI.out wD _ p zs sj hsoE hF6 hrD);obtain ⟨q,Hq⟩:=nm (G sj zs).1;obtain ⟨zs2,Hzs2⟩:=nm (G sj zs).2;rw [Hq.out,Hzs2.out] at C1 HKN;have hwd:=HWD.out;clear hsjE hsoE HTK hbr hpo hrr
     go_wp2_with fail
     refine wp_region_held_drew (S:=fun w'=>w'.cell? ⟨w2.heap.size,1,none⟩=some (.int .i64 op)) (by kernel_rfl) (by rw [HwD.out];exact cell_upd d1 uD (fun f=>f)) (fun hHeld=>?_)
     rw [HwD.out] at hHeld ⊢;refine wpT 0 ?_
     try simp only [put_y,put_z]
     refine wpT 2 ?_
     try simp only [put_y,put_z]
     refine wpT 3 ?_
     try simp only [put_y,put_z]
     refine wpT 4 ?_
     try simp only [put_y,put_z]
     refine wpT 5 ?_
     try simp only [put_y,put_z]
     refine wpAnyH_takeC (i:=6) (v:=?v1) rfl (by kernel_rfl) (by kernel_rfl) (by kernel_rfl) (fun _ _ _ h=>h) ⟨by rfl,?f1,?a1,?r1,?c1⟩ (by assumption) ?m1
     case r1=>intro w;go_simp;constructor <;> with_reducible rfl
     case c1=>intro W hSw;refine (CO.out W).mono ?_;rintro e w' ⟨rfl,rfl⟩;constructor <;> with_reducible rfl
     try simp only [put_y,put_z]
     refine wpT 7 ?_
     try simp only [put_y,put_z]
     refine wpT 8 ?_
     try simp only [put_y,put_z]
     refine wpT 9 ?_
     try simp only [put_y,put_z]
     refine wpT 10 ?_
     try simp only [put_y,put_z]
     have hsD:∀k,At A k→k<wD.heap.size:=fun k h=>hpD.lt h
     have hgD:=hbD.lt;refine wpAnyH_ready (rs:=[1,11]) (by kernel_rfl) (by simp) ?_;refine AllReadyH.cons rfl (fun K hK=>?_) (AllReadyH.cons rfl (fun K hK=>?_) AllReadyH.nil)
     ·
      have d4:=hbD.cell 4;go_simp;refine hK.out _ _ ?_ (fun hHeld=>?_)
      ·
       exact cell_upd d1 uD (fun f=>f)
      clear hK K
      try simp only [put_y,put_z]
      refine wpAnyH_ready (rs:=[11]) (by kernel_rfl) (by simp) ?_;refine AllReadyH.cons rfl (fun K hK=>?_) AllReadyH.nil;go_simp;refine C1.out.mono ?_;rintro e w7 ⟨KB,kb,rfl,hq,hr7,u7⟩;unfold pv
      go_wp2_with fail
      have d7:=cell_upd (cell_upd d1 uD (fun f=>f)) u7 (by omega);refine hK.out _ _ ?_ (fun hHeld=>?_)
      ·
       exact d7
      clear hK K
      try simp only [put_y,put_z]
      have hb7:=hbD.upd u7 (by omega);have hp7:=hpD.upd u7 (fun k h e=>by have:=HA.out k h;omega) (fun k _ h e=>by omega);obtain ⟨hn7,cs,ho7,hc7⟩:=id hp7;have hs7:=u7.size;have hsu:=hu.size;have hsd:=uD.size
      have hq7:PtK w7 (fun k=>w5.heap.size≤k∧¬At A k) q KB kb:=PtK.mono (fun k _ h=>⟨by have h:wD.heap.size≤k:=h;omega,fun hA=>by have h:wD.heap.size≤k:=h;have:=hsD _ hA;omega⟩) _ _ _ hq
      have HP7:=Lib.hid hp7;have HC7:=Lib.hid hc7;have HQ7:=Lib.hid hq7;clear hp7 hc7 hq7 hpD hbD hrD hq hn7 hsD;refine wpAnyH_ready (rs:=[12]) (by kernel_rfl) (by simp) ?_;refine AllReadyH.cons rfl (fun K hK=>?_) AllReadyH.nil;go_simp;refine hK.out _ _ ?_ (fun hHeld=>?_)
      ·
       exact (hb7.alloc _).cell 1
      clear hK K
      try simp only [put_y,put_z]
      refine wpAnyH_ready (rs:=[13]) (by kernel_rfl) (by simp) ?_;refine AllReadyH.cons rfl (fun K hK=>?_) AllReadyH.nil;refine step_app rfl rfl T_pats rfl (ho7.alloc _) rfl (Sl.new _ _ _) rfl (by simp [Value.oneCell']) (by simp only [maxLen];omega) (by omega) ?_;intro A8 c8 w8 ho8 hu8 hat8;have b8:=(hb7.alloc _).upd hu8 (fun h=>by have:=HA.out _ h;omega);have d8:=b8.cell 4
      have f8:=b8.frozen 4;have e8:w8.cell? ⟨w2.heap.size,1,none⟩=some (.int .i64 op):=b8.cell 1;refine hK.out _ _ ?_ (fun hHeld=>?_)
      ·
       exact e8
      clear hK K
      try simp only [put_y,put_z]
      have b9:=b8.set_ 4 (.slice A8 (j+1) c8)
      have e9:(w8.setCell ⟨w2.heap.size,4,none⟩ (.slice A8 (j+1) c8)).cell? ⟨w2.heap.size,1,none⟩=some (.int .i64 op):=by rw [b9.cell];rfl
      refine wpT 14 ?_
      try simp only [put_y,put_z]
      refine wpAnyH_ready (rs:=[15]) (by kernel_rfl) (by simp) ?_;refine AllReadyH.cons rfl (fun K hK=>?_) AllReadyH.nil;go_simp;refine hK.out _ _ ?_ (fun hHeld=>?_)
      ·
       exact e9
      clear hK K
      try simp only [put_y,put_z]
      refine wpAnyH_done (by kernel_rfl) ?_ _
      have hA8:∀k,At A8 k→w5.heap.size≤k:=fun k h=>by
       rcases hat8 k h with h | h
       ·
        exact HA.out k h
       ·
        rw [h];simp;omega
      have hal:Upd Non w7 (w7.alloc (.cells #[.int .i64 q.v,.int .i64 q.op,.int .i64 q.imm,.int .i64 q.iv,.slice KB q.kids.length kb] 40)):=Upd.refl.alloc _;have u9:Upd (·=w2.heap.size) w8 (w8.setCell ⟨w2.heap.size,4,none⟩ (.slice A8 (j+1) c8)):=updCell _ _ _ _;have hpa:=HP7.out.upd hal (fun _ _ f=>f) (fun _ _ _ f=>f)
      have hp8:=PtO.snoc (G':=fun k=>w5.heap.size≤k) hpa (HC7.out.mono hal (fun _ _ _ f=>f) (fun _ _ h=>h)) (PtK.upd hal (fun _ _ _ f=>f) _ _ _ HQ7.out) ho8 hu8 hat8 (fun _ _ h=>h)
      have hp9:=hp8.upd u9 (fun k h e=>by have:=hA8 k h;omega) (fun k _ h e=>by omega)
      have hr8:=(hr7.upd hal (fun _ _ _ f=>f) (fun f=>f)).upd hu8 (fun k _ h hA=>by have:=HA.out k hA;have h2:k<w.heap.size:=h.2;omega) (fun hA=>by have:=HA.out _ hA;omega)
      have hr9:=hr8.upd u9 (fun k _ h e=>by have h2:k<w.heap.size:=h.2;omega) (by omega)
      have HU9:Upd (fun k=>k=p∨k=w2.heap.size) w5 (w8.setCell ⟨w2.heap.size,4,none⟩ (.slice A8 (j+1) c8)) :=
       ((((hu.then_non uD).trans u7 (fun i _ h=>.inl h)).then_non hal).trans hu8 (fun i hi h=>by have:=HA.out i h;omega)).trans u9 (fun i _ h=>.inr h)
      have hb9:Blk (w8.setCell ⟨w2.heap.size,4,none⟩ (.slice A8 (j+1) c8)) w2.heap.size 40 #[.int .i64 0,.int .i64 op,.int .i64 0,.int .i64 0,.slice A8 (j+1) c8]:=by simpa using b9
      have HE1:Hid ((kidsG G (ss.take (j+1)) ys).1=kids++[q]∧(kidsG G (ss.take (j+1)) ys).2=zs2):=by
       show _∧_;rw [HKN.out];exact ⟨rfl,rfl⟩
      have HA8:=Lib.hid hA8;have HP9:=Lib.hid hp9;have HR9:=Lib.hid hr9;have HB9:=Lib.hid hb9;clear hA8 hpa hp8 hp9 hr8 hr9 b9 b8 d8 f8 e8 e9 ho8 hu8 hat8 hb7 ho7 hb9
      go_wp2_with fail
      go_roundg (ar - (j+1))
      case measure=>rw [Hg.out];omega
      case rel=>exact ⟨j+1,A8,c8,rfl,by omega,by go_num,HB9.out,by rw [HE1.out.1];exact HP9.out,HA8.out,by rw [HE1.out.2];exact HR9.out,HU9⟩
     ·
      go_simp;refine C1.out.mono ?_;rintro e w7 ⟨KB,kb,rfl,hq,hr7,u7⟩;unfold pv
      go_wp2_with fail
      have d7:=cell_upd (cell_upd d1 uD (fun f=>f)) u7 (by omega);refine hK.out _ _ ?_ (fun hHeld=>?_)
      ·
       exact d7
      clear hK K
      try simp only [put_y,put_z]
      have d4:w7.cell? ⟨w2.heap.size,4,none⟩=some (.slice A j c):=(hbD.upd u7 (by omega)).cell 4
      refine wpAnyH_takeM (fun w'=>w'.cell? ⟨w2.heap.size,4,none⟩=some (.slice A j c)) (calm_cell _ _) [13,14,15] (i:=1) (v:=?_) rfl (by kernel_rfl) (by kernel_rfl) (by kernel_rfl) (by kernel_rfl) (fun _ _ _ h=>h) (Or.inl ⟨by rfl,?_⟩) (d4) (by assumption) ?_
      rotate_left
      ·
       intro w hSw;(try dsimp only at hSw);go_simp;try with_reducible rfl
      try simp only [put_y,put_z]
      clear d4;have hb7:=hbD.upd u7 (by omega);have hp7:=hpD.upd u7 (fun k h e=>by have:=HA.out k h;omega) (fun k _ h e=>by omega);obtain ⟨hn7,cs,ho7,hc7⟩:=id hp7;have hs7:=u7.size;have hsu:=hu.size;have hsd:=uD.size
      have hq7:PtK w7 (fun k=>w5.heap.size≤k∧¬At A k) q KB kb:=PtK.mono (fun k _ h=>⟨by have h:wD.heap.size≤k:=h;omega,fun hA=>by have h:wD.heap.size≤k:=h;have:=hsD _ hA;omega⟩) _ _ _ hq
      have HP7:=Lib.hid hp7;have HC7:=Lib.hid hc7;have HQ7:=Lib.hid hq7;clear hp7 hc7 hq7 hpD hbD hrD hq hn7 hsD;refine wpAnyH_ready (rs:=[12]) (by kernel_rfl) (by simp) ?_;refine AllReadyH.cons rfl (fun K hK=>?_) AllReadyH.nil;go_simp;refine hK.out _ _ ?_ (fun hHeld=>?_)
      ·
       exact (hb7.alloc _).cell 1
      clear hK K
      try simp only [put_y,put_z]
      refine wpAnyH_ready (rs:=[13]) (by kernel_rfl) (by simp) ?_;refine AllReadyH.cons rfl (fun K hK=>?_) AllReadyH.nil;refine step_app rfl rfl T_pats rfl (ho7.alloc _) rfl (Sl.new _ _ _) rfl (by simp [Value.oneCell']) (by simp only [maxLen];omega) (by omega) ?_;intro A8 c8 w8 ho8 hu8 hat8;have b8:=(hb7.alloc _).upd hu8 (fun h=>by have:=HA.out _ h;omega);have d8:=b8.cell 4
      have f8:=b8.frozen 4;have e8:w8.cell? ⟨w2.heap.size,1,none⟩=some (.int .i64 op):=b8.cell 1;refine hK.out _ _ ?_ (fun hHeld=>?_)
      ·
       exact e8
      clear hK K
      try simp only [put_y,put_z]
      have b9:=b8.set_ 4 (.slice A8 (j+1) c8)
      have e9:(w8.setCell ⟨w2.heap.size,4,none⟩ (.slice A8 (j+1) c8)).cell? ⟨w2.heap.size,1,none⟩=some (.int .i64 op):=by rw [b9.cell];rfl
      refine wpT 14 ?_
      try simp only [put_y,put_z]
      refine wpAnyH_ready (rs:=[15]) (by kernel_rfl) (by simp) ?_;refine AllReadyH.cons rfl (fun K hK=>?_) AllReadyH.nil;go_simp;refine hK.out _ _ ?_ (fun hHeld=>?_)
      ·
       exact e9
      clear hK K
      try simp only [put_y,put_z]
      refine wpAnyH_done (by kernel_rfl) ?_ _
      have hA8:∀k,At A8 k→w5.heap.size≤k:=fun k h=>by
       rcases hat8 k h with h | h
       ·
        exact HA.out k h
       ·
        rw [h];simp;omega
      have hal:Upd Non w7 (w7.alloc (.cells #[.int .i64 q.v,.int .i64 q.op,.int .i64 q.imm,.int .i64 q.iv,.slice KB q.kids.length kb] 40)):=Upd.refl.alloc _;have u9:Upd (·=w2.heap.size) w8 (w8.setCell ⟨w2.heap.size,4,none⟩ (.slice A8 (j+1) c8)):=updCell _ _ _ _;have hpa:=HP7.out.upd hal (fun _ _ f=>f) (fun _ _ _ f=>f)
      have hp8:=PtO.snoc (G':=fun k=>w5.heap.size≤k) hpa (HC7.out.mono hal (fun _ _ _ f=>f) (fun _ _ h=>h)) (PtK.upd hal (fun _ _ _ f=>f) _ _ _ HQ7.out) ho8 hu8 hat8 (fun _ _ h=>h)
      have hp9:=hp8.upd u9 (fun k h e=>by have:=hA8 k h;omega) (fun k _ h e=>by omega)
      have hr8:=(hr7.upd hal (fun _ _ _ f=>f) (fun f=>f)).upd hu8 (fun k _ h hA=>by have:=HA.out k hA;have h2:k<w.heap.size:=h.2;omega) (fun hA=>by have:=HA.out _ hA;omega)
      have hr9:=hr8.upd u9 (fun k _ h e=>by have h2:k<w.heap.size:=h.2;omega) (by omega)
      have HU9:Upd (fun k=>k=p∨k=w2.heap.size) w5 (w8.setCell ⟨w2.heap.size,4,none⟩ (.slice A8 (j+1) c8)) :=
       ((((hu.then_non uD).trans u7 (fun i _ h=>.inl h)).then_non hal).trans hu8 (fun i hi h=>by have:=HA.out i h;omega)).trans u9 (fun i _ h=>.inr h)
      have hb9:Blk (w8.setCell ⟨w2.heap.size,4,none⟩ (.slice A8 (j+1) c8)) w2.heap.size 40 #[.int .i64 0,.int .i64 op,.int .i64 0,.int .i64 0,.slice A8 (j+1) c8]:=by simpa using b9
      have HE1:Hid ((kidsG G (ss.take (j+1)) ys).1=kids++[q]∧(kidsG G (ss.take (j+1)) ys).2=zs2):=by
       show _∧_;rw [HKN.out];exact ⟨rfl,rfl⟩
      have HA8:=Lib.hid hA8;have HP9:=Lib.hid hp9;have HR9:=Lib.hid hr9;have HB9:=Lib.hid hb9;clear hA8 hpa hp8 hp9 hr8 hr9 b9 b8 d8 f8 e8 e9 ho8 hu8 hat8 hb7 ho7 hb9
      go_wp2_with fail
      go_roundg (ar - (j+1))
      case measure=>rw [Hg.out];omega
      case rel=>exact ⟨j+1,A8,c8,rfl,by omega,by go_num,HB9.out,by rw [HE1.out.1];exact HP9.out,HA8.out,by rw [HE1.out.2];exact HR9.out,HU9⟩
    ·
     obtain rfl:ar=j:=by omega
     have HTK:Hid (ss.take ar=ss):=List.take_of_length_le (by rw [HSL.out];exact Nat.le_refl _);rw [HTK.out] at hpo hrr;obtain ⟨imm,Himm⟩:=nm (kImmF op x).1;obtain ⟨iv,Hiv⟩:=nm (kImmF op x).2;obtain ⟨kids,Hkids⟩:=nm (kidsG G ss ys).1;obtain ⟨zs,Hzs⟩:=nm (kidsG G ss ys).2;rw [Hkids.out,Hzs.out,Himm.out,Hiv.out] at HQY;rw [Hkids.out] at hpo;rw [Hzs.out] at hrr
     have HIE:Hid ((imm,iv)=if hasImmF op then (if (m:Int) % 5=0 then (if op=27 then 1 else 1 - (m:Int) % 2,0) else (0,1+(m:Int) % 2)) else (0,0)):=by
      show _=_;rw [←Himm.out,←Hiv.out,←HM.out];rfl
     have CH:=Lib.hid (r15HasImm_c op wr);obtain ⟨hi,Hhi⟩:=nm (hasImmF op);rw [Hhi.out] at CH HIE
     have t1:decide (ar<ar)=false:=by simp
     have d1:wr.cell? ⟨w2.heap.size,1,none⟩=some (.int .i64 op):=hbr.cell 1
     go_wp2_with fail
     refine CH.out.mono ?_;rintro e w7 ⟨rfl,rfl⟩
     go_upto_if 103 with fail
     go_cut [] (fun wx=>Blk wx w2.heap.size 40 #[.int .i64 0,.int .i64 op,.int .i64 imm,.int .i64 iv,.slice A ar c]∧Upd (·=w2.heap.size) wr wx)
     case first =>
      cases hi with
      | false =>
       have hie:imm=0∧iv=0:=by have:=HIE.out;rw [if_neg (by decide)] at this;exact ⟨congrArg Prod.fst this,congrArg Prod.snd this⟩
       obtain ⟨rfl,rfl⟩:=hie
       go_wp2_with fail
       go_meet
       case rel=>exact ⟨hbr,Upd.refl⟩
      | true =>
       obtain ⟨r2,hma,hmb,hmc,hmd⟩:=m2_facts m;obtain ⟨r5,hna,hnb,hnc,hnd⟩:=m5_facts m;rw [hmb,hnb] at HIE;clear hmb hnb;have c3:=hbr.cell 3;have f3:=hbr.frozen 3;obtain ⟨X1,HX1⟩:=nm (wr.setCell ⟨w2.heap.size,3,none⟩ (.int .i64 (1+(r2:Int))));have x1:=HX1.out
       have hx1:Blk X1 w2.heap.size 40 #[.int .i64 0,.int .i64 op,.int .i64 0,.int .i64 (1+(r2:Int)),.slice A ar c]:=by rw [←x1];simpa using hbr.set_ 3 (.int .i64 (1+(r2:Int)))
       have v1:Upd (·=w2.heap.size) wr X1:=by rw [←x1];exact updCell _ _ _ _
       by_cases h5:(r5:Int)=0
       ·
        have t5:((r5:Int)==0)=true:=by simpa using h5
        obtain ⟨X2,HX2⟩:=nm (X1.setCell ⟨w2.heap.size,3,none⟩ (.int .i64 0));have x2:=HX2.out
        have hx2:Blk X2 w2.heap.size 40 #[.int .i64 0,.int .i64 op,.int .i64 0,.int .i64 0,.slice A ar c]:=by rw [←x2];simpa using hx1.set_ 3 (.int .i64 0)
        have v2:Upd (·=w2.heap.size) X1 X2:=by rw [←x2];exact updCell _ _ _ _
        obtain ⟨X3,HX3⟩:=nm (X2.setCell ⟨w2.heap.size,2,none⟩ (.int .i64 (1 - (r2:Int))));have x3:=HX3.out
        have hx3:Blk X3 w2.heap.size 40 #[.int .i64 0,.int .i64 op,.int .i64 (1 - (r2:Int)),.int .i64 0,.slice A ar c]:=by rw [←x3];simpa using hx2.set_ 2 (.int .i64 (1 - (r2:Int)))
        have v3:Upd (·=w2.heap.size) X2 X3:=by rw [←x3];exact updCell _ _ _ _
        have V3:=(v1.trans v2 (fun _ _ h=>h)).trans v3 (fun _ _ h=>h);have g1:=hx1.cell 3;have k1:=hx1.frozen 3;have g2:=hx2.cell 2;have k2:=hx2.frozen 2;have g3:=hx3.cell 1
        by_cases h27:op=27
        ·
         have hie:imm=1∧iv=0:=by have:=HIE.out;rw [if_pos rfl,if_pos h5,if_pos h27] at this;exact ⟨congrArg Prod.fst this,congrArg Prod.snd this⟩
         obtain ⟨rfl,rfl⟩:=hie
         have t27:(op==27)=true:=by simpa using h27
         obtain ⟨X4,HX4⟩:=nm (X3.setCell ⟨w2.heap.size,2,none⟩ (.int .i64 1));have x4:=HX4.out
         have hx4:Blk X4 w2.heap.size 40 #[.int .i64 0,.int .i64 op,.int .i64 1,.int .i64 0,.slice A ar c]:=by rw [←x4];simpa using hx3.set_ 2 (.int .i64 1)
         have v4:Upd (·=w2.heap.size) X3 X4:=by rw [←x4];exact updCell _ _ _ _
         have g4:=hx3.cell 2;have k4:=hx3.frozen 2;have HX4b:=Lib.hid hx4;clear h27 h5 hx4 hx3 hx2 hx1
         go_wp2_with fail
         go_meet
         case rel=>exact ⟨HX4b.out,V3.trans v4 (fun _ _ h=>h)⟩
        ·
         have hie:imm=1 - (r2:Int)∧iv=0:=by have:=HIE.out;rw [if_pos rfl,if_pos h5,if_neg h27] at this;exact ⟨congrArg Prod.fst this,congrArg Prod.snd this⟩
         have t27:(op==27)=false:=by simpa using h27
         have HX3b:Hid (Blk X3 w2.heap.size 40 #[.int .i64 0,.int .i64 op,.int .i64 imm,.int .i64 iv,.slice A ar c]):=by rw [hie.1,hie.2];exact hx3
         clear h27 h5 hx3 hx2 hx1 hie
         go_wp2_with fail
         go_meet
         case rel=>exact ⟨HX3b.out,V3⟩
       ·
        have t5:((r5:Int)==0)=false:=by simpa using h5
        have hie:imm=0∧iv=1+(r2:Int):=by have:=HIE.out;rw [if_pos rfl,if_neg h5] at this;exact ⟨congrArg Prod.fst this,congrArg Prod.snd this⟩
        have HX1b:Hid (Blk X1 w2.heap.size 40 #[.int .i64 0,.int .i64 op,.int .i64 imm,.int .i64 iv,.slice A ar c]):=by rw [hie.1,hie.2];exact hx1
        clear h5 hx1 hie
        go_wp2_with fail
        go_meet
        case rel=>exact ⟨HX1b.out,v1⟩
     case rest =>
     obtain ⟨w8,rfl⟩:∃w8:World,w8=wc:=⟨_,rfl⟩;obtain ⟨hb8,u8⟩:=hcut;have g0:=hb8.cell 0;have g1:=hb8.cell 1;have g2:=hb8.cell 2;have g3:=hb8.cell 3;have g4:=hb8.cell 4;have hbR:=((hb2.upd u5 (fun f=>f)).upd hu (by omega)).upd u8 (by omega);have c0:=hbR.cell 0;have c1:=hbR.cell 1;have c2:=hbR.cell 2;have c3:=hbR.cell 3;have c4:=hbR.cell 4
     have f0:=hbR.frozen;clear d1 CH
     go_wp2_with fail
     rw [set5_eq];refine bodyPost_ret (results_cell_row rfl _ _ w.heap.size 40 _ (0,0) _ rfl (set5_blk hbR _ _ _ _ _) Tryz.underlying40 rfl (by kernel_rfl)) rfl ?_;have uS:=set5_upd w8 w.heap.size (.int .i64 0) (.int .i64 op) (.int .i64 imm) (.int .i64 iv) (.slice A ar c);have hQ:Q=.mk 0 op imm iv kids:=congrArg Prod.fst HQY.out;have hY:Y=zs:=congrArg Prod.snd HQY.out
     have hkl:kids.length=ar:=by rw [←Hkids.out,kidsG_len,HSL.out]
     subst hQ hY
     have hp8:=(hpo.upd u8 (fun k h e=>by have:=HA.out k h;omega) (fun k _ h e=>by omega)).upd uS (fun k h e=>by have:=HA.out k h;omega) (fun k _ h e=>by omega)
     refine ⟨A,c,by unfold pv;rw [←hkl];rfl,hp8.view (fun k h=>by have:=HA.out k h;show w.heap.size≤k;omega) (fun k _ h=>by show w.heap.size≤k;omega) _ _ _ _,?_,?_⟩
     ·
      exact ((hrr.upd u8 (fun k _ h e=>by have h2:k<w.heap.size:=h.2;omega) (by omega)).upd uS (fun k _ h e=>by have h2:k<w.heap.size:=h.2;omega) (by omega)).mono (fun k _ h=>h.1)
     ·
      exact ((((HU2.then_non u5).trans hu (fun i hi h=>by rcases h with h | h;exact h;omega)).trans u8 (fun i hi h=>by omega)).trans uS (fun i hi h=>by omega))
end Go.Proofs.YtblkgjdhaibhgaaGreat
