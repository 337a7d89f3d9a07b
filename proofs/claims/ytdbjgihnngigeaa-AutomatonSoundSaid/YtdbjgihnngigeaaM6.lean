/-
  Lemmas and walks that the claim rests on, part 6 (packed by a program).
-/
import Derived.Test.YtdbjgihnngigeaaM1
import Derived.Deep.RegionHeld3
import Derived.Test.YtdbjgihnngigeaaM5
namespace Go.Proofs.Ytdbjgihnngigeaa
open Go
section
variable {P:Program} {ops:Array Oper} {Q:Exit→Act→World→Prop} {md:Region.Mode} {S:World→Prop}
def mkA (a:Act) (ds:List Nat) (g:Nat→Value):Act:={ a with tmps:=ds.foldl (fun x t=>x.setIfInBounds t (g t)) a.tmps }
theorem fold_get (g:Nat→Value):∀(ds:List Nat) (x:Array Value) (t:Nat),(ds.foldl (fun x t=>x.setIfInBounds t (g t)) x)[t]?=if t∈ds∧t<x.size then some (g t) else x[t]?
 | [],x,t=>by simp
 | d::ds,x,t=>by
  rw [List.foldl_cons,fold_get g ds];by_cases h:t<x.size
  ·by_cases h1:t∈ds
   ·rw [if_pos ⟨h1,by simpa using h⟩,if_pos ⟨by simp [h1],h⟩]
   ·rw [if_neg (fun q=>h1 q.1)];by_cases e:d=t
    ·subst e;rw [if_pos ⟨by simp,h⟩];simp [h]
    ·rw [if_neg (fun q=>by simp [Ne.symm e,h1] at q),Array.getElem?_setIfInBounds_ne e]
  ·rw [if_neg (fun q=>h (by simpa using q.2)),if_neg (fun q=>h q.2),Array.getElem?_eq_none (by simp;omega),Array.getElem?_eq_none (by omega)]
theorem mkA_eq {a a0:Act} {ds:List Nat} (h1:a.defers=a0.defers) (h2:a.tmps.size=a0.tmps.size) (h3:∀t,t ∉ ds→a.tmps[t]?=a0.tmps[t]?):a=mkA a0 ds (fun t=>a.tmps.getD t undef):=by
 obtain ⟨tm,df⟩:=a;obtain ⟨tm0,df0⟩:=a0;dsimp only at h1 h2 h3;subst h1;unfold mkA
 congr 1
 refine Array.ext_getElem? fun t=>?_
 rw [fold_get];by_cases h:t∈ds∧t<tm0.size
 ·rw [if_pos h];have : t<tm.size:=by omega
  simp [this]
 ·rw [if_neg h];by_cases q:t∈ds
  ·have : ¬t<tm0.size:=fun r=>h ⟨q,r⟩
   simp only [] at *;rw [Array.getElem?_eq_none (by omega),Array.getElem?_eq_none (by omega)]
  ·exact h3 t q
def depsOf (md:Region.Mode) (opens:List Nat) (o:Oper):List Nat:=((o.after.toList.filter (Region.binds md)).map (·.on)).filter opens.contains
def updG (g:Nat→Value) (d:Option Nat) (v:Value):Nat→Value:=fun t=>if some t=d then v else g t
def StepF (P:Program) (md:Region.Mode) (ops:Array Oper) (Q:Exit→Act→World→Prop) (S:World→Prop) (a0:Act) (w0:World) (opens ds:List Nat) (R:World→World→Prop) (V:Nat→(Nat→Value)→World→Prop) (own:Nat→(Nat→Value)→Nat→Prop) (i:Nat):Prop :=
 ∀o,ops[i]?=some o→∀g w,R w0 w→S w→(∀j,(depsOf md opens o).contains j=true→V j g w)→∀K:Act→World→Prop,
  Shut (∀v w',R w w'→S w'→V i (updG g o.dst v) w'→(∀k,own i (updG g o.dst v) k→w.heap.size≤k∧k<w'.heap.size)→K ((mkA a0 ds g).put o.dst v) w')→if Region.wanted o (yielded ops (mkA a0 ds g).tmps)=true then Oper.wp P o (mkA a0 ds g) w K Q else K ((mkA a0 ds g).put o.dst undef) w
theorem StepF.of {a0:Act} {w0:World} {opens ds:List Nat} {R:World→World→Prop} {V:Nat→(Nat→Value)→World→Prop} {own:Nat→(Nat→Value)→Nat→Prop} {i:Nat} {o:Oper} (ho:ops[i]?=some o)
  (h:∀g w,R w0 w→S w→(∀j,(depsOf md opens o).contains j=true→V j g w)→∀K:Act→World→Prop,
   Shut (∀v w',R w w'→S w'→V i (updG g o.dst v) w'→(∀k,own i (updG g o.dst v) k→w.heap.size≤k∧k<w'.heap.size)→K ((mkA a0 ds g).put o.dst v) w')→if Region.wanted o (yielded ops (mkA a0 ds g).tmps)=true then Oper.wp P o (mkA a0 ds g) w K Q else K ((mkA a0 ds g).put o.dst undef) w) :
  StepF P md ops Q S a0 w0 opens ds R V own i:=fun o' ho'=>by
 rw [ho] at ho';injection ho' with ho'
 subst ho';exact h
def reachB (md:Region.Mode) (ops:Array Oper) (opens:List Nat):Nat→Nat→Nat→Bool
 | 0,r,i=>match ops[r]? with
  | none=>false
  | some o=>(depsOf md opens o).contains i
 | n+1,r,i=>match ops[r]? with
  | none=>false
  | some o=>(depsOf md opens o).contains i || (depsOf md opens o).any fun j=>reachB md ops opens n j i
def okF (md:Region.Mode) (ops:Array Oper) (listed:Array Bool) (n:Nat) (opens ds:List Nat) (sl:Nat→List Nat):Bool :=
 decide (listed.size=ops.size)&&opens.all (fun i=>decide (i<ops.size)&&!listed.getD i true) &&
 (List.range ops.size).all (fun i=>listed.getD i true || opens.contains i || (match ops[i]? with | none=>false | some o=>o.after.toList.any fun e=>Region.binds md e&&!listed.getD e.on false&&!opens.contains e.on) || opens.all (reachB md ops opens opens.length i)) &&
 opens.all (fun i=>match ops[i]? with
  | none=>false
  | some o=>(match o.dst with | none=>true | some d=>ds.contains d&&decide (d<n))&&(depsOf md opens o).all (fun j=>decide (j<i))&&(o.after.toList.all fun e=>!Region.binds md e || opens.contains e.on || listed.getD e.on false) &&
   opens.all (fun j=>i==j || (match ops[j]? with
    | none=>false
    | some o'=>match o'.dst with
     | none=>true
     | some d=>!(sl i).contains d || (depsOf md opens o).contains j)))
theorem reach_listed {opens:List Nat} {listed:Array Bool} (hdep:∀i∈opens,∀o,ops[i]?=some o→listed.getD i false=true→∀j,(depsOf md opens o).contains j=true→listed.getD j false=true) :
  ∀(n r i:Nat),(∀o,ops[r]?=some o→∀j,(depsOf md opens o).contains j=true→listed.getD j false=true)→reachB md ops opens n r i=true→listed.getD i false=true
 | 0,r,i,hr,h=>by
  unfold reachB at h
  cases ho:ops[r]? with
  | none=>rw [ho] at h;cases h
  | some o=>rw [ho] at h;exact hr o ho i h
 | n+1,r,i,hr,h=>by
  unfold reachB at h
  cases ho:ops[r]? with
  | none=>rw [ho] at h;cases h
  | some o =>
   rw [ho] at h;simp only [Bool.or_eq_true,List.any_eq_true] at h;rcases h with h | ⟨j,hj,h⟩
   ·exact hr o ho i h
   ·have hjc:(depsOf md opens o).contains j=true:=by simpa using hj
    have hjo:j∈opens:=by unfold depsOf at hj;simp at hj;exact hj.2
    exact reach_listed hdep n j i (fun o' ho' k hk=>hdep j hjo o' ho' (hr o ho j hjc) k hk) h
theorem wpAnyH_facts {a0:Act} {w0:World} {listed0:Array Bool} {fuel:Nat} (opens ds:List Nat) (sl:Nat→List Nat) (R:World→World→Prop) (V:Nat→(Nat→Value)→World→Prop) (own:Nat→(Nat→Value)→Nat→Prop)
  (hok:okF md ops listed0 a0.tmps.size opens ds sl=true) (hnd:opens.Nodup) (hS:S w0) (Rr:R w0 w0) (Rt:∀w w',R w0 w→R w w'→R w0 w')
  (stable:∀i∈opens,∀g g' w w',R w0 w→R w w'→(∀t∈sl i,g' t=g t)→V i g w→V i g' w')
  (Rsz:∀w w',R w w'→w.heap.size≤w'.heap.size) (ostable:∀i∈opens,∀g g',(∀t∈sl i,g' t=g t)→∀k,own i g' k→own i g k)
  (step:∀i∈opens,StepF P md ops Q S a0 w0 opens ds R V own i)
  (fin:∀g w,R w0 w→S w→(∀i∈opens,V i g w)→(∀i∈opens,∀j∈opens,i≠j→∀k,own i g k→¬own j g k)→wpAnyH P md ops Q S fuel (opens.foldl (fun l i=>l.setIfInBounds i true) listed0) (mkA a0 ds g) w):wpAnyH P md ops Q S (fuel+opens.length) listed0 a0 w0:=by
 unfold okF at hok;simp only [Bool.and_eq_true,decide_eq_true_eq,List.all_eq_true,List.mem_range] at hok;obtain ⟨⟨⟨hsz,hop⟩,hrest⟩,hop2⟩:=hok;have hlt:∀i∈opens,i<ops.size:=fun i hi=>(hop i hi).1
 suffices ∀(n:Nat) (listed:Array Bool) (a:Act) (w:World),listed.size=ops.size→(∀i,i ∉ opens→listed[i]?=listed0[i]?)→(opens.filter fun i=>!listed.getD i false).length=n →
   a.defers=a0.defers→a.tmps.size=a0.tmps.size→(∀t,t ∉ ds→a.tmps[t]?=a0.tmps[t]?)→R w0 w→S w→(∀i∈opens,listed.getD i false=true→V i (fun t=>a.tmps.getD t undef) w) →
   (∀i∈opens,listed.getD i false=true→∀k,own i (fun t=>a.tmps.getD t undef) k→k<w.heap.size)→(∀i∈opens,∀j∈opens,listed.getD i false=true→listed.getD j false=true→i≠j→∀k,own i (fun t=>a.tmps.getD t undef) k→¬own j (fun t=>a.tmps.getD t undef) k) →
   (∀i∈opens,∀o,ops[i]?=some o→listed.getD i false=true→∀j,(depsOf md opens o).contains j=true→listed.getD j false=true)→wpAnyH P md ops Q S (fuel+n) listed a w by
  have hun0:∀i∈opens,listed0.getD i false=false:=fun i hi=>by
   have:=(hop i hi).2;have h2:=hlt i hi;simp [hsz,h2] at this ⊢;exact this
  refine this opens.length listed0 a0 w0 hsz (fun _ _=>rfl) ?_ rfl rfl (fun _ _=>rfl) Rr hS (fun i hi h=>?_) (fun i hi h=>?_) (fun i hi j _ h=>?_) (fun i hi o _ h=>?_)
  ·rw [List.filter_eq_self.2 fun i hi=>by simp [hun0 i hi]]
  ·rw [hun0 i hi] at h;cases h
  ·rw [hun0 i hi] at h;cases h
  ·rw [hun0 i hi] at h;cases h
  ·rw [hun0 i hi] at h;cases h
 intro n
 induction n with
 | zero =>
  intro listed a w hs hl hf hd ht hold hR hS hV hO hD hdep
  have hall:∀i∈opens,listed.getD i false=true:=fun i hi=>by
   have:=List.eq_nil_of_length_eq_zero hf;have:=List.filter_eq_nil_iff.1 this i hi;simpa using this
  have hfold:∀(l:List Nat) (x:Array Bool) (i:Nat),(l.foldl (fun l i=>l.setIfInBounds i true) x)[i]?=if i∈l∧i<x.size then some true else x[i]?:=by
   intro l
   induction l with
   | nil=>intro x i;simp
   | cons d l ihl =>
    intro x i;rw [List.foldl_cons,ihl];by_cases h:i<x.size
    ·by_cases h1:i∈l
     ·rw [if_pos ⟨h1,by simpa using h⟩,if_pos ⟨by simp [h1],h⟩]
     ·rw [if_neg (fun q=>h1 q.1)];by_cases e:d=i
      ·subst e;rw [if_pos ⟨by simp,h⟩];simp [h]
      ·rw [if_neg (fun q=>by simp [Ne.symm e,h1] at q),Array.getElem?_setIfInBounds_ne e]
    ·rw [if_neg (fun q=>h (by simpa using q.2)),if_neg (fun q=>h q.2),Array.getElem?_eq_none (by simp;omega),Array.getElem?_eq_none (by omega)]
  have heq:listed=opens.foldl (fun l i=>l.setIfInBounds i true) listed0:=by
   refine Array.ext_getElem? fun i=>?_
   rw [hfold];by_cases h:i∈opens
   ·have h1:=hall i h;have h2:=hlt i h;rw [if_pos ⟨h,by omega⟩];have : i<listed.size:=by omega
    simp [this] at h1 ⊢;exact h1
   ·rw [if_neg (fun q=>h q.1)];exact hl i h
  rw [heq,mkA_eq hd ht hold];exact fin _ w hR hS (fun i hi=>hV i hi (hall i hi)) (fun i hi j hj=>hD i hi j hj (hall i hi) (hall j hj))
 | succ n ih =>
  intro listed a w hs hl hf hd ht hold hR hS hV hO hD hdep
  have hl':∀i,i ∉ opens→∀d,listed.getD i d=listed0.getD i d:=fun i hi d=>by
   have:=hl i hi;simp only [Array.getD_eq_getD_getElem?,this]
  have hrdy:∀i∈opens,listed.getD i false≠true→∃k,k∈Region.ready md ops listed:=by
   suffices ∀m i,i≤m→i∈opens→listed.getD i false≠true→∃k,k∈Region.ready md ops listed from fun i hi hn=>this i i (Nat.le_refl _) hi hn
   intro m
   induction m with
   | zero =>
    intro i him hi hn;have hb:=hop2 i hi
    cases ho:ops[i]? with
    | none=>rw [ho] at hb;simp at hb
    | some o =>
     rw [ho] at hb;simp only [Bool.and_eq_true,List.all_eq_true,decide_eq_true_eq] at hb;refine ⟨i,mem_ready.2 ⟨?_,o,ho,fun e he hbi=>?_⟩⟩
     ·have:=hlt i hi;simp [hs,this] at hn ⊢;exact hn
     ·by_cases q:e.on∈opens
      ·have:=hb.1.1.2 e.on (by unfold depsOf;simp;exact ⟨⟨e,⟨he,hbi⟩,rfl⟩,q⟩);omega
      ·have h3:=hb.1.2 e (by simpa using he);rw [hl' _ q];simpa [hbi,q] using h3
   | succ m ihm =>
    intro i him hi hn;have hb:=hop2 i hi
    cases ho:ops[i]? with
    | none=>rw [ho] at hb;simp at hb
    | some o =>
     rw [ho] at hb;simp only [Bool.and_eq_true,List.all_eq_true,decide_eq_true_eq] at hb;by_cases hex:∃j,(depsOf md opens o).contains j=true∧listed.getD j false≠true
     ·obtain ⟨j,hj,hjn⟩:=hex;have hjm:j∈depsOf md opens o:=by simpa using hj
      have h4:=hb.1.1.2 j hjm;exact ihm j (by omega) (by unfold depsOf at hjm;simp at hjm;exact hjm.2) hjn
     ·refine ⟨i,mem_ready.2 ⟨?_,o,ho,fun e he hbi=>?_⟩⟩
      ·have:=hlt i hi;simp [hs,this] at hn ⊢;exact hn
      ·by_cases q:e.on∈opens
       ·exact Decidable.byContradiction fun hne=>hex ⟨e.on,by unfold depsOf;simp;exact ⟨⟨e,⟨he,hbi⟩,rfl⟩,q⟩,hne⟩
       ·have h3:=hb.1.2 e (by simpa using he);rw [hl' _ q];simpa [hbi,q] using h3
  have hleft:∃i∈opens,listed.getD i false≠true:=by
   have hne:(opens.filter fun i=>!listed.getD i false)≠[]:=fun q=>by rw [q] at hf;simp at hf
   obtain ⟨i,hi⟩:=List.exists_mem_of_ne_nil _ hne;have:=List.mem_filter.1 hi;exact ⟨i,this.1,by simpa using this.2⟩
  obtain ⟨i0,hi0,hn0⟩:=hleft;refine ⟨fun hr=>?_,fun i hi=>?_⟩
  ·obtain ⟨k,hk⟩:=hrdy i0 hi0 hn0;rw [hr] at hk;cases hk
  ·obtain ⟨h1,o,ho,hall⟩:=mem_ready.1 hi
   have hi2:i<ops.size:=by
    rcases Nat.lt_or_ge i ops.size with q | q
    ·exact q
    ·rw [Array.getElem?_eq_none q] at ho;cases ho
   have hun:listed.getD i false=false:=by simp [hs,hi2] at h1 ⊢;exact h1
   have hdl:∀j,(depsOf md opens o).contains j=true→listed.getD j false=true:=fun j hj=>by
    unfold depsOf at hj;simp at hj;obtain ⟨⟨e,⟨he,hb⟩,rfl⟩,_⟩:=hj;exact hall e (by simpa using he) hb
   have hio:i∈opens:=Decidable.byContradiction fun q=>by
    have h3:=hrest i hi2;have h4:listed0.getD i true=false:=by rw [←hl' i q];exact h1
    simp only [h4,Bool.false_or,Bool.or_eq_true,List.all_eq_true] at h3;rcases h3 with (h3 | h3) | h3
    ·exact q (by simpa using h3)
    ·rw [ho] at h3;simp only [List.any_eq_true,Bool.and_eq_true,Bool.not_eq_true'] at h3;obtain ⟨e,he,⟨hb,h5⟩,h6⟩:=h3;have h7:=hall e (by simpa using he) hb;rw [hl' e.on (by simpa using h6),h5] at h7;cases h7
    ·exact hn0 (reach_listed hdep opens.length i i0 (fun o' ho'=>by rw [ho] at ho';injection ho' with ho';subst ho';exact hdl) (h3 i0 hi0))
   have hdo:∀j,(depsOf md opens o).contains j=true→j∈opens:=fun j hj=>by
    unfold depsOf at hj;simp at hj;exact hj.2
   have hb:=hop2 i hio;rw [ho] at hb;simp only [Bool.and_eq_true,List.all_eq_true,decide_eq_true_eq] at hb;have hmk:=mkA_eq hd ht hold;refine wpOp_step ho fun K' hK=>?_
   have hst:=step i hio o ho (fun t=>a.tmps.getD t undef) w hR hS (fun j hj=>hV j (hdo j hj) (hdl j hj)) K' (fun v w' hRw hSw hVi hOi=>?_)
   ·rw [←hmk] at hst;exact hst
   ·rw [←hmk];refine hK _ _ ⟨hSw,?_⟩;have hR2:=Rt w w' hR hRw
    have hsame:∀t,some t≠o.dst→(a.put o.dst v).tmps[t]?=a.tmps[t]?:=fun t h=>by
     cases hod:o.dst with
     | none=>rfl
     | some d=>exact Array.getElem?_setIfInBounds_ne (by rintro rfl;exact h hod.symm)
    have hget:(fun t=>(a.put o.dst v).tmps.getD t undef)=updG (fun t=>a.tmps.getD t undef) o.dst v:=by
     funext t
     unfold updG;by_cases q:some t=o.dst
     ·rw [if_pos q];have hb2:=hb.1.1.1;rw [←q] at hb2;simp only [Bool.and_eq_true,decide_eq_true_eq] at hb2;rw [←q];have : t<a.tmps.size:=by rw [ht];exact hb2.2
      show (a.tmps.setIfInBounds t v).getD t undef=v;simp [this]
     ·rw [if_neg q];have:=hsame t q;simp only [Array.getD_eq_getD_getElem?,this]
    have hsl:∀j∈opens,i≠j→listed.getD j false=true→∀t∈sl j,updG (fun t=>a.tmps.getD t undef) o.dst v t=(fun t=>a.tmps.getD t undef) t:=fun j hj q hjl t htj=>by
     unfold updG;by_cases r:some t=o.dst
     ·exfalso
      have hbj:=hop2 j hj
      cases hoj:ops[j]? with
      | none=>rw [hoj] at hbj;simp at hbj
      | some oj =>
       rw [hoj] at hbj;simp only [Bool.and_eq_true,List.all_eq_true] at hbj;have h5:=hbj.2 i hio;rw [ho] at h5;simp only [←r] at h5;have hne:(j==i)=false:=by simp [Ne.symm q]
       have hc:(sl j).contains t=true:=by simpa using htj
       rw [hne,hc] at h5;simp only [Bool.false_or,Bool.not_true] at h5;have:=hdep j hj oj hoj hjl i h5;rw [this] at hun;cases hun
     ·rw [if_neg r]
    refine ih (listed.setIfInBounds i true) (a.put o.dst v) w' (by simpa using hs) (fun j hj=>?_) ?_ ?_ ?_ (fun t ht2=>?_) hR2 hSw (fun j hj hjl=>?_) (fun j hj hjl k hk=>?_) (fun j hj m hm hjl hml hjm k hk hk2=>?_) (fun j hj o' ho' hjl k hk=>?_)
    ·rw [Array.getElem?_setIfInBounds_ne (fun q=>hj (by rw [←q];exact hio))];exact hl j hj
    ·have hsub:(opens.filter fun j=>!(listed.setIfInBounds i true).getD j false)=((opens.filter fun j=>!listed.getD j false).erase i):=by
      rw [List.Nodup.erase_eq_filter (hnd.filter _),List.filter_filter];refine List.filter_congr fun j hj=>?_
      by_cases q:i=j
      ·subst q;simp [hs,hi2]
      ·rw [getD_set_ne false q];simp [Ne.symm q]
     rw [hsub];have hm:i∈(opens.filter fun j=>!listed.getD j false):=List.mem_filter.2 ⟨hio,by simp [hun]⟩;rw [List.length_erase_of_mem hm,hf];rfl
    ·cases o.dst <;> exact hd
    ·cases o.dst with
     | none=>exact ht
     | some d=>simpa [Act.put] using ht
    ·rw [hsame t (fun q=>?_)]
     ·exact hold t ht2
     ·have hb2:=hb.1.1.1;rw [←q] at hb2;simp only [Bool.and_eq_true] at hb2;exact ht2 (by simpa using hb2.1)
    ·rw [hget];by_cases q:i=j
     ·subst q;exact hVi
     ·rw [getD_set_ne false q] at hjl;exact stable j hj _ _ w w' hR hRw (hsl j hj q hjl) (hV j hj hjl)
    ·rw [hget] at hk;by_cases q:i=j
     ·subst q;exact (hOi k hk).2
     ·rw [getD_set_ne false q] at hjl;exact Nat.lt_of_lt_of_le (hO j hj hjl k (ostable j hj _ _ (hsl j hj q hjl) k hk)) (Rsz w w' hRw)
    ·rw [hget] at hk hk2;by_cases q:i=j
     ·subst q;rw [getD_set_ne false hjm] at hml;have h1:=(hOi k hk).1;have h2:=hO m hm hml k (ostable m hm _ _ (hsl m hm hjm hml) k hk2);omega
     ·rw [getD_set_ne false q] at hjl;have hk3:=ostable j hj _ _ (hsl j hj q hjl) k hk;by_cases q2:i=m
      ·subst q2;have h1:=(hOi k hk2).1;have h2:=hO j hj hjl k hk3;omega
      ·rw [getD_set_ne false q2] at hml;exact hD j hj m hm hjl hml hjm k hk3 (ostable m hm _ _ (hsl m hm q2 hml) k hk2)
    ·by_cases q:i=j
     ·subst q;rw [ho] at ho';injection ho' with ho'
      subst ho';exact getD_set_true (hdl k hk)
     ·rw [getD_set_ne false q] at hjl;exact getD_set_true (hdep j hj o' ho' hjl k hk)
end
end Go.Proofs.Ytdbjgihnngigeaa
namespace Go.Proofs.Ytdbjgihnngigeaa
open Go.RowKit
def set14 (w:World) (g:Nat) (a b c d e f g1 h i j k l m n:Value):World:=(((((((((set5 w g a b c d e).setCell ⟨g,5,none⟩ f).setCell ⟨g,6,none⟩ g1).setCell ⟨g,7,none⟩ h).setCell ⟨g,8,none⟩ i).setCell ⟨g,9,none⟩ j).setCell ⟨g,10,none⟩ k).setCell ⟨g,11,none⟩ l).setCell ⟨g,12,none⟩ m).setCell ⟨g,13,none⟩ n
theorem set14_blk {w:World} {g:Nat} {t:TypeId} {x0 x1 x2 x3 x4 x5 x6 x7 x8 x9 x10 x11 x12 x13:Value} (h:Blk w g t #[x0,x1,x2,x3,x4,x5,x6,x7,x8,x9,x10,x11,x12,x13]) (a b c d e f g1 i j k l m n o:Value):Blk (set14 w g a b c d e f g1 i j k l m n o) g t #[a,b,c,d,e,f,g1,i,j,k,l,m,n,o]:=by
 unfold set14 set5;simpa using (((((((((((((h.set_ 0 a).set_ 1 b).set_ 2 c).set_ 3 d).set_ 4 e).set_ 5 f).set_ 6 g1).set_ 7 i).set_ 8 j).set_ 9 k).set_ 10 l).set_ 11 m).set_ 12 n).set_ 13 o
theorem set14_upd (w:World) (g:Nat) (a b c d e f g1 i j k l m n o:Value):Upd (·=g) w (set14 w g a b c d e f g1 i j k l m n o):=by
 have s:∀(w:World) (i:Nat) (v:Value),Upd (·=g) w (w.setCell ⟨g,i,none⟩ v):=fun w i v=>updCell _ _ _ _
 have t:∀{a b c:World},Upd (·=g) a b→Upd (·=g) b c→Upd (·=g) a c:=fun h k=>h.trans k (fun _ _ h=>h)
 exact t (t (t (t (t (t (t (t (t (set5_upd _ _ _ _ _ _ _) (s _ _ _)) (s _ _ _)) (s _ _ _)) (s _ _ _)) (s _ _ _)) (s _ _ _)) (s _ _ _)) (s _ _ _)) (s _ _ _)
theorem set14_eq (w:World) (g:Nat) (a b c d e f g1 h i j k l m n:Value):(((((((((((((w.setCell ⟨g,0,none⟩ a).setCell ⟨g,1,none⟩ b).setCell ⟨g,2,none⟩ c).setCell ⟨g,3,none⟩ d).setCell ⟨g,4,none⟩ e).setCell ⟨g,5,none⟩ f).setCell ⟨g,6,none⟩ g1).setCell ⟨g,7,none⟩ h).setCell ⟨g,8,none⟩ i).setCell ⟨g,9,none⟩ j).setCell ⟨g,10,none⟩ k).setCell ⟨g,11,none⟩ l).setCell ⟨g,12,none⟩ m).setCell ⟨g,13,none⟩ n=set14 w g a b c d e f g1 h i j k l m n:=rfl
def setRt (w:World) (g:Nat) (a b c d e:Value):World:=((((w.setCell ⟨g,6,none⟩ a).setCell ⟨g,7,none⟩ b).setCell ⟨g,8,none⟩ c).setCell ⟨g,9,none⟩ d).setCell ⟨g,10,none⟩ e
theorem setRt_blk {w:World} {g:Nat} {t:TypeId} {x0 x1 x2 x3 x4 x5 x6 x7 x8 x9 x10 x11 x12 x13:Value} (h:Blk w g t #[x0,x1,x2,x3,x4,x5,x6,x7,x8,x9,x10,x11,x12,x13]) (a b c d e:Value):Blk (setRt w g a b c d e) g t #[x0,x1,x2,x3,x4,x5,a,b,c,d,e,x11,x12,x13]:=by
 unfold setRt;simpa using ((((h.set_ 6 a).set_ 7 b).set_ 8 c).set_ 9 d).set_ 10 e
theorem setRt_upd (w:World) (g:Nat) (a b c d e:Value):Upd (·=g) w (setRt w g a b c d e):=by
 have s:∀(w:World) (i:Nat) (v:Value),Upd (·=g) w (w.setCell ⟨g,i,none⟩ v):=fun w i v=>updCell _ _ _ _
 have t:∀{a b c:World},Upd (·=g) a b→Upd (·=g) b c→Upd (·=g) a c:=fun h k=>h.trans k (fun _ _ h=>h)
 exact t (t (t (t (s _ _ _) (s _ _ _)) (s _ _ _)) (s _ _ _)) (s _ _ _)
theorem setRt_eq (w:World) (g:Nat) (a b c d e:Value):((((w.setCell ⟨g,6,none⟩ a).setCell ⟨g,7,none⟩ b).setCell ⟨g,8,none⟩ c).setCell ⟨g,9,none⟩ d).setCell ⟨g,10,none⟩ e=setRt w g a b c d e:=rfl
theorem aApplicable_c (r:Rl) (a:RlA) (F:Nat→Prop) (w:World) (hk:RlK w F r a) (hz:RlSz r):Calls Try.prog 11 #[rlv r a] w fun e w'=>e=.returned (.bool (applF r))∧Upd Non w w':=by
 obtain ⟨W,HW⟩:=nm (w.alloc (.cells (rlCells r a) 28));have hU:Upd Non w W:=by rw [←HW.out];exact Upd.refl.alloc _
 have hb:Blk W w.heap.size 28 (rlCells r a):=by rw [←HW.out];exact Blk.new _ _ _
 have e0:=HW.out;have hK:=(hk.mono (G:=fun k=>k<w.heap.size) (fun _ h _=>h)).upd hU (fun _ _ _ f=>f);have hc0:=rl_cells hb;obtain ⟨c0,c1,c2,c3,c4,c5,c6,c7,c8,c9,c10,c11,c12,c13⟩:=hc0;have CB:=h_ (aBuild_c r a _ W hK hz);have HU:=h_ hU;clear hk hz hK hb hU;unfold rlv at CB ⊢;unfold rlCells at CB e0 ⊢;go_enter Try.func11,Try.ntmps11;go_wp2_with fail
 refine CB.out.mono ?_;rintro e w2 ⟨v,rfl,u2,hB⟩;have u3:=HU.out.then_non u2;clear hB;go_wp2_with fail
 go_ret;exact ⟨rfl,u3⟩
def PB (w:World) (i:Nat):Prop:=∃cs,Blk w i 24 cs
def IsQ (w:World) (p:Pt) (v:Value):Prop:=∃KA kc,v=pv p KA kc∧PtK w (PB w) p KA kc
theorem PtK.pb {w w':World} {S:Nat→Prop} {p:Pt} {KA:Option Addr} {kc:Nat} (h:PtK w (PB w) p KA kc) (u:Upd S w w') (d:∀i cs,Blk w i 24 cs→¬S i):PtK w' (PB w') p KA kc:=by
 have h1:=PtK.mono (G:=fun i=>PB w i∧PB w' i) (fun i _ q=>⟨q,by obtain ⟨cs,hb⟩:=q;exact ⟨cs,hb.upd u (d i cs hb)⟩⟩) p KA kc h;exact PtK.mono (fun i _ q=>q.2) p KA kc (PtK.upd u (fun i _ q=>by obtain ⟨cs,hb⟩:=q.1;exact d i cs hb) p KA kc h1)
theorem IsQ.upd {w w':World} {S:Nat→Prop} {p:Pt} {v:Value} (h:IsQ w p v) (u:Upd S w w') (d:∀i cs,Blk w i 24 cs→¬S i):IsQ w' p v:=by
 obtain ⟨KA,kc,h1,h2⟩:=h;exact ⟨KA,kc,h1,h2.pb u d⟩
set_option maxRecDepth 100000 in
set_option maxHeartbeats 4000000 in
theorem pair19_c (w:World) (k:Int) (a b:Pt) {v u:Value} (hv:IsQ w a v) (hu:IsQ w b u):Calls Try.prog 8 #[.int .i64 k,v,u] w fun e w'=>∃KA kc,e=.returned (pv (q2 k a b) KA kc)∧PtK w' (PB w') (q2 k a b) KA kc∧Upd Non w w':=by
 obtain ⟨KA,ka,rfl,ha⟩:=hv;obtain ⟨KB,kb,rfl,hb⟩:=hu;go_enter Try.func8,Try.ntmps8;unfold pv;go_wp2_with fail
 refine bodyPost_ret (results_cell_row rfl _ _ (w.heap.size+1+1) 24 #[.int .i64 0,.int .i64 k,.int .i64 0,.int .i64 0,.slice (some ⟨w.heap.size+1+1+1,0,none⟩) 2 2] (0,0) _ rfl ((Blk.new' (by simp)).alloc _) Try.underlying24 rfl (by kernel_rfl)) rfl ?_
 obtain ⟨W1,HW1⟩:=nm ((((w.alloc (.cells #[.int .i64 a.v,.int .i64 a.op,.int .i64 a.imm,.int .i64 a.iv,.slice KA a.kids.length ka] 24)).alloc (.cells #[.int .i64 b.v,.int .i64 b.op,.int .i64 b.imm,.int .i64 b.iv,.slice KB b.kids.length kb] 24)).alloc (.cells #[.int .i64 0,.int .i64 k,.int .i64 0,.int .i64 0,.slice (some ⟨w.heap.size+1+1+1,0,none⟩) 2 2] 24)).alloc (.cells #[.int .i64 a.v,.int .i64 a.op,.int .i64 a.imm,.int .i64 a.iv,.slice KA a.kids.length ka,.int .i64 b.v,.int .i64 b.op,.int .i64 b.imm,.int .i64 b.iv,.slice KB b.kids.length kb] 24))
 rw [HW1.out];have hU:Upd Non w W1:=by rw [←HW1.out];exact (((Upd.refl.alloc _).alloc _).alloc _).alloc _
 have hk:Blk W1 (w.heap.size+1+1+1) 24 #[.int .i64 a.v,.int .i64 a.op,.int .i64 a.imm,.int .i64 a.iv,.slice KA a.kids.length ka,.int .i64 b.v,.int .i64 b.op,.int .i64 b.imm,.int .i64 b.iv,.slice KB b.kids.length kb]:=by rw [←HW1.out];exact Blk.new' (by simp)
 refine ⟨_,_,rfl,?_,hU⟩;exact PtK.two _ _ _ _ hk (ha.pb hU (fun _ _ _ f=>f)) (hb.pb hU (fun _ _ _ f=>f)) ⟨_,hk⟩ (by omega)
theorem updG_at {g:Nat→Value} {d:Nat} {v:Value}:updG g (some d) v d=v:=if_pos rfl
def zero14:Array Value:=#[.string ⟨#[]⟩,.int .i64 0,.int .i64 0,.int .i64 0,.int .i64 0,.slice none 0 0,.int .i64 0,.int .i64 0,.int .i64 0,.int .i64 0,.slice none 0 0,.slice none 0 0,.int .i64 0,.int .i64 0]
def IsVarR (n:Nat) (w:World) (v:Value):Prop:=∃b,v=.pointer (some ⟨b,0,none⟩)∧n≤b∧Blk w b 28 zero14
def IsRl (r:Rl) (w:World) (v:Value):Prop:=∃a,v=rlv r a∧RlK w (PB w) r a
theorem RlK.pb {w w':World} {S:Nat→Prop} {r:Rl} {a:RlA} (hc:r.conds=[]) (h:RlK w (PB w) r a) (u:Upd S w w') (d:∀i cs,Blk w i 24 cs→¬S i):RlK w' (PB w') r a:=⟨h.l.pb u d,h.r.pb u d,.inl hc,h.le⟩
def eqv (n:Int):Value:=.agg #[.int .i64 n,.int .i64 0,.int .i64 0,.int .i64 0,.slice none 0 0]
theorem isQ_v (w:World) (n:Int):IsQ w (qv n) (eqv n):=⟨none,0,rfl,PtK.leaf⟩
theorem isQ_c (w:World) (n:Int):IsQ w (q1c n) (.agg #[.int .i64 0,.int .i64 1,.int .i64 n,.int .i64 0,.slice none 0 0]):=⟨none,0,rfl,PtK.leaf⟩
def eV3 (n:Nat) (i:Nat) (g:Nat→Value) (w:World):Prop :=
 match i with
 | 2=>IsQ w exL1 (g 15)
 | 5=>IsQ w (q2 11 (qv 1) (qv 2)) (g 18)
 | 8=>IsQ w (q2 9 (qv 1) (qv 2)) (g 21)
 | 10=>IsQ w (q2 12 (q2 9 (qv 1) (qv 2)) (q1c 1)) (g 23)
 | 11=>IsQ w exR1 (g 24)
 | 12=>IsRl exA w (g 25)
 | 13=>IsVarR n w (g 4)
 | _=>True
def eV5 (n:Nat) (i:Nat) (g:Nat→Value) (w:World):Prop :=
 match i with
 | 2=>IsQ w exL1 (g 33)
 | 5=>IsQ w (q2 10 (qv 1) (qv 2)) (g 36)
 | 6=>IsRl exB w (g 37)
 | 7=>IsVarR n w (g 7)
 | _=>True
def eS5 (i:Nat):List Nat :=
 match i with
 | 2=>[33]
 | 5=>[36]
 | 6=>[37]
 | 7=>[7]
 | _=>[]
def eS3 (i:Nat):List Nat :=
 match i with
 | 2=>[15]
 | 5=>[18]
 | 8=>[21]
 | 10=>[23]
 | 11=>[24]
 | 12=>[25]
 | 13=>[4]
 | _=>[]
set_option maxRecDepth 100000 in
set_option maxHeartbeats 16000000 in
theorem auExamples_c (w:World):Calls Try.prog 3 #[] w fun e w'=>e=.returned (.bool true)∧Upd Non w w':=by
 go_enter Try.func3,Try.ntmps3
 go_upto_region 3 with fail
 obtain ⟨W0,HW0⟩:=nm (((w.alloc (.cells #[.int .i64 1,.int .i64 0,.int .i64 0,.int .i64 0,.slice none 0 0] 24)).alloc (.cells #[.int .i64 2,.int .i64 0,.int .i64 0,.int .i64 0,.slice none 0 0] 24)).alloc (.cells #[.int .i64 0,.int .i64 1,.int .i64 1,.int .i64 0,.slice none 0 0] 24))
 rw [HW0.out];have hU0:Upd Non w W0:=by rw [←HW0.out];exact ((Upd.refl.alloc _).alloc _).alloc _
 have hb1:Blk W0 w.heap.size 24 #[.int .i64 1,.int .i64 0,.int .i64 0,.int .i64 0,.slice none 0 0]:=by rw [←HW0.out];exact ((Blk.new' rfl).alloc _).alloc _
 have hb2:Blk W0 (w.heap.size+1) 24 #[.int .i64 2,.int .i64 0,.int .i64 0,.int .i64 0,.slice none 0 0]:=by rw [←HW0.out];exact (Blk.new' (by simp)).alloc _
 have hb3:Blk W0 (w.heap.size+1+1) 24 #[.int .i64 0,.int .i64 1,.int .i64 1,.int .i64 0,.slice none 0 0]:=by rw [←HW0.out];exact Blk.new' (by simp)
 have hs1:=hb1.lt;have hs2:=hb2.lt;have hs3:=hb3.lt;obtain ⟨a1,ha1⟩:∃n,w.heap.size=n:=⟨_,rfl⟩;obtain ⟨a2,ha2⟩:∃n,w.heap.size+1=n:=⟨_,rfl⟩;obtain ⟨a3,ha3⟩:∃n,w.heap.size+1+1=n:=⟨_,rfl⟩;rw [ha1] at hb1 hs1;rw [ha2] at hb2 hs2;rw [ha3] at hb3 hs3;rw [ha3,ha2,ha1]
 have HSS:Hid (∀(S:Nat→Prop) (w':World),Upd S W0 w'→(∀i cs,Blk W0 i 24 cs→¬S i)→w'.cell? ⟨a1,0,none⟩=some (.int .i64 1)∧w'.cell? ⟨a1,1,none⟩=some (.int .i64 0)∧w'.cell? ⟨a1,2,none⟩=some (.int .i64 0)∧w'.cell? ⟨a1,3,none⟩=some (.int .i64 0)∧w'.cell? ⟨a1,4,none⟩=some (.slice none 0 0) ∧
   w'.cell? ⟨a2,0,none⟩=some (.int .i64 2)∧w'.cell? ⟨a2,1,none⟩=some (.int .i64 0)∧w'.cell? ⟨a2,2,none⟩=some (.int .i64 0)∧w'.cell? ⟨a2,3,none⟩=some (.int .i64 0)∧w'.cell? ⟨a2,4,none⟩=some (.slice none 0 0) ∧
   w'.cell? ⟨a3,0,none⟩=some (.int .i64 0)∧w'.cell? ⟨a3,1,none⟩=some (.int .i64 1)∧w'.cell? ⟨a3,2,none⟩=some (.int .i64 1)∧w'.cell? ⟨a3,3,none⟩=some (.int .i64 0)∧w'.cell? ⟨a3,4,none⟩=some (.slice none 0 0)):=fun S w' u d=>by
  have h1:=hb1.upd u (d _ _ hb1);have h2:=hb2.upd u (d _ _ hb2);have h3:=hb3.upd u (d _ _ hb3);exact ⟨h1.cell 0,h1.cell 1,h1.cell 2,h1.cell 3,h1.cell 4,h2.cell 0,h2.cell 1,h2.cell 2,h2.cell 3,h2.cell 4,h3.cell 0,h3.cell 1,h3.cell 2,h3.cell 3,h3.cell 4⟩
 have HU0:=h_ hU0;clear hb1 hb2 hb3 hs1 hs2 hs3 hU0 ha1 ha2 ha3;obtain ⟨wD,HwD⟩:=nm W0.drew;have uD:Upd Non W0 wD:=by rw [←HwD.out];exact Upd.refl.drew
 refine wp_region_held_drew (S:=fun w'=>w'.cell? ⟨a1,0,none⟩=some (.int .i64 1)∧w'.cell? ⟨a1,1,none⟩=some (.int .i64 0)∧w'.cell? ⟨a1,2,none⟩=some (.int .i64 0)∧w'.cell? ⟨a1,3,none⟩=some (.int .i64 0)∧w'.cell? ⟨a1,4,none⟩=some (.slice none 0 0)∧w'.cell? ⟨a2,0,none⟩=some (.int .i64 2)∧w'.cell? ⟨a2,1,none⟩=some (.int .i64 0)∧w'.cell? ⟨a2,2,none⟩=some (.int .i64 0)∧w'.cell? ⟨a2,3,none⟩=some (.int .i64 0)∧w'.cell? ⟨a2,4,none⟩=some (.slice none 0 0)∧w'.cell? ⟨a3,0,none⟩=some (.int .i64 0)∧w'.cell? ⟨a3,1,none⟩=some (.int .i64 1)∧w'.cell? ⟨a3,2,none⟩=some (.int .i64 1)∧w'.cell? ⟨a3,3,none⟩=some (.int .i64 0)∧w'.cell? ⟨a3,4,none⟩=some (.slice none 0 0)) (by kernel_rfl) (by rw [HwD.out];exact HSS.out Non wD uD (fun _ _ _ f=>f)) (fun hHeld=>?_)
 rw [HwD.out] at hHeld ⊢;refine wpT 0 ?_;(try simp only [y_,z_]);refine wpT 1 ?_;(try simp only [y_,z_]);refine wpT 3 ?_;(try simp only [y_,z_]);refine wpT 4 ?_;(try simp only [y_,z_]);refine wpT 6 ?_;(try simp only [y_,z_]);refine wpT 7 ?_;(try simp only [y_,z_]);refine wpT 9 ?_;(try simp only [y_,z_]);refine wpAnyH_facts (fuel:=1) [2,5,8,10,11,12,13] [15,18,21,23,24,25,4] eS3 (fun w w'=>Upd Non w w') (eV3 W0.heap.size) (fun _ _ _=>False) (by kernel_rfl) (by decide) hHeld Upd.refl (fun _ _ h k=>h.then_non k) ?_ (fun _ _ h=>h.size) (fun _ _ _ _ _ _ h=>h) ?_ ?_
 ·intro i hi g g' w1 w2 _ hR hs hV;simp only [List.mem_cons,List.not_mem_nil,or_false] at hi;rcases hi with rfl | rfl | rfl | rfl | rfl | rfl | rfl <;> simp only [eS3,List.mem_cons,List.not_mem_nil,or_false,forall_eq] at hs <;> simp only [eV3,hs] at hV ⊢
  ·exact hV.upd hR (fun _ _ _ f=>f)
  ·exact hV.upd hR (fun _ _ _ f=>f)
  ·exact hV.upd hR (fun _ _ _ f=>f)
  ·exact hV.upd hR (fun _ _ _ f=>f)
  ·exact hV.upd hR (fun _ _ _ f=>f)
  ·obtain ⟨a,h1,h2⟩:=hV;exact ⟨a,h1,h2.pb rfl hR (fun _ _ _ f=>f)⟩
  ·obtain ⟨b,h1,h2,h3⟩:=hV;exact ⟨b,h1,h2,h3.upd hR (fun f=>f)⟩
 ·intro i hi;simp only [List.mem_cons,List.not_mem_nil,or_false] at hi;rcases hi with rfl | rfl | rfl | rfl | rfl | rfl | rfl
  ·refine StepF.of rfl (fun g w1 hR hS hd K hK=>?_);simp only [y_] at hK ⊢;clear hd;simp only [mkA,List.foldl_cons,List.foldl_nil,z_] at hK ⊢;go_simp;refine (pair19_c w1 4 (qv 1) (qv 2) (isQ_v _ 1) (isQ_v _ 2)).mono ?_;rintro e w2 ⟨KA,kc,rfl,hk,hu⟩;go_wp2_with fail
   refine hK.out _ _ hu (HSS.out Non w2 ((uD.then_non hR).then_non hu) (fun _ _ _ f=>f)) ?_ (fun _ h=>h.elim);show IsQ w2 _ _;rw [updG_at];exact ⟨KA,kc,rfl,hk⟩
  ·refine StepF.of rfl (fun g w1 hR hS hd K hK=>?_);simp only [y_] at hK ⊢;clear hd;simp only [mkA,List.foldl_cons,List.foldl_nil,z_] at hK ⊢;go_simp;refine (pair19_c w1 11 (qv 1) (qv 2) (isQ_v _ 1) (isQ_v _ 2)).mono ?_;rintro e w2 ⟨KA,kc,rfl,hk,hu⟩;go_wp2_with fail
   refine hK.out _ _ hu (HSS.out Non w2 ((uD.then_non hR).then_non hu) (fun _ _ _ f=>f)) ?_ (fun _ h=>h.elim);show IsQ w2 _ _;rw [updG_at];exact ⟨KA,kc,rfl,hk⟩
  ·refine StepF.of rfl (fun g w1 hR hS hd K hK=>?_);simp only [y_] at hK ⊢;clear hd;simp only [mkA,List.foldl_cons,List.foldl_nil,z_] at hK ⊢;go_simp;refine (pair19_c w1 9 (qv 1) (qv 2) (isQ_v _ 1) (isQ_v _ 2)).mono ?_;rintro e w2 ⟨KA,kc,rfl,hk,hu⟩;go_wp2_with fail
   refine hK.out _ _ hu (HSS.out Non w2 ((uD.then_non hR).then_non hu) (fun _ _ _ f=>f)) ?_ (fun _ h=>h.elim);show IsQ w2 _ _;rw [updG_at];exact ⟨KA,kc,rfl,hk⟩
  ·refine StepF.of rfl (fun g w1 hR hS hd K hK=>?_);simp only [y_] at hK ⊢;obtain ⟨K8,k8,e8,h8⟩:IsQ w1 (q2 9 (qv 1) (qv 2)) (g 21):=hd 8 (by kernel_rfl);unfold pv at e8;clear hd;simp only [mkA,List.foldl_cons,List.foldl_nil,z_,e8] at hK ⊢;go_simp;refine (pair19_c w1 12 (q2 9 (qv 1) (qv 2)) (q1c 1) ⟨K8,k8,rfl,h8⟩ (isQ_c _ 1)).mono ?_;rintro e w2 ⟨KA,kc,rfl,hk,hu⟩;go_wp2_with fail
   refine hK.out _ _ hu (HSS.out Non w2 ((uD.then_non hR).then_non hu) (fun _ _ _ f=>f)) ?_ (fun _ h=>h.elim);show IsQ w2 _ _;rw [updG_at];exact ⟨KA,kc,rfl,hk⟩
  ·refine StepF.of rfl (fun g w1 hR hS hd K hK=>?_);simp only [y_] at hK ⊢;obtain ⟨K5,k5,e5,h5⟩:IsQ w1 (q2 11 (qv 1) (qv 2)) (g 18):=hd 5 (by kernel_rfl);obtain ⟨K10,k10,e10,h10⟩:IsQ w1 (q2 12 (q2 9 (qv 1) (qv 2)) (q1c 1)) (g 23):=hd 10 (by kernel_rfl);unfold pv at e5 e10;clear hd;simp only [mkA,List.foldl_cons,List.foldl_nil,z_,e5,e10] at hK ⊢;go_simp;refine (pair19_c w1 4 (q2 11 (qv 1) (qv 2)) (q2 12 (q2 9 (qv 1) (qv 2)) (q1c 1)) ⟨K5,k5,rfl,h5⟩ ⟨K10,k10,rfl,h10⟩).mono ?_;rintro e w2 ⟨KA,kc,rfl,hk,hu⟩;go_wp2_with fail
   refine hK.out _ _ hu (HSS.out Non w2 ((uD.then_non hR).then_non hu) (fun _ _ _ f=>f)) ?_ (fun _ h=>h.elim);show IsQ w2 _ _;rw [updG_at];exact ⟨KA,kc,rfl,hk⟩
  ·refine StepF.of rfl (fun g w1 hR hS hd K hK=>?_);simp only [y_] at hK ⊢;obtain ⟨K2,k2,e2,h2⟩:IsQ w1 exL1 (g 15):=hd 2 (by kernel_rfl);obtain ⟨K11,k11,e11,h11⟩:IsQ w1 exR1 (g 24):=hd 11 (by kernel_rfl);unfold pv at e2 e11;clear hd;simp only [mkA,List.foldl_cons,List.foldl_nil,z_,e2,e11] at hK ⊢;go_simp;refine hK.out _ _ Upd.refl hS ?_ (fun _ h=>h.elim);show IsRl exA w1 _;rw [updG_at];exact ⟨⟨K2,k2,K11,k11,none,0⟩,rfl,⟨h2,h11,.inl rfl,Nat.le_refl _⟩⟩
  ·refine StepF.of rfl (fun g w1 hR hS hd K hK=>?_);simp only [y_] at hK ⊢;clear hd;simp only [mkA,List.foldl_cons,List.foldl_nil,z_] at hK ⊢;go_simp;refine hK.out _ _ (Upd.refl.alloc _) (HSS.out Non _ ((uD.then_non hR).alloc _) (fun _ _ _ f=>f)) ?_ (fun _ h=>h.elim);show IsVarR _ _ _;rw [updG_at];exact ⟨w1.heap.size,rfl,by have h1:=uD.size;have h2:=hR.size;omega,Blk.new _ _ _⟩
 ·intro g w1 hR hS hV _;obtain ⟨aA,e25,hkA⟩:IsRl exA w1 (g 25):=hV 12 (by simp);obtain ⟨b4,e4,hb4n,hb4⟩:IsVarR W0.heap.size w1 (g 4):=hV 13 (by simp);clear hV;unfold rlv rlCells at e25;simp only [mkA,List.foldl_cons,List.foldl_nil,z_,e25,e4];clear e25 e4;generalize g 15=g15;generalize g 18=g18;generalize g 21=g21;generalize g 23=g23;generalize g 24=g24;clear g;unfold zero14 at hb4;have hN:∀i cs,Blk w1 i 24 cs→¬i=b4:=fun i cs hb e=>by subst e;exact hb.ne_ hb4 (by decide) rfl
  have hN0:∀i cs,Blk W0 i 24 cs→¬i=b4:=fun i cs hb e=>hN i cs (hb.upd (uD.then_non hR) (fun f=>f)) e
  have q0:=hb4.cell 0;have q1:=hb4.cell 1;have q2:=hb4.cell 2;have q3:=hb4.cell 3;have q4:=hb4.cell 4;have q5:=hb4.cell 5;have q6:=hb4.cell 6;have q7:=hb4.cell 7;have q8:=hb4.cell 8;have q9:=hb4.cell 9;have q10:=hb4.cell 10;have q11:=hb4.cell 11;have q12:=hb4.cell 12;have q13:=hb4.cell 13;have f0:=hb4.frozen;refine aR_ (rs:=[14]) (by kernel_rfl) (by simp) ?_;refine aC_ rfl (fun K hK=>?_) aN_;go_simp;obtain ⟨X1,HX1⟩:=nm (set14 w1 b4 (.string exA.name) (.int .i64 exA.l.v) (.int .i64 exA.l.op) (.int .i64 exA.l.imm) (.int .i64 exA.l.iv) (.slice aA.la exA.l.kids.length aA.lc) (.int .i64 exA.r.v) (.int .i64 exA.r.op) (.int .i64 exA.r.imm) (.int .i64 exA.r.iv) (.slice aA.ra exA.r.kids.length aA.rc) (.slice aA.ca exA.conds.length aA.cc) (.int .i64 exA.vars) (.int .i64 exA.imms))
  have uX:Upd (·=b4) w1 X1:=by rw [←HX1.out];exact set14_upd _ _ _ _ _ _ _ _ _ _ _ _ _ _ _ _
  have hX:Blk X1 b4 28 (rlCells exA aA):=by rw [←HX1.out];exact set14_blk hb4 _ _ _ _ _ _ _ _ _ _ _ _ _ _
  have hkX:=hkA.pb rfl uX hN;have uWX:Upd (·=b4) W0 X1:=((uD.then_non hR).mono (fun _ _ f=>f.elim)).trans uX (fun _ _ q=>q);have hSX:=HSS.out (·=b4) X1 uWX hN0;rw [←HX1.out] at hSX;refine hK.out _ _ ?_ (fun hHeld=>?_)
  ·exact hSX
  clear hK K;(try simp only [y_,z_]);rw [set14_eq,HX1.out];clear q0 q1 q2 q3 q4 q5 q6 q7 q8 q9 q10 q11 q12 q13 f0 hb4 hSX hkA hN hHeld;have HUX:=h_ uWX;have HN0:=h_ hN0;have HXB:=h_ hX;have HKX:=h_ hkX;have hzA:RlSz exA:=⟨by decide +kernel,by decide +kernel,by decide +kernel,by decide +kernel⟩;have hzB:RlSz exB:=⟨by decide +kernel,by decide +kernel,by decide +kernel,by decide +kernel⟩;have HZA:=h_ hzA;have HZB:=h_ hzB;have CP:=h_ (aProve_c exA aA _ X1 hkX hzA);unfold rlv rlCells at CP;obtain ⟨c0,c1,c2,c3,c4,c5,c6,c7,c8,c9,c10,c11,c12,c13⟩:=rl_cells hX;clear uX hX hkX hzA hzB hN0 uWX hS hR uD HX1 HwD HW0;refine aD_ (by kernel_rfl) ?_ _;go_wp2_with fail
  refine CP.out.mono ?_;rintro e w3 ⟨u3,hP⟩
  have hP2:∃OA on oc,e=.returned (.tuple #[.slice OA on oc,.bool true])∧ElO ElAS 2 46 w3 (U8B w3) OA on oc ((lvls exA 65).map asE):=by
   rcases hP with ⟨l,OA,on,oc,hl,he,hO,_⟩ | ⟨hno,_⟩
   ·rw [exA_aut.1] at hl;injection hl with hl
    subst hl;exact ⟨OA,on,oc,he,hO⟩
   ·rw [exA_aut.1] at hno;cases hno
  obtain ⟨OA,on,oc,rfl,hO⟩:=hP2;have hon:((lvls exA 65).map asE).length=on:=hO.1.symm;have hon64:64<on:=by rw [←hon,List.length_map];exact exA_aut.2.1
  have ton:decide ((on:Int) > 64)=true:=dT_ (by omega);have HON:=h_ hon;have HO:=h_ hO;have HU3:Hid (Upd (·=b4) W0 w3):=HUX.out.then_non u3;have HX3:=h_ (HXB.out.upd u3 (fun f=>f));have HK3:=h_ (HKX.out.pb rfl u3 (fun _ _ _ f=>f));clear hP hon hO c0 c1 c2 c3 c4 c5 c6 c7 c8 c9 c10 c11 c12 c13 CP u3;obtain ⟨wD,HwD⟩:=nm w3.drew;have uD:Upd Non w3 wD:=by rw [←HwD.out];exact Upd.refl.drew
  go_wp2_with fail
  refine wp_region_held_drew (S:=fun w'=>w'.cell? ⟨a1,0,none⟩=some (.int .i64 1)∧w'.cell? ⟨a1,1,none⟩=some (.int .i64 0)∧w'.cell? ⟨a1,2,none⟩=some (.int .i64 0)∧w'.cell? ⟨a1,3,none⟩=some (.int .i64 0)∧w'.cell? ⟨a1,4,none⟩=some (.slice none 0 0)∧w'.cell? ⟨a2,0,none⟩=some (.int .i64 2)∧w'.cell? ⟨a2,1,none⟩=some (.int .i64 0)∧w'.cell? ⟨a2,2,none⟩=some (.int .i64 0)∧w'.cell? ⟨a2,3,none⟩=some (.int .i64 0)∧w'.cell? ⟨a2,4,none⟩=some (.slice none 0 0)∧w'.cell? ⟨a3,0,none⟩=some (.int .i64 0)∧w'.cell? ⟨a3,1,none⟩=some (.int .i64 1)∧w'.cell? ⟨a3,2,none⟩=some (.int .i64 1)∧w'.cell? ⟨a3,3,none⟩=some (.int .i64 0)∧w'.cell? ⟨a3,4,none⟩=some (.slice none 0 0)) (by kernel_rfl) (by rw [HwD.out];exact HSS.out _ wD (HU3.out.then_non uD) HN0.out) (fun hHeld=>?_)
  rw [HwD.out] at hHeld ⊢;refine wpT 0 ?_;(try simp only [y_,z_]);refine wpT 1 ?_;(try simp only [y_,z_]);refine wpT 3 ?_;(try simp only [y_,z_]);refine wpT 4 ?_;(try simp only [y_,z_]);refine wpAnyH_facts (fuel:=1) [2,5,6,7] [33,36,37,7] eS5 (fun w w'=>Upd Non w w') (eV5 w3.heap.size) (fun _ _ _=>False) (by kernel_rfl) (by decide) hHeld Upd.refl (fun _ _ h k=>h.then_non k) ?_ (fun _ _ h=>h.size) (fun _ _ _ _ _ _ h=>h) ?_ ?_
  ·intro i hi g g' w1 w2 _ hR hs hV;simp only [List.mem_cons,List.not_mem_nil,or_false] at hi;rcases hi with rfl | rfl | rfl | rfl <;> simp only [eS5,List.mem_cons,List.not_mem_nil,or_false,forall_eq] at hs <;> simp only [eV5,hs] at hV ⊢
   ·exact hV.upd hR (fun _ _ _ f=>f)
   ·exact hV.upd hR (fun _ _ _ f=>f)
   ·obtain ⟨a,h1,h2⟩:=hV;exact ⟨a,h1,h2.pb rfl hR (fun _ _ _ f=>f)⟩
   ·obtain ⟨b,h1,h2,h3⟩:=hV;exact ⟨b,h1,h2,h3.upd hR (fun f=>f)⟩
  ·intro i hi;simp only [List.mem_cons,List.not_mem_nil,or_false] at hi;rcases hi with rfl | rfl | rfl | rfl
   ·refine StepF.of rfl (fun g w1 hR hS hd K hK=>?_);simp only [y_] at hK ⊢;clear hd;simp only [mkA,List.foldl_cons,List.foldl_nil,z_] at hK ⊢;go_simp;refine (pair19_c w1 4 (qv 1) (qv 2) (isQ_v _ 1) (isQ_v _ 2)).mono ?_;rintro e w2 ⟨KA,kc,rfl,hk,hu⟩;go_wp2_with fail
    refine hK.out _ _ hu (HSS.out _ w2 (((HU3.out.then_non uD).then_non hR).then_non hu) HN0.out) ?_ (fun _ h=>h.elim);show IsQ w2 _ _;rw [updG_at];exact ⟨KA,kc,rfl,hk⟩
   ·refine StepF.of rfl (fun g w1 hR hS hd K hK=>?_);simp only [y_] at hK ⊢;clear hd;simp only [mkA,List.foldl_cons,List.foldl_nil,z_] at hK ⊢;go_simp;refine (pair19_c w1 10 (qv 1) (qv 2) (isQ_v _ 1) (isQ_v _ 2)).mono ?_;rintro e w2 ⟨KA,kc,rfl,hk,hu⟩;go_wp2_with fail
    refine hK.out _ _ hu (HSS.out _ w2 (((HU3.out.then_non uD).then_non hR).then_non hu) HN0.out) ?_ (fun _ h=>h.elim);show IsQ w2 _ _;rw [updG_at];exact ⟨KA,kc,rfl,hk⟩
   ·refine StepF.of rfl (fun g w1 hR hS hd K hK=>?_);simp only [y_] at hK ⊢;obtain ⟨K2,k2,e2,h2⟩:IsQ w1 exL1 (g 33):=hd 2 (by kernel_rfl);obtain ⟨K5,k5,e5,h5⟩:IsQ w1 (q2 10 (qv 1) (qv 2)) (g 36):=hd 5 (by kernel_rfl);unfold pv at e2 e5;clear hd;simp only [mkA,List.foldl_cons,List.foldl_nil,z_,e2,e5] at hK ⊢;go_simp;refine hK.out _ _ Upd.refl hS ?_ (fun _ h=>h.elim);show IsRl exB w1 _;rw [updG_at];exact ⟨⟨K2,k2,K5,k5,none,0⟩,rfl,⟨h2,h5,.inl rfl,Nat.le_refl _⟩⟩
   ·refine StepF.of rfl (fun g w1 hR hS hd K hK=>?_);simp only [y_] at hK ⊢;clear hd;simp only [mkA,List.foldl_cons,List.foldl_nil,z_] at hK ⊢;go_simp;refine hK.out _ _ (Upd.refl.alloc _) (HSS.out _ _ (((HU3.out.then_non uD).then_non hR).alloc _) HN0.out) ?_ (fun _ h=>h.elim);show IsVarR _ _ _;rw [updG_at];exact ⟨w1.heap.size,rfl,by have h1:=uD.size;have h2:=hR.size;omega,Blk.new _ _ _⟩
  ·intro g w1 hR hS hV _;obtain ⟨aB,e37,hkB⟩:IsRl exB w1 (g 37):=hV 6 (by simp);obtain ⟨b7,e7,hb7n,hb7⟩:IsVarR w3.heap.size w1 (g 7):=hV 7 (by simp);clear hV;unfold rlv rlCells at e37;simp only [mkA,List.foldl_cons,List.foldl_nil,z_,e37,e7];clear e37 e7;generalize g 33=g33;generalize g 36=g36;clear g;unfold zero14 at hb7;have hN:∀i cs,Blk w1 i 24 cs→¬i=b7:=fun i cs hb e=>by subst e;exact hb.ne_ hb7 (by decide) rfl
   have hu31:=uD.then_non hR;have hb47:b4≠b7:=by have:=HX3.out.lt;omega
   have q0:=hb7.cell 0;have q1:=hb7.cell 1;have q2:=hb7.cell 2;have q3:=hb7.cell 3;have q4:=hb7.cell 4;have q5:=hb7.cell 5;have q6:=hb7.cell 6;have q7:=hb7.cell 7;have q8:=hb7.cell 8;have q9:=hb7.cell 9;have q10:=hb7.cell 10;have q11:=hb7.cell 11;have q12:=hb7.cell 12;have q13:=hb7.cell 13;have f0:=hb7.frozen;refine aR_ (rs:=[8]) (by kernel_rfl) (by simp) ?_;refine aC_ rfl (fun K hK=>?_) aN_;go_simp;obtain ⟨X2,HX2⟩:=nm (set14 w1 b7 (.string exB.name) (.int .i64 exB.l.v) (.int .i64 exB.l.op) (.int .i64 exB.l.imm) (.int .i64 exB.l.iv) (.slice aB.la exB.l.kids.length aB.lc) (.int .i64 exB.r.v) (.int .i64 exB.r.op) (.int .i64 exB.r.imm) (.int .i64 exB.r.iv) (.slice aB.ra exB.r.kids.length aB.rc) (.slice aB.ca exB.conds.length aB.cc) (.int .i64 exB.vars) (.int .i64 exB.imms))
   have uX:Upd (·=b7) w1 X2:=by rw [←HX2.out];exact set14_upd _ _ _ _ _ _ _ _ _ _ _ _ _ _ _ _
   have hX:Blk X2 b7 28 (rlCells exB aB):=by rw [←HX2.out];exact set14_blk hb7 _ _ _ _ _ _ _ _ _ _ _ _ _ _
   have hkX:=hkB.pb rfl uX hN;have u3X:Upd (·=b7) w3 X2:=(hu31.mono (fun _ _ f=>f.elim)).trans uX (fun _ _ q=>q);have uWX:Upd (fun i=>i=b4∨i=b7) W0 X2:=(HU3.out.mono (fun _ _ q=>.inl q)).trans u3X (fun _ _ q=>.inr q)
   have hN7:∀i cs,Blk W0 i 24 cs→¬(i=b4∨i=b7):=fun i cs hb e=>by
    rcases e with e | e
    ·exact HN0.out i cs hb e
    ·have h1:=hb.lt;have h2:=HU3.out.size;omega
   have hSX:=HSS.out _ X2 uWX hN7;rw [←HX2.out] at hSX;refine hK.out _ _ ?_ (fun hHeld=>?_)
   ·exact hSX
   clear hK K;(try simp only [y_,z_]);rw [set14_eq,HX2.out];have HX4:=h_ (HX3.out.upd u3X hb47);have HK4:=h_ (HK3.out.pb rfl u3X (fun i cs hb e=>by have:=hb.lt;omega));have HO4:=h_ (HO.out.u8 elAS u3X (fun i hi e=>by obtain ⟨_,_,ho,_⟩:=HO.out;have:=ho.lt hi;omega) (fun i cs hb e=>by have:=hb.lt;omega))
   have HKB:=h_ hkX;have HXB7:=h_ hX
   have HUF:Hid (Upd Non w X2):=HU0.out.trans uWX (fun i hi q=>by
    have hs:=HU0.out.size;rcases q with q | q
    ·omega
    ·have h2:=HU3.out.size;omega)
   have CP:=h_ (aProve_c exB aB _ X2 hkX HZB.out);unfold rlv rlCells at CP;obtain ⟨c0,c1,c2,c3,c4,c5,c6,c7,c8,c9,c10,c11,c12,c13⟩:=rl_cells hX;clear q0 q1 q2 q3 q4 q5 q6 q7 q8 q9 q10 q11 q12 q13 f0 hb7 hSX hkB hN hHeld uX hX hkX u3X uWX hN7 hS hR uD HX2 HwD hu31;refine aD_ (by kernel_rfl) ?_ _;go_wp2_with fail
   refine CP.out.mono ?_;rintro e w5 ⟨u5,hP⟩
   have hP2:e=.returned (.tuple #[.slice none 0 0,.bool false]):=by
    rcases hP with ⟨l,_,_,_,hl,_⟩ | ⟨_,he⟩
    ·rw [exB_aut] at hl;cases hl
    ·exact he
   subst hP2;have hX5:=HX4.out.upd u5 (fun f=>f);have hX57:=HXB7.out.upd u5 (fun f=>f);have hk5:=HK4.out.pb rfl u5 (fun _ _ _ f=>f);have hkb5:=HKB.out.pb rfl u5 (fun _ _ _ f=>f);have hO5:=HO4.out.u8 elAS u5 (fun _ _ f=>f) (fun _ _ _ f=>f);have CC:=h_ (aCheck_c exA aA _ w5 hk5 HZA.out (lc:=oc) (hO5.view elAS (F:=fun _=>True) (fun _ _=>trivial) (fun _ _ _=>trivial)) (by rw [List.length_map];have:=exA_aut.2.2;omega))
   rw [HON.out,exA_check] at CC;have CA:=h_ (fun (w':World) (u:Upd Non w5 w')=>aApplicable_c exB aB _ w' (hkb5.pb rfl u (fun _ _ _ f=>f)) HZB.out);rw [exB_appl] at CA;have CN:=h_ (fun (w':World) (u:Upd Non w5 w')=>aCheck_c exA aA _ w' (hk5.pb rfl u (fun _ _ _ f=>f)) HZA.out (lc:=0) (G:=fun _=>True) (LA:=none) (L:=[]) ElV.nil (by decide))
   rw [exA_none] at CN;have HX5:=h_ hX5;have HX57:=h_ hX57;have HU5:=h_ (HUF.out.then_non u5);unfold rlv rlCells at CC CA CN;obtain ⟨d0,d1,d2,d3,d4,d5,d6,d7,d8,d9,d10,d11,d12,d13⟩:=rl_cells hX5;clear hP hX5 hX57 hk5 hkb5 hO5 u5 c0 c1 c2 c3 c4 c5 c6 c7 c8 c9 c10 c11 c12 c13 CP;go_wp2_with fail
   refine CC.out.mono ?_;rintro e w6 ⟨rfl,u6⟩;obtain ⟨c0,c1,c2,c3,c4,c5,c6,c7,c8,c9,c10,c11,c12,c13⟩:=rl_cells (HX57.out.upd u6 (fun f=>f));clear d0 d1 d2 d3 d4 d5 d6 d7 d8 d9 d10 d11 d12 d13;go_wp2_with fail
   refine (CA.out w6 u6).mono ?_;rintro e w7 ⟨rfl,u7⟩;obtain ⟨d0,d1,d2,d3,d4,d5,d6,d7,d8,d9,d10,d11,d12,d13⟩:=rl_cells (HX5.out.upd (u6.then_non u7) (fun f=>f));clear c0 c1 c2 c3 c4 c5 c6 c7 c8 c9 c10 c11 c12 c13;go_wp2_with fail
   refine (CN.out w7 (u6.then_non u7)).mono ?_;rintro e w8 ⟨rfl,u8⟩;go_wp2_with fail
   go_ret;exact ⟨rfl,HU5.out.then_non ((u6.then_non u7).then_non u8)⟩
def pM (n:Int):Int:=(n.tdiv 12) % 1000
def lfA (vars:Int) (n:Int):Pt:=if pM n % 4=0 then .mk 0 1 (wordF (pM n) n) 0 [] else .mk (1+pM n % vars) 0 0 0 []
def patS (vars:Int) (dp tests:Bool) (g1:Bool→List Int→Pt×List Int) (g2:List Int→Pt×List Int) (ys:List Int):Pt×List Int :=
 let n:=ys.headD 0
 if (dp=true∧n % 12<6)∨n % 12<3 then (lfA vars n,ys.tail)
 else if n % 12<5 then (.mk 0 (if pM n % 2=0 then 20 else 21) 0 0 [(g1 tests ys.tail).1],(g1 tests ys.tail).2)
 else if n % 12<6 then (q2 12 (g1 tests ys.tail).1 (q1c (pM n % 3)),(g1 tests ys.tail).2)
 else if n % 12<7∧tests=true then (q2 (15+pM n % 5) (g2 ys.tail).1 (g2 (g2 ys.tail).2).1,(g2 (g2 ys.tail).2).2)
 else if n % 12<8∧tests=true then (.mk 0 22 0 0 [(g1 false ys.tail).1,(g2 (g1 false ys.tail).2).1,(g2 (g2 (g1 false ys.tail).2).2).1],(g2 (g2 (g1 false ys.tail).2).2).2)
 else (q2 ([4,5,9,10,11].getD (pM n % 5).toNat 0) (g1 tests ys.tail).1 (g1 tests (g1 tests ys.tail).2).1,(g1 tests (g1 tests ys.tail).2).2)
def lfG (vars:Int) (ys:List Int):Pt×List Int:=(lfA vars (ys.headD 0),ys.tail)
def patA (vars:Int):Nat→Bool→List Int→Pt×List Int
 | 0=>fun _=>lfG vars
 | 1=>fun _=>lfG vars
 | f+2=>fun tests=>patS vars (decide (f=0)) tests (patA vars (f+1)) (patA vars f false)
theorem mF (k:Nat) (hk:0<k) (m:Nat):∃r:Nat,(m:Int).tmod k=(r:Int)∧(m:Int) % k=(r:Int)∧r<k:=⟨m % k,by rw [Int.tmod_eq_emod_of_nonneg (by omega)];simp,by simp,Nat.mod_lt _ hk⟩
theorem tdiv_I64 {x k:Int} (h:I64 x) (hk:1≤k):I64 (x.tdiv k):=by
 unfold I64 at h ⊢;by_cases h0:0≤x
 ·have h1:=Int.tdiv_nonneg h0 (show 0≤k by omega);have h2:=Int.tdiv_le_self k h0;omega
 ·have e:x.tdiv k = -((-x).tdiv k):=by rw [Int.neg_tdiv,Int.neg_neg]
  have h1:=Int.tdiv_nonneg (show 0 ≤ -x by omega) (show 0≤k by omega);have h2:=Int.tdiv_le_self k (show 0 ≤ -x by omega);omega
def PatC (deep vars:Int) (tests:Bool) (g:List Int→Pt×List Int):Prop :=
 ∀(w:World) (F:Nat→Prop) (p:Nat) (xs:List Int),(∀k,F k→k≠p)→Rd w F p xs →
  Calls Try.prog 26 #[.pointer (some ⟨p,0,none⟩),.int .i64 deep,.int .i64 vars,.bool tests] w fun e w'=>∃KA kc,e=.returned (pv (g xs).1 KA kc)∧PtK w' (fun k=>w.heap.size≤k) (g xs).1 KA kc∧Rd w' F p (g xs).2∧Upd (·=p) w w'
set_option maxRecDepth 100000 in
set_option maxHeartbeats 16000000 in
theorem patLeaf_c (vars:Nat) (h1:1≤vars) (h2:vars≤6) (deep:Int) (hd:3≤deep) (hd4:deep≤4) (tests:Bool):PatC deep vars tests (lfG vars):=by
 intro w F p xs hF hr;have hlt:=hr.lt;have HX:=h_ hr.i64;have hFF:∀k,(F k∧k<w.heap.size)→k≠p:=fun k h=>hF k h.1
 have hrF:=hr.mono (G:=fun k=>F k∧k<w.heap.size) (fun k hk h=>⟨h,hk⟩);obtain ⟨W,HW⟩:=nm (w.alloc (.cells #[.int .i64 0,.int .i64 0,.int .i64 0,.int .i64 0,.slice none 0 0] 24));have hU:Upd Non w W:=by rw [←HW.out];exact Upd.refl.alloc _
 have hb:Blk W w.heap.size 24 #[.int .i64 0,.int .i64 0,.int .i64 0,.int .i64 0,.slice none 0 0]:=by rw [←HW.out];exact Blk.new _ _ _
 have hsW:W.heap.size=w.heap.size+1:=by rw [←HW.out];simp
 have e0:=HW.out;have C1:=h_ (rdNext_c hFF (hrF.upd hU (fun _ _ _ f=>f) (fun f=>f)));clear hrF hr hFF;obtain ⟨G,HGG⟩:∃g,Hid (lfG (vars:Int)=g):=nm _;rw [HGG.out];have HG:Hid (G xs=lfG vars xs):=by rw [HGG.out];rfl
 have td1:decide (deep > 1)=true:=dT_ (by omega);have td2:decide (deep > 2)=true:=dT_ (by omega);go_enter Try.func26,Try.ntmps26;go_wp2_with fail
 refine C1.out.mono ?_;rintro e w2 ⟨rfl,hr2,hu2⟩;obtain ⟨x,Hx⟩:=nm (xs.headD 0);rw [Hx.out] at HX ⊢;obtain ⟨z,Hz⟩:=nm (wrap64 (x.tdiv 12));have ez:=Hz.out;have C2:=h_ (pick_c x 12 w2 (by omega) (by omega));have C3:=h_ (pick_c z 1000 w2 (by omega) (by omega))
 have HM0:Hid (z=x.tdiv 12):=by
  show _=_;rw [←ez];exact wrap64_of (tdiv_I64 HX.out (by omega))
 obtain ⟨kI,Hk⟩:=nm (x % 12);have k0:0≤kI∧kI<12:=by rw [←Hk.out];omega
 obtain ⟨k,rfl⟩:=Int.eq_ofNat_of_zero_le k0.1;obtain ⟨m,hm⟩:∃m:Nat,z % 1000=(m:Int):=Int.eq_ofNat_of_zero_le (by omega);have hm1:m<1000:=by omega
 have HM:Hid (pM x=(m:Int)):=by show _=_;unfold pM;rw [←HM0.out];exact hm
 rw [Hk.out] at C2;rw [hm] at C3;clear hm;go_wp2_with fail
 refine C2.out.mono ?_;rintro e w3 ⟨rfl,hw3⟩;subst hw3;go_wp2_with fail
 refine C3.out.mono ?_;rintro e w3 ⟨rfl,hw3⟩;subst hw3;have hb2:=hb.upd hu2 (by omega);have HU2:Upd (·=p) w w2:=(hU.mono (T:=(·=p)) (fun _ _ f=>f.elim)).trans hu2 (fun _ _ h=>h);have hs2:=hu2.size;have HS2:Hid (w.heap.size<w2.heap.size):=by show _<_;omega
 obtain ⟨rb,hrb⟩:∃b,w.heap.size=b:=⟨_,rfl⟩;rw [hrb] at hb2 HS2 hlt hr2;have HRB:=h_ hrb;rw [hrb];clear hb hU C1 C2 C3 hs2 hsW hu2 hrb ez Hz HW e0;by_cases hk6:k<6
 ·have tk:(k:Int)<6:=by omega
  obtain ⟨r4,h4a,h4b,h4c⟩:=mF 4 (by decide) m;have h4a':(m:Int).tmod 4=(r4:Int):=h4a;have h4b':(m:Int) % 4=(r4:Int):=h4b;clear h4a h4b;by_cases h0:r4=0
  ·have t0:((r4:Int)==0)=true:=by simpa using h0
   have HL:Hid ((G xs).1=.mk 0 1 (wordF m x) 0 []):=by
    show _=_;rw [HG.out];show lfA vars (xs.headD 0)=_;rw [Hx.out];unfold lfA;rw [HM.out,if_pos (by omega)]
   have HY:Hid ((G xs).2=xs.tail):=by show _=_;rw [HG.out];rfl
   have CW:=h_ (word_c w2 m x (by unfold I64;omega));obtain ⟨wd,Hwd⟩:=nm (wordF m x);rw [Hwd.out] at HL CW;clear h0 h4b';go_wp2_with fail
   refine CW.out.mono ?_;rintro e w3 ⟨rfl,hu3⟩;have hb2:=hb2.upd hu3 (fun f=>f);have hr2:=hr2.upd hu3 (fun _ _ _ f=>f) (fun f=>f);have HU2:=HU2.then_non hu3;have HS2:Hid (rb<w3.heap.size):=Nat.lt_of_lt_of_le HS2.out hu3.size;have c0:=hb2.cell 0;have c1:=hb2.cell 1;have c2:=hb2.cell 2;have c3:=hb2.cell 3;have c4:=hb2.cell 4;have f0:=hb2.frozen;go_wp2_with fail
   rw [set5_eq];refine bodyPost_ret (results_cell_row rfl _ _ rb 24 _ (0,0) _ rfl (set5_blk hb2 _ _ _ _ _) Try.underlying24 rfl (by kernel_rfl)) rfl ?_;have hs2:=HS2.out;have hrb:=HRB.out;refine ⟨none,0,by rw [HL.out];rfl,by rw [HL.out];exact PtK.leaf,?_,HU2.trans (set5_upd _ _ _ _ _ _ _) (fun i hi e=>by omega)⟩;rw [HY.out];exact (hr2.upd (set5_upd _ _ _ _ _ _ _) (fun k hk q e=>by have:=q.2;omega) (by omega)).mono (fun k _ h=>h.1)
  ·have t0:((r4:Int)==0)=false:=by simpa using h0
   obtain ⟨rv,hva,hvb,hvc⟩:=mF vars (by omega) m
   have HL:Hid ((G xs).1=.mk (1+(rv:Int)) 0 0 0 []):=by
    show _=_;rw [HG.out];show lfA vars (xs.headD 0)=_;rw [Hx.out];unfold lfA;rw [HM.out,if_neg (by omega),hvb]
   have HY:Hid ((G xs).2=xs.tail):=by show _=_;rw [HG.out];rfl
   have hv0:((vars:Int)==0)=false:=by simp;omega
   clear h0 h4b' hvb;have c0:=hb2.cell 0;have c1:=hb2.cell 1;have c2:=hb2.cell 2;have c3:=hb2.cell 3;have c4:=hb2.cell 4;have f0:=hb2.frozen;go_wp2_with fail
   rw [set5_eq];refine bodyPost_ret (results_cell_row rfl _ _ rb 24 _ (0,0) _ rfl (set5_blk hb2 _ _ _ _ _) Try.underlying24 rfl (by kernel_rfl)) rfl ?_;have hs2:=HS2.out;have hrb:=HRB.out;refine ⟨none,0,by rw [HL.out];rfl,by rw [HL.out];exact PtK.leaf,?_,HU2.trans (set5_upd _ _ _ _ _ _ _) (fun i hi e=>by omega)⟩;rw [HY.out];exact (hr2.upd (set5_upd _ _ _ _ _ _ _) (fun k hk q e=>by have:=q.2;omega) (by omega)).mono (fun k _ h=>h.1)
 ·have tk:¬(k:Int)<6:=by omega
  obtain ⟨r4,h4a,h4b,h4c⟩:=mF 4 (by decide) m;have h4a':(m:Int).tmod 4=(r4:Int):=h4a;have h4b':(m:Int) % 4=(r4:Int):=h4b;clear h4a h4b;by_cases h0:r4=0
  ·have t0:((r4:Int)==0)=true:=by simpa using h0
   have HL:Hid ((G xs).1=.mk 0 1 (wordF m x) 0 []):=by
    show _=_;rw [HG.out];show lfA vars (xs.headD 0)=_;rw [Hx.out];unfold lfA;rw [HM.out,if_pos (by omega)]
   have HY:Hid ((G xs).2=xs.tail):=by show _=_;rw [HG.out];rfl
   have CW:=h_ (word_c w2 m x (by unfold I64;omega));obtain ⟨wd,Hwd⟩:=nm (wordF m x);rw [Hwd.out] at HL CW;clear h0 h4b';go_wp2_with fail
   refine CW.out.mono ?_;rintro e w3 ⟨rfl,hu3⟩;have hb2:=hb2.upd hu3 (fun f=>f);have hr2:=hr2.upd hu3 (fun _ _ _ f=>f) (fun f=>f);have HU2:=HU2.then_non hu3;have HS2:Hid (rb<w3.heap.size):=Nat.lt_of_lt_of_le HS2.out hu3.size;have c0:=hb2.cell 0;have c1:=hb2.cell 1;have c2:=hb2.cell 2;have c3:=hb2.cell 3;have c4:=hb2.cell 4;have f0:=hb2.frozen;go_wp2_with fail
   rw [set5_eq];refine bodyPost_ret (results_cell_row rfl _ _ rb 24 _ (0,0) _ rfl (set5_blk hb2 _ _ _ _ _) Try.underlying24 rfl (by kernel_rfl)) rfl ?_;have hs2:=HS2.out;have hrb:=HRB.out;refine ⟨none,0,by rw [HL.out];rfl,by rw [HL.out];exact PtK.leaf,?_,HU2.trans (set5_upd _ _ _ _ _ _ _) (fun i hi e=>by omega)⟩;rw [HY.out];exact (hr2.upd (set5_upd _ _ _ _ _ _ _) (fun k hk q e=>by have:=q.2;omega) (by omega)).mono (fun k _ h=>h.1)
  ·have t0:((r4:Int)==0)=false:=by simpa using h0
   obtain ⟨rv,hva,hvb,hvc⟩:=mF vars (by omega) m
   have HL:Hid ((G xs).1=.mk (1+(rv:Int)) 0 0 0 []):=by
    show _=_;rw [HG.out];show lfA vars (xs.headD 0)=_;rw [Hx.out];unfold lfA;rw [HM.out,if_neg (by omega),hvb]
   have HY:Hid ((G xs).2=xs.tail):=by show _=_;rw [HG.out];rfl
   have hv0:((vars:Int)==0)=false:=by simp;omega
   clear h0 h4b' hvb;have c0:=hb2.cell 0;have c1:=hb2.cell 1;have c2:=hb2.cell 2;have c3:=hb2.cell 3;have c4:=hb2.cell 4;have f0:=hb2.frozen;go_wp2_with fail
   rw [set5_eq];refine bodyPost_ret (results_cell_row rfl _ _ rb 24 _ (0,0) _ rfl (set5_blk hb2 _ _ _ _ _) Try.underlying24 rfl (by kernel_rfl)) rfl ?_;have hs2:=HS2.out;have hrb:=HRB.out;refine ⟨none,0,by rw [HL.out];rfl,by rw [HL.out];exact PtK.leaf,?_,HU2.trans (set5_upd _ _ _ _ _ _ _) (fun i hi e=>by omega)⟩;rw [HY.out];exact (hr2.upd (set5_upd _ _ _ _ _ _ _) (fun k hk q e=>by have:=q.2;omega) (by omega)).mono (fun k _ h=>h.1)
set_option maxRecDepth 100000 in
set_option maxHeartbeats 4000000 in
theorem pairO_c (w:World) (k:Int) (a b:Pt) (F G:Nat→Prop) (KA KB:Option Addr) (ka kb:Nat) (ha:PtK w F a KA ka) (hb:PtK w G b KB kb) :
  Calls Try.prog 8 #[.int .i64 k,pv a KA ka,pv b KB kb] w fun e w'=>∃(K:Option Addr) (kc:Nat),e=.returned (.agg #[.int .i64 0,.int .i64 k,.int .i64 0,.int .i64 0,.slice K 2 kc])∧PtK w' (fun k=>F k∨G k∨w.heap.size≤k) (q2 k a b) K kc∧Upd Non w w':=by
 go_enter Try.func8,Try.ntmps8;unfold pv;go_wp2_with fail
 refine bodyPost_ret (results_cell_row rfl _ _ (w.heap.size+1+1) 24 #[.int .i64 0,.int .i64 k,.int .i64 0,.int .i64 0,.slice (some ⟨w.heap.size+1+1+1,0,none⟩) 2 2] (0,0) _ rfl ((Blk.new' (by simp)).alloc _) Try.underlying24 rfl (by kernel_rfl)) rfl ?_
 obtain ⟨W1,HW1⟩:=nm ((((w.alloc (.cells #[.int .i64 a.v,.int .i64 a.op,.int .i64 a.imm,.int .i64 a.iv,.slice KA a.kids.length ka] 24)).alloc (.cells #[.int .i64 b.v,.int .i64 b.op,.int .i64 b.imm,.int .i64 b.iv,.slice KB b.kids.length kb] 24)).alloc (.cells #[.int .i64 0,.int .i64 k,.int .i64 0,.int .i64 0,.slice (some ⟨w.heap.size+1+1+1,0,none⟩) 2 2] 24)).alloc (.cells #[.int .i64 a.v,.int .i64 a.op,.int .i64 a.imm,.int .i64 a.iv,.slice KA a.kids.length ka,.int .i64 b.v,.int .i64 b.op,.int .i64 b.imm,.int .i64 b.iv,.slice KB b.kids.length kb] 24))
 rw [HW1.out];have hU:Upd Non w W1:=by rw [←HW1.out];exact (((Upd.refl.alloc _).alloc _).alloc _).alloc _
 have hk:Blk W1 (w.heap.size+1+1+1) 24 #[.int .i64 a.v,.int .i64 a.op,.int .i64 a.imm,.int .i64 a.iv,.slice KA a.kids.length ka,.int .i64 b.v,.int .i64 b.op,.int .i64 b.imm,.int .i64 b.iv,.slice KB b.kids.length kb]:=by rw [←HW1.out];exact Blk.new' (by simp)
 refine ⟨_,_,rfl,?_,hU⟩;exact PtK.two _ _ _ _ hk ((PtK.upd hU (fun _ _ _ f=>f) _ _ _ ha).mono (fun k _ h=>.inl h) _ _ _) ((PtK.upd hU (fun _ _ _ f=>f) _ _ _ hb).mono (fun k _ h=>.inr (.inl h)) _ _ _) (.inr (.inr (by omega))) (by omega)
theorem pat_end {w wz wE:World} {F:Nat→Prop} {p rb:Nat} {P:Pt} {K:Option Addr} {kc:Nat} {zs:List Int} (hrb:w.heap.size=rb) (hp:p<rb) (hU:Upd (·=p) w wz) (hR:Rd wz (fun k=>F k∧k<rb) p zs) (hK:PtK wz (fun k=>rb<k) P K kc) (hb:Blk wz rb 24 #[.int .i64 0,.int .i64 0,.int .i64 0,.int .i64 0,.slice none 0 0])
  (hE:set5 wz rb (.int .i64 P.v) (.int .i64 P.op) (.int .i64 P.imm) (.int .i64 P.iv) (.slice K P.kids.length kc)=wE) :
  PtK wE (fun k=>w.heap.size≤k) P K kc∧Rd wE F p zs∧Upd (·=p) w wE∧Blk wE rb 24 #[.int .i64 P.v,.int .i64 P.op,.int .i64 P.imm,.int .i64 P.iv,.slice K P.kids.length kc]:=by
 have us:=set5_upd wz rb (.int .i64 P.v) (.int .i64 P.op) (.int .i64 P.imm) (.int .i64 P.iv) (.slice K P.kids.length kc);have bs:=set5_blk hb (.int .i64 P.v) (.int .i64 P.op) (.int .i64 P.imm) (.int .i64 P.iv) (.slice K P.kids.length kc);rw [hE] at us bs;exact ⟨PtK.mono (fun k _ h=>by omega) _ _ _ (PtK.upd us (fun k _ h e=>by omega) _ _ _ hK),(hR.upd us (fun k _ h e=>by omega) (by omega)).mono (fun _ _ h=>h.1),hU.trans us (fun i hi e=>by omega),bs⟩
theorem PtK.three {w:World} {F:Nat→Prop} {g:Nat} {k0 k1 k2:Pt} {KA0 KA1 KA2:Option Addr} {kc0 kc1 kc2 kc:Nat} (v op imm iv:Int) (h:Blk w g 24 #[.int .i64 k0.v,.int .i64 k0.op,.int .i64 k0.imm,.int .i64 k0.iv,.slice KA0 k0.kids.length kc0,.int .i64 k1.v,.int .i64 k1.op,.int .i64 k1.imm,.int .i64 k1.iv,.slice KA1 k1.kids.length kc1,.int .i64 k2.v,.int .i64 k2.op,.int .i64 k2.imm,.int .i64 k2.iv,.slice KA2 k2.kids.length kc2]) (h0:PtK w F k0 KA0 kc0) (h1:PtK w F k1 KA1 kc1) (h2:PtK w F k2 KA2 kc2) (hF:F g) (hkc:3≤kc) :
  PtK w F (.mk v op imm iv [k0,k1,k2]) (some ⟨g,0,none⟩) kc:=by
 rw [PtK.iff];refine ⟨hkc,.inr ⟨g,0,rfl,hF,PtL.of fun i hi=>?_⟩⟩;have : i=0∨i=1∨i=2:=by simp [Pt.kids] at hi;omega
 rcases this with rfl | rfl | rfl
 ·exact ⟨KA0,kc0,h.cell 0,h.cell 1,h.cell 2,h.cell 3,h.cell 4,h0⟩
 ·exact ⟨KA1,kc1,h.cell 5,h.cell 6,h.cell 7,h.cell 8,h.cell 9,h1⟩
 ·exact ⟨KA2,kc2,h.cell 10,h.cell 11,h.cell 12,h.cell 13,h.cell 14,h2⟩
set_option maxRecDepth 100000 in
set_option maxHeartbeats 32000000 in
theorem patStep_c (vars:Nat) (h1:1≤vars) (h2:vars≤6) (deep:Int) (hd:0≤deep) (hd2:deep≤2) (tests:Bool) (g1:Bool→List Int→Pt×List Int) (g2:List Int→Pt×List Int) (HA0:∀t,PatC (deep+1) vars t (g1 t)) (HB0:PatC (deep+2) vars false g2) :
  PatC deep vars tests (patS vars (decide (1<deep)) tests g1 g2):=by
 have HA:=h_ HA0;have HB:=h_ HB0;clear HA0 HB0;intro w F p xs hF hr;have hlt:=hr.lt;have HX:=h_ hr.i64;have hFF:∀k,(F k∧k<w.heap.size)→k≠p:=fun k h=>hF k h.1
 have hrF:=hr.mono (G:=fun k=>F k∧k<w.heap.size) (fun k hk h=>⟨h,hk⟩);obtain ⟨W,HW⟩:=nm (w.alloc (.cells #[.int .i64 0,.int .i64 0,.int .i64 0,.int .i64 0,.slice none 0 0] 24));have hU:Upd Non w W:=by rw [←HW.out];exact Upd.refl.alloc _
 have hb:Blk W w.heap.size 24 #[.int .i64 0,.int .i64 0,.int .i64 0,.int .i64 0,.slice none 0 0]:=by rw [←HW.out];exact Blk.new _ _ _
 have hsW:W.heap.size=w.heap.size+1:=by rw [←HW.out];simp
 have e0:=HW.out;have C1:=h_ (rdNext_c hFF (hrF.upd hU (fun _ _ _ f=>f) (fun f=>f)));clear hrF hr hFF;obtain ⟨G,HGG⟩:∃g,Hid (patS vars (decide (1<deep)) tests g1 g2=g):=nm _;rw [HGG.out];have HG0:Hid (G xs=patS vars (decide (1<deep)) tests g1 g2 xs):=by show _=_;rw [HGG.out]
 have td2:decide (deep > 2)=false:=dF_ (by omega);obtain ⟨b1,Hb1⟩:=nm (decide (1<deep));have td1:decide (deep > 1)=b1:=Hb1.out;rw [Hb1.out] at HG0;clear HGG;go_enter Try.func26,Try.ntmps26;go_wp2_with fail
 refine C1.out.mono ?_;rintro e w2 ⟨rfl,hr2,hu2⟩;obtain ⟨x,Hx⟩:=nm (xs.headD 0);rw [Hx.out] at HX ⊢;obtain ⟨z,Hz⟩:=nm (wrap64 (x.tdiv 12));have ez:=Hz.out;have C2:=h_ (pick_c x 12 w2 (by omega) (by omega));have C3:=h_ (pick_c z 1000 w2 (by omega) (by omega))
 have HM0:Hid (z=x.tdiv 12):=by
  show _=_;rw [←ez];exact wrap64_of (tdiv_I64 HX.out (by omega))
 obtain ⟨kI,Hk⟩:=nm (x % 12);have k0:0≤kI∧kI<12:=by rw [←Hk.out];omega
 obtain ⟨k,rfl⟩:=Int.eq_ofNat_of_zero_le k0.1;obtain ⟨m,hm⟩:∃m:Nat,z % 1000=(m:Int):=Int.eq_ofNat_of_zero_le (by omega);have hm1:m<1000:=by omega
 have HM:Hid (pM x=(m:Int)):=by show _=_;unfold pM;rw [←HM0.out];exact hm
 rw [Hk.out] at C2;rw [hm] at C3;clear hm;go_wp2_with fail
 refine C2.out.mono ?_;rintro e w3 ⟨rfl,hw3⟩;subst hw3;go_wp2_with fail
 refine C3.out.mono ?_;rintro e w3 ⟨rfl,hw3⟩;subst hw3;have hb2:=hb.upd hu2 (by omega);have HU2:Upd (·=p) w w2:=(hU.mono (T:=(·=p)) (fun _ _ f=>f.elim)).trans hu2 (fun _ _ h=>h);have hs2:=hu2.size;have HS2:Hid (w.heap.size<w2.heap.size):=by show _<_;omega
 obtain ⟨rb,hrb⟩:∃b,w.heap.size=b:=⟨_,rfl⟩;rw [hrb] at hb2 HS2 hlt hr2;have HRB:=h_ hrb;rw [hrb];clear hb hU C1 C2 C3 hs2 hsW hu2 hrb ez Hz HW e0;have HD1:wrap64 (deep+1)=deep+1:=by unfold wrap64;omega
 have HD2:wrap64 (deep+2)=deep+2:=by unfold wrap64;omega
 have HF:Hid (∀k,(F k∧k<rb)→k≠p):=fun k h=>hF k h.1
 by_cases hlf:(b1=true∧k<6)∨k<3
 ·have HG:Hid (G xs=lfG vars xs):=by
   show _=_;rw [HG0.out];unfold patS;simp only [Hx.out,Hk.out];rw [if_pos (by rcases hlf with ⟨a,b⟩ | b;exact .inl ⟨a,by omega⟩;exact .inr (by omega))];unfold lfG;rw [Hx.out]
  clear HG0 HA HB HD1 HD2;rcases hlf with ⟨rfl,hk6⟩ | hk3
  ·have t6:decide ((k:Int)<6)=true:=dT_ (by omega);obtain ⟨r4,h4a,h4b,h4c⟩:=mF 4 (by decide) m;have h4a':(m:Int).tmod 4=(r4:Int):=h4a;have h4b':(m:Int) % 4=(r4:Int):=h4b;clear h4a h4b;by_cases h0:r4=0
   ·have t0:((r4:Int)==0)=true:=by simpa using h0
    have HL:Hid ((G xs).1=.mk 0 1 (wordF m x) 0 []):=by
     show _=_;rw [HG.out];show lfA vars (xs.headD 0)=_;rw [Hx.out];unfold lfA;rw [HM.out,if_pos (by omega)]
    have HY:Hid ((G xs).2=xs.tail):=by show _=_;rw [HG.out];rfl
    have CW:=h_ (word_c w2 m x (by unfold I64;omega));obtain ⟨wd,Hwd⟩:=nm (wordF m x);rw [Hwd.out] at HL CW;clear h0 h4b';go_wp2_with fail
    refine CW.out.mono ?_;rintro e w3 ⟨rfl,hu3⟩;have hb2:=hb2.upd hu3 (fun f=>f);have hr2:=hr2.upd hu3 (fun _ _ _ f=>f) (fun f=>f);have HU2:=HU2.then_non hu3;have HS2:Hid (rb<w3.heap.size):=Nat.lt_of_lt_of_le HS2.out hu3.size;have c0:=hb2.cell 0;have c1:=hb2.cell 1;have c2:=hb2.cell 2;have c3:=hb2.cell 3;have c4:=hb2.cell 4;have f0:=hb2.frozen;go_wp2_with fail
    rw [set5_eq];refine bodyPost_ret (results_cell_row rfl _ _ rb 24 _ (0,0) _ rfl (set5_blk hb2 _ _ _ _ _) Try.underlying24 rfl (by kernel_rfl)) rfl ?_;have hs2:=HS2.out;have hrb:=HRB.out;refine ⟨none,0,by rw [HL.out];rfl,by rw [HL.out];exact PtK.leaf,?_,HU2.trans (set5_upd _ _ _ _ _ _ _) (fun i hi e=>by omega)⟩;rw [HY.out];exact (hr2.upd (set5_upd _ _ _ _ _ _ _) (fun k hk q e=>by have:=q.2;omega) (by omega)).mono (fun k _ h=>h.1)
   ·have t0:((r4:Int)==0)=false:=by simpa using h0
    obtain ⟨rv,hva,hvb,hvc⟩:=mF vars (by omega) m
    have HL:Hid ((G xs).1=.mk (1+(rv:Int)) 0 0 0 []):=by
     show _=_;rw [HG.out];show lfA vars (xs.headD 0)=_;rw [Hx.out];unfold lfA;rw [HM.out,if_neg (by omega),hvb]
    have HY:Hid ((G xs).2=xs.tail):=by show _=_;rw [HG.out];rfl
    have hv0:((vars:Int)==0)=false:=by simp;omega
    clear h0 h4b' hvb;have c0:=hb2.cell 0;have c1:=hb2.cell 1;have c2:=hb2.cell 2;have c3:=hb2.cell 3;have c4:=hb2.cell 4;have f0:=hb2.frozen;go_wp2_with fail
    rw [set5_eq];refine bodyPost_ret (results_cell_row rfl _ _ rb 24 _ (0,0) _ rfl (set5_blk hb2 _ _ _ _ _) Try.underlying24 rfl (by kernel_rfl)) rfl ?_;have hs2:=HS2.out;have hrb:=HRB.out;refine ⟨none,0,by rw [HL.out];rfl,by rw [HL.out];exact PtK.leaf,?_,HU2.trans (set5_upd _ _ _ _ _ _ _) (fun i hi e=>by omega)⟩;rw [HY.out];exact (hr2.upd (set5_upd _ _ _ _ _ _ _) (fun k hk q e=>by have:=q.2;omega) (by omega)).mono (fun k _ h=>h.1)
  ·have t6:decide ((k:Int)<6)=true:=dT_ (by omega);have t3:decide ((k:Int)<3)=true:=dT_ (by omega)
   cases b1 with
   | true =>
    obtain ⟨r4,h4a,h4b,h4c⟩:=mF 4 (by decide) m;have h4a':(m:Int).tmod 4=(r4:Int):=h4a;have h4b':(m:Int) % 4=(r4:Int):=h4b;clear h4a h4b;by_cases h0:r4=0
    ·have t0:((r4:Int)==0)=true:=by simpa using h0
     have HL:Hid ((G xs).1=.mk 0 1 (wordF m x) 0 []):=by
      show _=_;rw [HG.out];show lfA vars (xs.headD 0)=_;rw [Hx.out];unfold lfA;rw [HM.out,if_pos (by omega)]
     have HY:Hid ((G xs).2=xs.tail):=by show _=_;rw [HG.out];rfl
     have CW:=h_ (word_c w2 m x (by unfold I64;omega));obtain ⟨wd,Hwd⟩:=nm (wordF m x);rw [Hwd.out] at HL CW;clear h0 h4b';go_wp2_with fail
     refine CW.out.mono ?_;rintro e w3 ⟨rfl,hu3⟩;have hb2:=hb2.upd hu3 (fun f=>f);have hr2:=hr2.upd hu3 (fun _ _ _ f=>f) (fun f=>f);have HU2:=HU2.then_non hu3;have HS2:Hid (rb<w3.heap.size):=Nat.lt_of_lt_of_le HS2.out hu3.size;have c0:=hb2.cell 0;have c1:=hb2.cell 1;have c2:=hb2.cell 2;have c3:=hb2.cell 3;have c4:=hb2.cell 4;have f0:=hb2.frozen;go_wp2_with fail
     rw [set5_eq];refine bodyPost_ret (results_cell_row rfl _ _ rb 24 _ (0,0) _ rfl (set5_blk hb2 _ _ _ _ _) Try.underlying24 rfl (by kernel_rfl)) rfl ?_;have hs2:=HS2.out;have hrb:=HRB.out;refine ⟨none,0,by rw [HL.out];rfl,by rw [HL.out];exact PtK.leaf,?_,HU2.trans (set5_upd _ _ _ _ _ _ _) (fun i hi e=>by omega)⟩;rw [HY.out];exact (hr2.upd (set5_upd _ _ _ _ _ _ _) (fun k hk q e=>by have:=q.2;omega) (by omega)).mono (fun k _ h=>h.1)
    ·have t0:((r4:Int)==0)=false:=by simpa using h0
     obtain ⟨rv,hva,hvb,hvc⟩:=mF vars (by omega) m
     have HL:Hid ((G xs).1=.mk (1+(rv:Int)) 0 0 0 []):=by
      show _=_;rw [HG.out];show lfA vars (xs.headD 0)=_;rw [Hx.out];unfold lfA;rw [HM.out,if_neg (by omega),hvb]
     have HY:Hid ((G xs).2=xs.tail):=by show _=_;rw [HG.out];rfl
     have hv0:((vars:Int)==0)=false:=by simp;omega
     clear h0 h4b' hvb;have c0:=hb2.cell 0;have c1:=hb2.cell 1;have c2:=hb2.cell 2;have c3:=hb2.cell 3;have c4:=hb2.cell 4;have f0:=hb2.frozen;go_wp2_with fail
     rw [set5_eq];refine bodyPost_ret (results_cell_row rfl _ _ rb 24 _ (0,0) _ rfl (set5_blk hb2 _ _ _ _ _) Try.underlying24 rfl (by kernel_rfl)) rfl ?_;have hs2:=HS2.out;have hrb:=HRB.out;refine ⟨none,0,by rw [HL.out];rfl,by rw [HL.out];exact PtK.leaf,?_,HU2.trans (set5_upd _ _ _ _ _ _ _) (fun i hi e=>by omega)⟩;rw [HY.out];exact (hr2.upd (set5_upd _ _ _ _ _ _ _) (fun k hk q e=>by have:=q.2;omega) (by omega)).mono (fun k _ h=>h.1)
   | false =>
    obtain ⟨r4,h4a,h4b,h4c⟩:=mF 4 (by decide) m;have h4a':(m:Int).tmod 4=(r4:Int):=h4a;have h4b':(m:Int) % 4=(r4:Int):=h4b;clear h4a h4b;by_cases h0:r4=0
    ·have t0:((r4:Int)==0)=true:=by simpa using h0
     have HL:Hid ((G xs).1=.mk 0 1 (wordF m x) 0 []):=by
      show _=_;rw [HG.out];show lfA vars (xs.headD 0)=_;rw [Hx.out];unfold lfA;rw [HM.out,if_pos (by omega)]
     have HY:Hid ((G xs).2=xs.tail):=by show _=_;rw [HG.out];rfl
     have CW:=h_ (word_c w2 m x (by unfold I64;omega));obtain ⟨wd,Hwd⟩:=nm (wordF m x);rw [Hwd.out] at HL CW;clear h0 h4b';go_wp2_with fail
     refine CW.out.mono ?_;rintro e w3 ⟨rfl,hu3⟩;have hb2:=hb2.upd hu3 (fun f=>f);have hr2:=hr2.upd hu3 (fun _ _ _ f=>f) (fun f=>f);have HU2:=HU2.then_non hu3;have HS2:Hid (rb<w3.heap.size):=Nat.lt_of_lt_of_le HS2.out hu3.size;have c0:=hb2.cell 0;have c1:=hb2.cell 1;have c2:=hb2.cell 2;have c3:=hb2.cell 3;have c4:=hb2.cell 4;have f0:=hb2.frozen;go_wp2_with fail
     rw [set5_eq];refine bodyPost_ret (results_cell_row rfl _ _ rb 24 _ (0,0) _ rfl (set5_blk hb2 _ _ _ _ _) Try.underlying24 rfl (by kernel_rfl)) rfl ?_;have hs2:=HS2.out;have hrb:=HRB.out;refine ⟨none,0,by rw [HL.out];rfl,by rw [HL.out];exact PtK.leaf,?_,HU2.trans (set5_upd _ _ _ _ _ _ _) (fun i hi e=>by omega)⟩;rw [HY.out];exact (hr2.upd (set5_upd _ _ _ _ _ _ _) (fun k hk q e=>by have:=q.2;omega) (by omega)).mono (fun k _ h=>h.1)
    ·have t0:((r4:Int)==0)=false:=by simpa using h0
     obtain ⟨rv,hva,hvb,hvc⟩:=mF vars (by omega) m
     have HL:Hid ((G xs).1=.mk (1+(rv:Int)) 0 0 0 []):=by
      show _=_;rw [HG.out];show lfA vars (xs.headD 0)=_;rw [Hx.out];unfold lfA;rw [HM.out,if_neg (by omega),hvb]
     have HY:Hid ((G xs).2=xs.tail):=by show _=_;rw [HG.out];rfl
     have hv0:((vars:Int)==0)=false:=by simp;omega
     clear h0 h4b' hvb;have c0:=hb2.cell 0;have c1:=hb2.cell 1;have c2:=hb2.cell 2;have c3:=hb2.cell 3;have c4:=hb2.cell 4;have f0:=hb2.frozen;go_wp2_with fail
     rw [set5_eq];refine bodyPost_ret (results_cell_row rfl _ _ rb 24 _ (0,0) _ rfl (set5_blk hb2 _ _ _ _ _) Try.underlying24 rfl (by kernel_rfl)) rfl ?_;have hs2:=HS2.out;have hrb:=HRB.out;refine ⟨none,0,by rw [HL.out];rfl,by rw [HL.out];exact PtK.leaf,?_,HU2.trans (set5_upd _ _ _ _ _ _ _) (fun i hi e=>by omega)⟩;rw [HY.out];exact (hr2.upd (set5_upd _ _ _ _ _ _ _) (fun k hk q e=>by have:=q.2;omega) (by omega)).mono (fun k _ h=>h.1)
 ·have hk3:3≤k:=by omega
  have hb16:b1=true→6≤k:=fun e=>by
   rcases Nat.lt_or_ge k 6 with q | q
   ·exact (hlf (.inl ⟨e,q⟩)).elim
   ·exact q
  have HG1:Hid (G xs=if k<5 then (.mk 0 (if pM x % 2=0 then 20 else 21) 0 0 [(g1 tests xs.tail).1],(g1 tests xs.tail).2)
    else if k<6 then (q2 12 (g1 tests xs.tail).1 (q1c (pM x % 3)),(g1 tests xs.tail).2)
    else if k<7∧tests=true then (q2 (15+pM x % 5) (g2 xs.tail).1 (g2 (g2 xs.tail).2).1,(g2 (g2 xs.tail).2).2)
    else if k<8∧tests=true then (.mk 0 22 0 0 [(g1 false xs.tail).1,(g2 (g1 false xs.tail).2).1,(g2 (g2 (g1 false xs.tail).2).2).1],(g2 (g2 (g1 false xs.tail).2).2).2)
    else (q2 ([4,5,9,10,11].getD (pM x % 5).toNat 0) (g1 tests xs.tail).1 (g1 tests (g1 tests xs.tail).2).1,(g1 tests (g1 tests xs.tail).2).2)):=by
   show _=_;rw [HG0.out];unfold patS;simp only [Hx.out,Hk.out]
   rw [if_neg (by
    rintro (⟨a,b⟩ | b)
    ·have:=hb16 a;omega
    ·omega)]
   have e5:((k:Int)<5)=(k<5):=by rw [eq_iff_iff];omega
   have e6:((k:Int)<6)=(k<6):=by rw [eq_iff_iff];omega
   have e7:((k:Int)<7)=(k<7):=by rw [eq_iff_iff];omega
   have e8:((k:Int)<8)=(k<8):=by rw [eq_iff_iff];omega
   simp only [e5,e6,e7,e8]
  have t3:decide ((k:Int)<3)=false:=dF_ (by omega);clear HG0 hlf;have hbz:=hb2;have hrz:=hr2;have HUz:=HU2;have hsz:=HS2.out;have CD:Hid (∀(t:Bool) (v:World) (zs:List Int),Rd v (fun k=>F k∧k<rb) p zs→Calls Try.prog 26 #[.pointer (some ⟨p,0,none⟩),.int .i64 (deep+1),.int .i64 vars,.bool t] v fun e w'=>∃KA kc,e=.returned (pv (g1 t zs).1 KA kc)∧PtK w' (fun k=>v.heap.size≤k) (g1 t zs).1 KA kc∧Rd w' (fun k=>F k∧k<rb) p (g1 t zs).2∧Upd (·=p) v w'):=fun t v zs h=>HA.out t v _ p zs HF.out h
  have CE:Hid (∀(v:World) (zs:List Int),Rd v (fun k=>F k∧k<rb) p zs→Calls Try.prog 26 #[.pointer (some ⟨p,0,none⟩),.int .i64 (deep+2),.int .i64 vars,.bool false] v fun e w'=>∃KA kc,e=.returned (pv (g2 zs).1 KA kc)∧PtK w' (fun k=>v.heap.size≤k) (g2 zs).1 KA kc∧Rd w' (fun k=>F k∧k<rb) p (g2 zs).2∧Upd (·=p) v w'):=fun v zs h=>HB.out v _ p zs HF.out h
  clear HA HB hb2 hr2 HU2;by_cases h5:k<5
  ·have hb1:b1=false:=by cases b1 with | false=>rfl | true=>have:=hb16 rfl;omega
   subst hb1;have t5:decide ((k:Int)<5)=true:=dT_ (by omega);obtain ⟨rr,h2a,h2b,h2c⟩:=mF 2 (by decide) m;have h2a':(m:Int).tmod 2=(rr:Int):=h2a;have h2c':(rr:Int)<2:=by omega
   obtain ⟨op,hop⟩:∃op:Int,op=if rr=0 then 20 else 21:=⟨_,rfl⟩
   have HOP:Hid ((#[Value.int .i64 20,.int .i64 21]:Array Value)[rr]?=some (.int .i64 op)):=by
    show _=_;rw [hop]
    match rr,h2c with
    | 0,_=>rfl
    | 1,_=>rfl
   obtain ⟨QA,HQA⟩:=nm (g1 tests xs.tail).1;obtain ⟨z1,Hz1⟩:=nm (g1 tests xs.tail).2;have CA:=h_ (fun (v:World) h=>CD.out tests v xs.tail h);rw [HQA.out,Hz1.out] at CA
   have HL:Hid ((G xs).1=.mk 0 op 0 0 [QA]):=by
    show _=_;rw [HG1.out,if_pos h5,HM.out,hop];have e:((m:Int) % 2=0)=(rr=0):=by rw [eq_iff_iff];have : (m:Int) % 2=(rr:Int):=h2b;omega
    simp only [e,HQA.out]
   have HY:Hid ((G xs).2=z1):=by show _=_;rw [HG1.out,if_pos h5];exact Hz1.out
   clear h2a h2b hop HG1 hb16 h5 CD CE;go_wp2_with fail
   obtain ⟨wD,HwD⟩:=nm w2.drew;have xD:Upd Non w2 wD:=by rw [←HwD.out];exact Upd.refl.drew
   have hbz:=hbz.upd xD (fun f=>f);have hrz:=hrz.upd xD (fun _ _ _ f=>f) (fun f=>f);have HUz:=HUz.then_non xD;have hsz:=Nat.lt_of_lt_of_le hsz xD.size;refine wp_region_held_drew (S:=fun _=>True) (by kernel_rfl) trivial (fun hHeld=>?_);rw [HwD.out];have q1:IntKind.i64.wrap (deep+1)=deep+1:=i64w_of (by unfold I64;omega);refine wpT 1 ?_;(try simp only [y_,z_]);refine wpT 2 ?_;(try simp only [y_,z_]);refine wpT 5 ?_;(try simp only [y_,z_]);refine wpT 6 ?_;(try simp only [y_,z_]);refine wpT 7 ?_;(try simp only [y_,z_]);refine wpT 8 ?_;(try simp only [y_,z_]);refine wpT 9 ?_;(try simp only [y_,z_]);refine aR_ (rs:=[0,10]) (by kernel_rfl) (by simp) ?_;refine aC_ rfl (fun K hK=>?_) (aC_ rfl (fun K hK=>?_) aN_)
   ·go_simp;refine hK.out _ _ ?_ (fun hHeld=>?_)
    ·exact trivial
    clear hK K;(try simp only [y_,z_]);obtain ⟨v1,Hv1⟩:=nm (wD.alloc (.cells #[.int .i64 20,.int .i64 21] 3));rw [Hv1.out];have x1:Upd Non wD v1:=by rw [←Hv1.out];exact Upd.refl.alloc _
    have hci:v1.cell? ⟨wD.heap.size,rr,none⟩=some (.int .i64 op):=by rw [←Hv1.out];exact ((Blk.new _ _ _).cell rr).trans HOP.out
    have hbi:wD.heap.size≠p:=by omega
    have hbz:=hbz.upd x1 (fun f=>f);have hrz:=hrz.upd x1 (fun _ _ _ f=>f) (fun f=>f);have HUz:=HUz.then_non x1;have hsz:=Nat.lt_of_lt_of_le hsz x1.size;refine wpT 3 ?_;(try simp only [y_,z_]);refine aR_ (rs:=[4,10]) (by kernel_rfl) (by simp) ?_;refine aC_ rfl (fun K hK=>?_) (aC_ rfl (fun K hK=>?_) aN_)
    ·go_simp;refine hK.out _ _ ?_ (fun hHeld=>?_)
     ·exact trivial
     clear hK K;(try simp only [y_,z_]);clear hci;refine aR_ (rs:=[10]) (by kernel_rfl) (by simp) ?_;refine aC_ rfl (fun K hK=>?_) aN_;go_simp;refine (CA.out v1 hrz).mono ?_;rintro e v3 ⟨KA,kA,rfl,hpA0,hrz,x3⟩;unfold pv;go_wp2_with fail
     refine hK.out _ _ ?_ (fun hHeld=>?_)
     ·exact trivial
     clear hK K;(try simp only [y_,z_]);have hbz:=hbz.upd x3 (by omega);have HUz:=HUz.trans x3 (fun _ _ h=>h);have hpA:=PtK.mono (G:=fun k=>rb<k) (fun k _ h=>by have h:v1.heap.size≤k:=h;omega) _ _ _ hpA0;have hsz:=Nat.lt_of_lt_of_le hsz x3.size;clear hpA0;refine aR_ (rs:=[11]) (by kernel_rfl) (by simp) ?_;refine aC_ rfl (fun K hK=>?_) aN_;go_simp;refine hK.out _ _ ?_ (fun hHeld=>?_)
     ·exact trivial
     clear hK K;(try simp only [y_,z_]);obtain ⟨v4,Hv4⟩:=nm (v3.alloc (.cells #[.int .i64 QA.v,.int .i64 QA.op,.int .i64 QA.imm,.int .i64 QA.iv,.slice KA QA.kids.length kA] 24));rw [Hv4.out];have x4:Upd Non v3 v4:=by rw [←Hv4.out];exact Upd.refl.alloc _
     have hbk:Blk v4 v3.heap.size 24 #[.int .i64 QA.v,.int .i64 QA.op,.int .i64 QA.imm,.int .i64 QA.iv,.slice KA QA.kids.length kA]:=by rw [←Hv4.out];exact Blk.new _ _ _
     have hsk:rb<v3.heap.size:=hsz;have hbz:=hbz.upd x4 (fun f=>f);have hrz:=hrz.upd x4 (fun _ _ _ f=>f) (fun f=>f);have HUz:=HUz.then_non x4;have hsz:=Nat.lt_of_lt_of_le hsz x4.size;have hpA:=PtK.upd x4 (fun _ _ _ f=>f) _ _ _ hpA;have hpz:=PtK.one (kc:=1) 0 op 0 0 hbk hpA hsk (by omega);refine wpT 12 ?_;(try simp only [y_,z_]);have c0:=hbz.cell 0;have c1:=hbz.cell 1;have c2:=hbz.cell 2;have c3:=hbz.cell 3;have c4:=hbz.cell 4;have f0:=hbz.frozen;refine aR_ (rs:=[13]) (by kernel_rfl) (by simp) ?_;refine aC_ rfl (fun K hK=>?_) aN_;go_simp;refine hK.out _ _ ?_ (fun hHeld=>?_)
     ·exact trivial
     clear hK K;(try simp only [y_,z_]);refine aD_ (by kernel_rfl) ?_ _;go_wp2_with fail
     have hZ:=pat_end HRB.out hlt HUz hrz hpz hbz rfl;rw [set5_eq];refine bodyPost_ret (results_cell_row rfl _ _ rb 24 _ (0,0) _ rfl hZ.2.2.2 Try.underlying24 rfl (by kernel_rfl)) rfl ?_;exact ⟨_,_,by rw [HL.out];rfl,by rw [HL.out];exact hZ.1,by rw [HY.out];exact hZ.2.1,hZ.2.2.1⟩
    ·go_simp;refine (CA.out v1 hrz).mono ?_;rintro e v2 ⟨KA,kA,rfl,hpA0,hrz,x2⟩;unfold pv;go_wp2_with fail
     refine hK.out _ _ ?_ (fun hHeld=>?_)
     ·exact trivial
     clear hK K;(try simp only [y_,z_]);have hbz:=hbz.upd x2 (by omega);have HUz:=HUz.trans x2 (fun _ _ h=>h);have hpA:=PtK.mono (G:=fun k=>rb<k) (fun k _ h=>by have h:v1.heap.size≤k:=h;omega) _ _ _ hpA0;have hsz:=Nat.lt_of_lt_of_le hsz x2.size;clear hpA0;have hci:=u_ (S:=(·=p)) hci x2 hbi;refine wpAnyH_takeM (fun w'=>w'.cell? ⟨wD.heap.size,rr,none⟩=some (.int .i64 op)) (calm_cell _ _) [12,13] (i:=4) (v:=?_) rfl (by kernel_rfl) (by kernel_rfl) (by kernel_rfl) (by kernel_rfl) (fun _ _ _ h=>h) (Or.inl ⟨by rfl,?_⟩) (hci) (by assumption) ?_
     rotate_left
     ·intro w hSw;(try dsimp only at hSw);go_simp;try with_reducible rfl
     (try simp only [y_,z_]);clear hci;refine aR_ (rs:=[11]) (by kernel_rfl) (by simp) ?_;refine aC_ rfl (fun K hK=>?_) aN_;go_simp;refine hK.out _ _ ?_ (fun hHeld=>?_)
     ·exact trivial
     clear hK K;(try simp only [y_,z_]);obtain ⟨v4,Hv4⟩:=nm (v2.alloc (.cells #[.int .i64 QA.v,.int .i64 QA.op,.int .i64 QA.imm,.int .i64 QA.iv,.slice KA QA.kids.length kA] 24));rw [Hv4.out];have x4:Upd Non v2 v4:=by rw [←Hv4.out];exact Upd.refl.alloc _
     have hbk:Blk v4 v2.heap.size 24 #[.int .i64 QA.v,.int .i64 QA.op,.int .i64 QA.imm,.int .i64 QA.iv,.slice KA QA.kids.length kA]:=by rw [←Hv4.out];exact Blk.new _ _ _
     have hsk:rb<v2.heap.size:=hsz;have hbz:=hbz.upd x4 (fun f=>f);have hrz:=hrz.upd x4 (fun _ _ _ f=>f) (fun f=>f);have HUz:=HUz.then_non x4;have hsz:=Nat.lt_of_lt_of_le hsz x4.size;have hpA:=PtK.upd x4 (fun _ _ _ f=>f) _ _ _ hpA;have hpz:=PtK.one (kc:=1) 0 op 0 0 hbk hpA hsk (by omega);refine wpT 12 ?_;(try simp only [y_,z_]);have c0:=hbz.cell 0;have c1:=hbz.cell 1;have c2:=hbz.cell 2;have c3:=hbz.cell 3;have c4:=hbz.cell 4;have f0:=hbz.frozen;refine aR_ (rs:=[13]) (by kernel_rfl) (by simp) ?_;refine aC_ rfl (fun K hK=>?_) aN_;go_simp;refine hK.out _ _ ?_ (fun hHeld=>?_)
     ·exact trivial
     clear hK K;(try simp only [y_,z_]);refine aD_ (by kernel_rfl) ?_ _;go_wp2_with fail
     have hZ:=pat_end HRB.out hlt HUz hrz hpz hbz rfl;rw [set5_eq];refine bodyPost_ret (results_cell_row rfl _ _ rb 24 _ (0,0) _ rfl hZ.2.2.2 Try.underlying24 rfl (by kernel_rfl)) rfl ?_;exact ⟨_,_,by rw [HL.out];rfl,by rw [HL.out];exact hZ.1,by rw [HY.out];exact hZ.2.1,hZ.2.2.1⟩
   ·go_simp;refine (CA.out wD hrz).mono ?_;rintro e v1 ⟨KA,kA,rfl,hpA0,hrz,x1⟩;unfold pv;go_wp2_with fail
    refine hK.out _ _ ?_ (fun hHeld=>?_)
    ·exact trivial
    clear hK K;(try simp only [y_,z_]);have hbz:=hbz.upd x1 (by omega);have HUz:=HUz.trans x1 (fun _ _ h=>h);have hpA:=PtK.mono (G:=fun k=>rb<k) (fun k _ h=>by have h:wD.heap.size≤k:=h;omega) _ _ _ hpA0;have hsz:=Nat.lt_of_lt_of_le hsz x1.size;clear hpA0;refine aR_ (rs:=[0,11]) (by kernel_rfl) (by simp) ?_;refine aC_ rfl (fun K hK=>?_) (aC_ rfl (fun K hK=>?_) aN_)
    ·go_simp;refine hK.out _ _ ?_ (fun hHeld=>?_)
     ·exact trivial
     clear hK K;(try simp only [y_,z_]);obtain ⟨v2,Hv2⟩:=nm (v1.alloc (.cells #[.int .i64 20,.int .i64 21] 3));rw [Hv2.out];have x2:Upd Non v1 v2:=by rw [←Hv2.out];exact Upd.refl.alloc _
     have hci:v2.cell? ⟨v1.heap.size,rr,none⟩=some (.int .i64 op):=by rw [←Hv2.out];exact ((Blk.new _ _ _).cell rr).trans HOP.out
     have hbi:v1.heap.size≠p:=by omega
     have hbz:=hbz.upd x2 (fun f=>f);have hrz:=hrz.upd x2 (fun _ _ _ f=>f) (fun f=>f);have HUz:=HUz.then_non x2;have hsz:=Nat.lt_of_lt_of_le hsz x2.size;have hpA:=PtK.upd x2 (fun _ _ _ f=>f) _ _ _ hpA;refine wpT 3 ?_;(try simp only [y_,z_]);refine wpAnyH_takeM (fun w'=>w'.cell? ⟨v1.heap.size,rr,none⟩=some (.int .i64 op)) (calm_cell _ _) [12,13] (i:=4) (v:=?_) rfl (by kernel_rfl) (by kernel_rfl) (by kernel_rfl) (by kernel_rfl) (fun _ _ _ h=>h) (Or.inl ⟨by rfl,?_⟩) (hci) (by assumption) ?_
     rotate_left
     ·intro w hSw;(try dsimp only at hSw);go_simp;try with_reducible rfl
     (try simp only [y_,z_]);clear hci;refine aR_ (rs:=[11]) (by kernel_rfl) (by simp) ?_;refine aC_ rfl (fun K hK=>?_) aN_;go_simp;refine hK.out _ _ ?_ (fun hHeld=>?_)
     ·exact trivial
     clear hK K;(try simp only [y_,z_]);obtain ⟨v4,Hv4⟩:=nm (v2.alloc (.cells #[.int .i64 QA.v,.int .i64 QA.op,.int .i64 QA.imm,.int .i64 QA.iv,.slice KA QA.kids.length kA] 24));rw [Hv4.out];have x4:Upd Non v2 v4:=by rw [←Hv4.out];exact Upd.refl.alloc _
     have hbk:Blk v4 v2.heap.size 24 #[.int .i64 QA.v,.int .i64 QA.op,.int .i64 QA.imm,.int .i64 QA.iv,.slice KA QA.kids.length kA]:=by rw [←Hv4.out];exact Blk.new _ _ _
     have hsk:rb<v2.heap.size:=hsz;have hbz:=hbz.upd x4 (fun f=>f);have hrz:=hrz.upd x4 (fun _ _ _ f=>f) (fun f=>f);have HUz:=HUz.then_non x4;have hsz:=Nat.lt_of_lt_of_le hsz x4.size;have hpA:=PtK.upd x4 (fun _ _ _ f=>f) _ _ _ hpA;have hpz:=PtK.one (kc:=1) 0 op 0 0 hbk hpA hsk (by omega);refine wpT 12 ?_;(try simp only [y_,z_]);have c0:=hbz.cell 0;have c1:=hbz.cell 1;have c2:=hbz.cell 2;have c3:=hbz.cell 3;have c4:=hbz.cell 4;have f0:=hbz.frozen;refine aR_ (rs:=[13]) (by kernel_rfl) (by simp) ?_;refine aC_ rfl (fun K hK=>?_) aN_;go_simp;refine hK.out _ _ ?_ (fun hHeld=>?_)
     ·exact trivial
     clear hK K;(try simp only [y_,z_]);refine aD_ (by kernel_rfl) ?_ _;go_wp2_with fail
     have hZ:=pat_end HRB.out hlt HUz hrz hpz hbz rfl;rw [set5_eq];refine bodyPost_ret (results_cell_row rfl _ _ rb 24 _ (0,0) _ rfl hZ.2.2.2 Try.underlying24 rfl (by kernel_rfl)) rfl ?_;exact ⟨_,_,by rw [HL.out];rfl,by rw [HL.out];exact hZ.1,by rw [HY.out];exact hZ.2.1,hZ.2.2.1⟩
    ·go_simp;refine hK.out _ _ ?_ (fun hHeld=>?_)
     ·exact trivial
     clear hK K;(try simp only [y_,z_]);obtain ⟨v2,Hv2⟩:=nm (v1.alloc (.cells #[.int .i64 QA.v,.int .i64 QA.op,.int .i64 QA.imm,.int .i64 QA.iv,.slice KA QA.kids.length kA] 24));rw [Hv2.out];have x2:Upd Non v1 v2:=by rw [←Hv2.out];exact Upd.refl.alloc _
     have hbk:Blk v2 v1.heap.size 24 #[.int .i64 QA.v,.int .i64 QA.op,.int .i64 QA.imm,.int .i64 QA.iv,.slice KA QA.kids.length kA]:=by rw [←Hv2.out];exact Blk.new _ _ _
     have hsk:rb<v1.heap.size:=hsz;have hbz:=hbz.upd x2 (fun f=>f);have hrz:=hrz.upd x2 (fun _ _ _ f=>f) (fun f=>f);have HUz:=HUz.then_non x2;have hsz:=Nat.lt_of_lt_of_le hsz x2.size;have hpA:=PtK.upd x2 (fun _ _ _ f=>f) _ _ _ hpA;refine aR_ (rs:=[0]) (by kernel_rfl) (by simp) ?_;refine aC_ rfl (fun K hK=>?_) aN_;go_simp;refine hK.out _ _ ?_ (fun hHeld=>?_)
     ·exact trivial
     clear hK K;(try simp only [y_,z_]);obtain ⟨v3,Hv3⟩:=nm (v2.alloc (.cells #[.int .i64 20,.int .i64 21] 3));rw [Hv3.out];have x3:Upd Non v2 v3:=by rw [←Hv3.out];exact Upd.refl.alloc _
     have hci:v3.cell? ⟨v2.heap.size,rr,none⟩=some (.int .i64 op):=by rw [←Hv3.out];exact ((Blk.new _ _ _).cell rr).trans HOP.out
     have hbi:v2.heap.size≠p:=by omega
     have hbz:=hbz.upd x3 (fun f=>f);have hrz:=hrz.upd x3 (fun _ _ _ f=>f) (fun f=>f);have HUz:=HUz.then_non x3;have hsz:=Nat.lt_of_lt_of_le hsz x3.size;have hpA:=PtK.upd x3 (fun _ _ _ f=>f) _ _ _ hpA;have hbk:=hbk.upd x3 (fun f=>f);refine wpT 3 ?_;(try simp only [y_,z_]);refine wpAnyH_takeM (fun w'=>w'.cell? ⟨v2.heap.size,rr,none⟩=some (.int .i64 op)) (calm_cell _ _) [12,13] (i:=4) (v:=?_) rfl (by kernel_rfl) (by kernel_rfl) (by kernel_rfl) (by kernel_rfl) (fun _ _ _ h=>h) (Or.inl ⟨by rfl,?_⟩) (hci) (by assumption) ?_
     rotate_left
     ·intro w hSw;(try dsimp only at hSw);go_simp;try with_reducible rfl
     (try simp only [y_,z_]);clear hci;have hpz:=PtK.one (kc:=1) 0 op 0 0 hbk hpA hsk (by omega);refine wpT 12 ?_;(try simp only [y_,z_]);have c0:=hbz.cell 0;have c1:=hbz.cell 1;have c2:=hbz.cell 2;have c3:=hbz.cell 3;have c4:=hbz.cell 4;have f0:=hbz.frozen;refine aR_ (rs:=[13]) (by kernel_rfl) (by simp) ?_;refine aC_ rfl (fun K hK=>?_) aN_;go_simp;refine hK.out _ _ ?_ (fun hHeld=>?_)
     ·exact trivial
     clear hK K;(try simp only [y_,z_]);refine aD_ (by kernel_rfl) ?_ _;go_wp2_with fail
     have hZ:=pat_end HRB.out hlt HUz hrz hpz hbz rfl;rw [set5_eq];refine bodyPost_ret (results_cell_row rfl _ _ rb 24 _ (0,0) _ rfl hZ.2.2.2 Try.underlying24 rfl (by kernel_rfl)) rfl ?_;exact ⟨_,_,by rw [HL.out];rfl,by rw [HL.out];exact hZ.1,by rw [HY.out];exact hZ.2.1,hZ.2.2.1⟩
  ·by_cases h6:k<6
   ·have hb1:b1=false:=by cases b1 with | false=>rfl | true=>have:=hb16 rfl;omega
    subst hb1;have t5:decide ((k:Int)<5)=false:=dF_ (by omega);have t6:decide ((k:Int)<6)=true:=dT_ (by omega);obtain ⟨rr,h3a,h3b,h3c⟩:=mF 3 (by decide) m;have h3a':(m:Int).tmod 3=(rr:Int):=h3a;obtain ⟨QA,HQA⟩:=nm (g1 tests xs.tail).1;obtain ⟨z1,Hz1⟩:=nm (g1 tests xs.tail).2;have CA:=h_ (fun (v:World) h=>CD.out tests v xs.tail h);rw [HQA.out,Hz1.out] at CA
    have HL:Hid ((G xs).1=q2 12 QA (q1c (rr:Int))):=by
     show _=_;have e:(m:Int) % 3=(rr:Int):=h3b;rw [HG1.out,if_neg h5,if_pos h6,HM.out,e,HQA.out]
    have HY:Hid ((G xs).2=z1):=by show _=_;rw [HG1.out,if_neg h5,if_pos h6];exact Hz1.out
    clear h3a h3b HG1 hb16 h5 h6 CD CE;go_wp2_with fail
    refine (CA.out w2 hrz).mono ?_;rintro e v1 ⟨KA,kA,rfl,hpA0,hrz,x1⟩;have hbz:=hbz.upd x1 (by omega);have HUz:=HUz.trans x1 (fun _ _ h=>h);have hpA:=PtK.mono (G:=fun k=>rb<k) (fun k _ h=>by have h:w2.heap.size≤k:=h;omega) _ _ _ hpA0;have hsz:=Nat.lt_of_lt_of_le hsz x1.size;clear hpA0;unfold pv;go_wp2_with fail
    refine (pairO_c _ 12 QA (q1c (rr:Int)) _ (fun _=>False) KA none kA 0 hpA PtK.leaf).mono ?_;rintro e vz ⟨KZ,kc,rfl,hpz0,xz⟩;have hbz:=hbz.upd xz (fun f=>f);have hrz:=hrz.upd xz (fun _ _ _ f=>f) (fun f=>f);have HUz:=HUz.then_non xz
    have hpz:=PtK.mono (G:=fun k=>rb<k) (fun k _ h=>by
     rcases h with h | h | h
     ·exact h
     ·exact h.elim
     ·exact Nat.lt_of_lt_of_le hsz h) _ _ _ hpz0
    have c0:=hbz.cell 0;have c1:=hbz.cell 1;have c2:=hbz.cell 2;have c3:=hbz.cell 3;have c4:=hbz.cell 4;have f0:=hbz.frozen;go_wp2_with fail
    have hZ:=pat_end HRB.out hlt HUz hrz hpz hbz rfl;rw [set5_eq];refine bodyPost_ret (results_cell_row rfl _ _ rb 24 _ (0,0) _ rfl hZ.2.2.2 Try.underlying24 rfl (by kernel_rfl)) rfl ?_;exact ⟨_,_,by rw [HL.out];rfl,by rw [HL.out];exact hZ.1,by rw [HY.out];exact hZ.2.1,hZ.2.2.1⟩
   ·have t6:decide ((k:Int)<6)=false:=dF_ (by omega);have t5:decide ((k:Int)<5)=false:=dF_ (by omega);rw [if_neg h5,if_neg h6] at HG1;clear hb16 h5;by_cases h7:k<7∧tests=true
    ·obtain ⟨h7,rfl⟩:=h7;have t7:decide ((k:Int)<7)=true:=dT_ (by omega);obtain ⟨rr,h3a,h3b,h3c⟩:=mF 5 (by decide) m;have h3a':(m:Int).tmod 5=(rr:Int):=h3a;obtain ⟨QA,HQA⟩:=nm (g2 xs.tail).1;obtain ⟨z1,Hz1⟩:=nm (g2 xs.tail).2;obtain ⟨QB,HQB⟩:=nm (g2 z1).1;obtain ⟨z2,Hz2⟩:=nm (g2 z1).2;have CA:=h_ (fun (v:World) h=>CE.out v xs.tail h);have CB:=h_ (fun (v:World) h=>CE.out v z1 h);rw [HQA.out,Hz1.out] at CA;rw [HQB.out,Hz2.out] at CB
     have HL:Hid ((G xs).1=q2 (15+(rr:Int)) QA QB):=by
      show _=_;have e:(m:Int) % 5=(rr:Int):=h3b;rw [HG1.out,if_pos ⟨h7,rfl⟩,HM.out,e,HQA.out,Hz1.out,HQB.out]
     have HY:Hid ((G xs).2=z2):=by show _=_;rw [HG1.out,if_pos ⟨h7,rfl⟩,Hz1.out,Hz2.out]
     clear h3a h3b HG1 h6 h7 CD CE
     cases b1 with
     | true =>
      go_wp2_with fail
      refine (CA.out w2 hrz).mono ?_;rintro e v1 ⟨KA,kA,rfl,hpA0,hrz,x1⟩;have hbz:=hbz.upd x1 (by omega);have HUz:=HUz.trans x1 (fun _ _ h=>h);have hpA:=PtK.mono (G:=fun k=>rb<k) (fun k _ h=>by have h:w2.heap.size≤k:=h;omega) _ _ _ hpA0;have hsz:=Nat.lt_of_lt_of_le hsz x1.size;clear hpA0;unfold pv;go_wp2_with fail
      refine (CB.out v1 hrz).mono ?_;rintro e v2 ⟨KB,kB,rfl,hpB0,hrz,x2⟩;have hbz:=hbz.upd x2 (by omega);have HUz:=HUz.trans x2 (fun _ _ h=>h);have hpB:=PtK.mono (G:=fun k=>rb<k) (fun k _ h=>by have h:v1.heap.size≤k:=h;omega) _ _ _ hpB0;have hsz:=Nat.lt_of_lt_of_le hsz x2.size;have hpA:=PtK.upd x2 (fun k _ h e=>by have h:rb<k:=h;omega) _ _ _ hpA;clear hpB0;unfold pv;go_wp2_with fail
      refine (pairO_c _ (15+(rr:Int)) QA QB _ _ KA KB kA kB hpA hpB).mono ?_;rintro e vz ⟨KZ,kc,rfl,hpz0,xz⟩;have hbz:=hbz.upd xz (fun f=>f);have hrz:=hrz.upd xz (fun _ _ _ f=>f) (fun f=>f);have HUz:=HUz.then_non xz;have hpz:=PtK.mono (G:=fun k=>rb<k) (fun k _ h=>by omega) _ _ _ hpz0;have c0:=hbz.cell 0;have c1:=hbz.cell 1;have c2:=hbz.cell 2;have c3:=hbz.cell 3;have c4:=hbz.cell 4;have f0:=hbz.frozen;go_wp2_with fail
      have hZ:=pat_end HRB.out hlt HUz hrz hpz hbz rfl;rw [set5_eq];refine bodyPost_ret (results_cell_row rfl _ _ rb 24 _ (0,0) _ rfl hZ.2.2.2 Try.underlying24 rfl (by kernel_rfl)) rfl ?_;exact ⟨_,_,by rw [HL.out];rfl,by rw [HL.out];exact hZ.1,by rw [HY.out];exact hZ.2.1,hZ.2.2.1⟩
     | false =>
      go_wp2_with fail
      refine (CA.out w2 hrz).mono ?_;rintro e v1 ⟨KA,kA,rfl,hpA0,hrz,x1⟩;have hbz:=hbz.upd x1 (by omega);have HUz:=HUz.trans x1 (fun _ _ h=>h);have hpA:=PtK.mono (G:=fun k=>rb<k) (fun k _ h=>by have h:w2.heap.size≤k:=h;omega) _ _ _ hpA0;have hsz:=Nat.lt_of_lt_of_le hsz x1.size;clear hpA0;unfold pv;go_wp2_with fail
      refine (CB.out v1 hrz).mono ?_;rintro e v2 ⟨KB,kB,rfl,hpB0,hrz,x2⟩;have hbz:=hbz.upd x2 (by omega);have HUz:=HUz.trans x2 (fun _ _ h=>h);have hpB:=PtK.mono (G:=fun k=>rb<k) (fun k _ h=>by have h:v1.heap.size≤k:=h;omega) _ _ _ hpB0;have hsz:=Nat.lt_of_lt_of_le hsz x2.size;have hpA:=PtK.upd x2 (fun k _ h e=>by have h:rb<k:=h;omega) _ _ _ hpA;clear hpB0;unfold pv;go_wp2_with fail
      refine (pairO_c _ (15+(rr:Int)) QA QB _ _ KA KB kA kB hpA hpB).mono ?_;rintro e vz ⟨KZ,kc,rfl,hpz0,xz⟩;have hbz:=hbz.upd xz (fun f=>f);have hrz:=hrz.upd xz (fun _ _ _ f=>f) (fun f=>f);have HUz:=HUz.then_non xz;have hpz:=PtK.mono (G:=fun k=>rb<k) (fun k _ h=>by omega) _ _ _ hpz0;have c0:=hbz.cell 0;have c1:=hbz.cell 1;have c2:=hbz.cell 2;have c3:=hbz.cell 3;have c4:=hbz.cell 4;have f0:=hbz.frozen;go_wp2_with fail
      have hZ:=pat_end HRB.out hlt HUz hrz hpz hbz rfl;rw [set5_eq];refine bodyPost_ret (results_cell_row rfl _ _ rb 24 _ (0,0) _ rfl hZ.2.2.2 Try.underlying24 rfl (by kernel_rfl)) rfl ?_;exact ⟨_,_,by rw [HL.out];rfl,by rw [HL.out];exact hZ.1,by rw [HY.out];exact hZ.2.1,hZ.2.2.1⟩
    ·by_cases h8:k<8∧tests=true
     ·obtain ⟨h8,rfl⟩:=h8
      have hk7:k=7:=by
       rcases Nat.lt_or_ge k 7 with q | q
       ·exact (h7 ⟨q,rfl⟩).elim
       ·omega
      subst hk7;have hb1':True:=trivial;obtain ⟨QA,HQA⟩:=nm (g1 false xs.tail).1;obtain ⟨z1,Hz1⟩:=nm (g1 false xs.tail).2;obtain ⟨QB,HQB⟩:=nm (g2 z1).1;obtain ⟨z2,Hz2⟩:=nm (g2 z1).2;obtain ⟨QC,HQC⟩:=nm (g2 z2).1;obtain ⟨z3,Hz3⟩:=nm (g2 z2).2;have CA:=h_ (fun (v:World) h=>CD.out false v xs.tail h);have CB:=h_ (fun (v:World) h=>CE.out v z1 h);have CC:=h_ (fun (v:World) h=>CE.out v z2 h);rw [HQA.out,Hz1.out] at CA;rw [HQB.out,Hz2.out] at CB;rw [HQC.out,Hz3.out] at CC
      have HL:Hid ((G xs).1=.mk 0 22 0 0 [QA,QB,QC]):=by
       show _=_;rw [HG1.out,if_neg h7,if_pos ⟨by decide,rfl⟩,HQA.out,Hz1.out,HQB.out,Hz2.out,HQC.out]
      have HY:Hid ((G xs).2=z3):=by show _=_;rw [HG1.out,if_neg h7,if_pos ⟨by decide,rfl⟩,Hz1.out,Hz2.out,Hz3.out]
      clear HG1 h6 h7 h8 CD CE hb1'
      cases b1 with
      | true =>
       go_wp2_with fail
       refine (CA.out w2 hrz).mono ?_;rintro e v1 ⟨KA,kA,rfl,hpA0,hrz,x1⟩;have hbz:=hbz.upd x1 (by omega);have HUz:=HUz.trans x1 (fun _ _ h=>h);have hpA:=PtK.mono (G:=fun k=>rb<k) (fun k _ h=>by have h:w2.heap.size≤k:=h;omega) _ _ _ hpA0;have hsz:=Nat.lt_of_lt_of_le hsz x1.size;clear hpA0;unfold pv;go_wp2_with fail
       refine (CB.out v1 hrz).mono ?_;rintro e v2 ⟨KB,kB,rfl,hpB0,hrz,x2⟩;have hbz:=hbz.upd x2 (by omega);have HUz:=HUz.trans x2 (fun _ _ h=>h);have hpB:=PtK.mono (G:=fun k=>rb<k) (fun k _ h=>by have h:v1.heap.size≤k:=h;omega) _ _ _ hpB0;have hsz:=Nat.lt_of_lt_of_le hsz x2.size;have hpA:=PtK.upd x2 (fun k _ h e=>by have h:rb<k:=h;omega) _ _ _ hpA;clear hpB0;unfold pv;go_wp2_with fail
       refine (CC.out v2 hrz).mono ?_;rintro e v3 ⟨KC,kC,rfl,hpC0,hrz,x3⟩;have hbz:=hbz.upd x3 (by omega);have HUz:=HUz.trans x3 (fun _ _ h=>h);have hpC:=PtK.mono (G:=fun k=>rb<k) (fun k _ h=>by have h:v2.heap.size≤k:=h;omega) _ _ _ hpC0;have hsz:=Nat.lt_of_lt_of_le hsz x3.size;have hpA:=PtK.upd x3 (fun k _ h e=>by have h:rb<k:=h;omega) _ _ _ hpA;have hpB:=PtK.upd x3 (fun k _ h e=>by have h:rb<k:=h;omega) _ _ _ hpB;clear hpC0;obtain ⟨v4,Hv4⟩:=nm (v3.alloc (.cells #[.int .i64 QA.v,.int .i64 QA.op,.int .i64 QA.imm,.int .i64 QA.iv,.slice KA QA.kids.length kA,.int .i64 QB.v,.int .i64 QB.op,.int .i64 QB.imm,.int .i64 QB.iv,.slice KB QB.kids.length kB,.int .i64 QC.v,.int .i64 QC.op,.int .i64 QC.imm,.int .i64 QC.iv,.slice KC QC.kids.length kC] 24))
       have e4:=Hv4.out;have x4:Upd Non v3 v4:=by rw [←Hv4.out];exact Upd.refl.alloc _
       have hbk:Blk v4 v3.heap.size 24 #[.int .i64 QA.v,.int .i64 QA.op,.int .i64 QA.imm,.int .i64 QA.iv,.slice KA QA.kids.length kA,.int .i64 QB.v,.int .i64 QB.op,.int .i64 QB.imm,.int .i64 QB.iv,.slice KB QB.kids.length kB,.int .i64 QC.v,.int .i64 QC.op,.int .i64 QC.imm,.int .i64 QC.iv,.slice KC QC.kids.length kC]:=by rw [←Hv4.out];exact Blk.new _ _ _
       have hsk:rb<v3.heap.size:=hsz;have hbz:=hbz.upd x4 (fun f=>f);have hrz:=hrz.upd x4 (fun _ _ _ f=>f) (fun f=>f);have HUz:=HUz.then_non x4;have hpz:=PtK.three (kc:=3) 0 22 0 0 hbk (PtK.upd x4 (fun _ _ _ f=>f) _ _ _ hpA) (PtK.upd x4 (fun _ _ _ f=>f) _ _ _ hpB) (PtK.upd x4 (fun _ _ _ f=>f) _ _ _ hpC) hsk (by omega)
       have c0:=hbz.cell 0;have c1:=hbz.cell 1;have c2:=hbz.cell 2;have c3:=hbz.cell 3;have c4:=hbz.cell 4;have f0:=hbz.frozen;unfold pv;go_wp2_with fail
       have hZ:=pat_end HRB.out hlt HUz hrz hpz hbz rfl;rw [set5_eq];refine bodyPost_ret (results_cell_row rfl _ _ rb 24 _ (0,0) _ rfl hZ.2.2.2 Try.underlying24 rfl (by kernel_rfl)) rfl ?_;exact ⟨_,_,by rw [HL.out];rfl,by rw [HL.out];exact hZ.1,by rw [HY.out];exact hZ.2.1,hZ.2.2.1⟩
      | false =>
       go_wp2_with fail
       refine (CA.out w2 hrz).mono ?_;rintro e v1 ⟨KA,kA,rfl,hpA0,hrz,x1⟩;have hbz:=hbz.upd x1 (by omega);have HUz:=HUz.trans x1 (fun _ _ h=>h);have hpA:=PtK.mono (G:=fun k=>rb<k) (fun k _ h=>by have h:w2.heap.size≤k:=h;omega) _ _ _ hpA0;have hsz:=Nat.lt_of_lt_of_le hsz x1.size;clear hpA0;unfold pv;go_wp2_with fail
       refine (CB.out v1 hrz).mono ?_;rintro e v2 ⟨KB,kB,rfl,hpB0,hrz,x2⟩;have hbz:=hbz.upd x2 (by omega);have HUz:=HUz.trans x2 (fun _ _ h=>h);have hpB:=PtK.mono (G:=fun k=>rb<k) (fun k _ h=>by have h:v1.heap.size≤k:=h;omega) _ _ _ hpB0;have hsz:=Nat.lt_of_lt_of_le hsz x2.size;have hpA:=PtK.upd x2 (fun k _ h e=>by have h:rb<k:=h;omega) _ _ _ hpA;clear hpB0;unfold pv;go_wp2_with fail
       refine (CC.out v2 hrz).mono ?_;rintro e v3 ⟨KC,kC,rfl,hpC0,hrz,x3⟩;have hbz:=hbz.upd x3 (by omega);have HUz:=HUz.trans x3 (fun _ _ h=>h);have hpC:=PtK.mono (G:=fun k=>rb<k) (fun k _ h=>by have h:v2.heap.size≤k:=h;omega) _ _ _ hpC0;have hsz:=Nat.lt_of_lt_of_le hsz x3.size;have hpA:=PtK.upd x3 (fun k _ h e=>by have h:rb<k:=h;omega) _ _ _ hpA;have hpB:=PtK.upd x3 (fun k _ h e=>by have h:rb<k:=h;omega) _ _ _ hpB;clear hpC0;obtain ⟨v4,Hv4⟩:=nm (v3.alloc (.cells #[.int .i64 QA.v,.int .i64 QA.op,.int .i64 QA.imm,.int .i64 QA.iv,.slice KA QA.kids.length kA,.int .i64 QB.v,.int .i64 QB.op,.int .i64 QB.imm,.int .i64 QB.iv,.slice KB QB.kids.length kB,.int .i64 QC.v,.int .i64 QC.op,.int .i64 QC.imm,.int .i64 QC.iv,.slice KC QC.kids.length kC] 24))
       have e4:=Hv4.out;have x4:Upd Non v3 v4:=by rw [←Hv4.out];exact Upd.refl.alloc _
       have hbk:Blk v4 v3.heap.size 24 #[.int .i64 QA.v,.int .i64 QA.op,.int .i64 QA.imm,.int .i64 QA.iv,.slice KA QA.kids.length kA,.int .i64 QB.v,.int .i64 QB.op,.int .i64 QB.imm,.int .i64 QB.iv,.slice KB QB.kids.length kB,.int .i64 QC.v,.int .i64 QC.op,.int .i64 QC.imm,.int .i64 QC.iv,.slice KC QC.kids.length kC]:=by rw [←Hv4.out];exact Blk.new _ _ _
       have hsk:rb<v3.heap.size:=hsz;have hbz:=hbz.upd x4 (fun f=>f);have hrz:=hrz.upd x4 (fun _ _ _ f=>f) (fun f=>f);have HUz:=HUz.then_non x4;have hpz:=PtK.three (kc:=3) 0 22 0 0 hbk (PtK.upd x4 (fun _ _ _ f=>f) _ _ _ hpA) (PtK.upd x4 (fun _ _ _ f=>f) _ _ _ hpB) (PtK.upd x4 (fun _ _ _ f=>f) _ _ _ hpC) hsk (by omega)
       have c0:=hbz.cell 0;have c1:=hbz.cell 1;have c2:=hbz.cell 2;have c3:=hbz.cell 3;have c4:=hbz.cell 4;have f0:=hbz.frozen;unfold pv;go_wp2_with fail
       have hZ:=pat_end HRB.out hlt HUz hrz hpz hbz rfl;rw [set5_eq];refine bodyPost_ret (results_cell_row rfl _ _ rb 24 _ (0,0) _ rfl hZ.2.2.2 Try.underlying24 rfl (by kernel_rfl)) rfl ?_;exact ⟨_,_,by rw [HL.out];rfl,by rw [HL.out];exact hZ.1,by rw [HY.out];exact hZ.2.1,hZ.2.2.1⟩
     ·obtain ⟨rr,h3a,h3b,h3c⟩:=mF 5 (by decide) m;have h3a':(m:Int).tmod 5=(rr:Int):=h3a;have h3c':(rr:Int)<5:=by omega
      obtain ⟨op,hop⟩:∃op:Int,op=[4,5,9,10,11].getD rr 0:=⟨_,rfl⟩
      have HOP:Hid ((#[Value.int .i64 4,.int .i64 5,.int .i64 9,.int .i64 10,.int .i64 11]:Array Value)[rr]?=some (.int .i64 op)):=by
       show _=_;rw [hop]
       match rr,h3c with
       | 0,_=>rfl
       | 1,_=>rfl
       | 2,_=>rfl
       | 3,_=>rfl
       | 4,_=>rfl
      obtain ⟨QA,HQA⟩:=nm (g1 tests xs.tail).1;obtain ⟨z1,Hz1⟩:=nm (g1 tests xs.tail).2;obtain ⟨QB,HQB⟩:=nm (g1 tests z1).1;obtain ⟨z2,Hz2⟩:=nm (g1 tests z1).2;have CA:=h_ (fun (v:World) h=>CD.out tests v xs.tail h);have CB:=h_ (fun (v:World) h=>CD.out tests v z1 h);rw [HQA.out,Hz1.out] at CA;rw [HQB.out,Hz2.out] at CB
      have HL:Hid ((G xs).1=q2 op QA QB):=by
       show _=_;have e:(m:Int) % 5=(rr:Int):=h3b;rw [HG1.out,if_neg h7,if_neg h8,HM.out,e,HQA.out,Hz1.out,HQB.out,Int.toNat_natCast,hop]
      have HY:Hid ((G xs).2=z2):=by show _=_;rw [HG1.out,if_neg h7,if_neg h8,Hz1.out,Hz2.out]
      clear h3a h3b HG1 h6 hop CD CE
      go_upto_block 0 with fail
      go_cut [] (fun wx=>wx=w2)
      case first =>
       rcases Nat.lt_or_ge k 8 with q8 | q8
       ·have htf:tests=false:=by cases tests with | false=>rfl | true=>exact (h8 ⟨q8,rfl⟩).elim
        subst htf;clear h7 h8;by_cases q7:k<7
        ·have t7:decide ((k:Int)<7)=true:=dT_ (by omega);have t8:decide ((k:Int)<8)=true:=dT_ (by omega)
         cases b1 with
         | true =>
          go_wp2_with fail
          go_meet
          case rel=>rfl
         | false =>
          go_wp2_with fail
          go_meet
          case rel=>rfl
        ·have t7:decide ((k:Int)<7)=false:=dF_ (by omega);have t8:decide ((k:Int)<8)=true:=dT_ (by omega)
         cases b1 with
         | true =>
          go_wp2_with fail
          go_meet
          case rel=>rfl
         | false =>
          go_wp2_with fail
          go_meet
          case rel=>rfl
       ·have t7:decide ((k:Int)<7)=false:=dF_ (by omega);have t8:decide ((k:Int)<8)=false:=dF_ (by omega);clear h7 h8
        cases b1 with
        | true =>
         go_wp2_with fail
         go_meet
         case rel=>rfl
        | false =>
         go_wp2_with fail
         go_meet
         case rel=>rfl
      case rest =>
      subst hcut;clear h7 h8;go_wp2_with fail
      obtain ⟨wD,HwD⟩:=nm wc.drew;have xD:Upd Non wc wD:=by rw [←HwD.out];exact Upd.refl.drew
      have hbz:=hbz.upd xD (fun f=>f);have hrz:=hrz.upd xD (fun _ _ _ f=>f) (fun f=>f);have HUz:=HUz.then_non xD;have hsz:=Nat.lt_of_lt_of_le hsz xD.size;refine wp_region_held_drew (S:=fun _=>True) (by kernel_rfl) trivial (fun hHeld=>?_);rw [HwD.out];have q1:IntKind.i64.wrap (deep+1)=deep+1:=i64w_of (by unfold I64;omega);refine wpT 1 ?_;(try simp only [y_,z_]);refine wpT 2 ?_;(try simp only [y_,z_]);refine wpT 5 ?_;(try simp only [y_,z_]);refine wpT 6 ?_;(try simp only [y_,z_]);refine wpT 7 ?_;(try simp only [y_,z_]);refine wpT 8 ?_;(try simp only [y_,z_]);refine wpT 9 ?_;(try simp only [y_,z_]);refine wpT 11 ?_;(try simp only [y_,z_]);refine wpT 12 ?_;(try simp only [y_,z_]);refine wpT 13 ?_;(try simp only [y_,z_]);refine wpT 14 ?_;(try simp only [y_,z_]);refine wpT 15 ?_;(try simp only [y_,z_]);refine aR_ (rs:=[0,10]) (by kernel_rfl) (by simp) ?_;refine aC_ rfl (fun K hK=>?_) (aC_ rfl (fun K hK=>?_) aN_)
      ·go_simp;refine hK.out _ _ ?_ (fun hHeld=>?_)
       ·exact trivial
       clear hK K;(try simp only [y_,z_]);obtain ⟨v1,Hv1⟩:=nm (wD.alloc (.cells #[.int .i64 4,.int .i64 5,.int .i64 9,.int .i64 10,.int .i64 11] 3));rw [Hv1.out];have x1:Upd Non wD v1:=by rw [←Hv1.out];exact Upd.refl.alloc _
       have hci:v1.cell? ⟨wD.heap.size,rr,none⟩=some (.int .i64 op):=by rw [←Hv1.out];exact ((Blk.new _ _ _).cell rr).trans HOP.out
       have hbi:wD.heap.size≠p:=by omega
       have hbz:=hbz.upd x1 (fun f=>f);have hrz:=hrz.upd x1 (fun _ _ _ f=>f) (fun f=>f);have HUz:=HUz.then_non x1;have hsz:=Nat.lt_of_lt_of_le hsz x1.size;refine wpT 3 ?_;(try simp only [y_,z_]);refine aR_ (rs:=[4,10]) (by kernel_rfl) (by simp) ?_;refine aC_ rfl (fun K hK=>?_) (aC_ rfl (fun K hK=>?_) aN_)
       ·go_simp;refine hK.out _ _ ?_ (fun hHeld=>?_)
        ·exact trivial
        clear hK K;(try simp only [y_,z_]);clear hci;refine aR_ (rs:=[10]) (by kernel_rfl) (by simp) ?_;refine aC_ rfl (fun K hK=>?_) aN_;go_simp;refine (CA.out v1 hrz).mono ?_;rintro e v3 ⟨KA,kA,rfl,hpA0,hrz,x3⟩;unfold pv;go_wp2_with fail
        refine hK.out _ _ ?_ (fun hHeld=>?_)
        ·exact trivial
        clear hK K;(try simp only [y_,z_]);have hbz:=hbz.upd x3 (by omega);have HUz:=HUz.trans x3 (fun _ _ h=>h);have hpA:=PtK.mono (G:=fun k=>rb<k) (fun k _ h=>by have h:v1.heap.size≤k:=h;omega) _ _ _ hpA0;have hsz:=Nat.lt_of_lt_of_le hsz x3.size;clear hpA0;refine aR_ (rs:=[16]) (by kernel_rfl) (by simp) ?_;refine aC_ rfl (fun K hK=>?_) aN_;go_simp;refine (CB.out v3 hrz).mono ?_;rintro e v4 ⟨KB,kB,rfl,hpB0,hrz,x4⟩;unfold pv;go_wp2_with fail
        refine hK.out _ _ ?_ (fun hHeld=>?_)
        ·exact trivial
        clear hK K;(try simp only [y_,z_]);have hbz:=hbz.upd x4 (by omega);have HUz:=HUz.trans x4 (fun _ _ h=>h);have hpB:=PtK.mono (G:=fun k=>rb<k) (fun k _ h=>by have h:v3.heap.size≤k:=h;omega) _ _ _ hpB0;have hsz:=Nat.lt_of_lt_of_le hsz x4.size;clear hpB0;have hpA:=PtK.upd x4 (fun k _ h e=>by have h:rb<k:=h;omega) _ _ _ hpA;refine aR_ (rs:=[17]) (by kernel_rfl) (by simp) ?_;refine aC_ rfl (fun K hK=>?_) aN_;go_simp;refine (pairO_c _ op QA QB _ _ KA KB kA kB hpA hpB).mono ?_;rintro e vz ⟨KZ,kc,rfl,hpz0,xz⟩;go_wp2_with fail
        refine hK.out _ _ ?_ (fun hHeld=>?_)
        ·exact trivial
        clear hK K;(try simp only [y_,z_]);have hbz:=hbz.upd xz (fun f=>f);have hrz:=hrz.upd xz (fun _ _ _ f=>f) (fun f=>f);have HUz:=HUz.then_non xz;have hpz:=PtK.mono (G:=fun k=>rb<k) (fun k _ h=>by omega) _ _ _ hpz0;have c0:=hbz.cell 0;have c1:=hbz.cell 1;have c2:=hbz.cell 2;have c3:=hbz.cell 3;have c4:=hbz.cell 4;have f0:=hbz.frozen;refine aR_ (rs:=[18]) (by kernel_rfl) (by simp) ?_;refine aC_ rfl (fun K hK=>?_) aN_;go_simp;refine hK.out _ _ ?_ (fun hHeld=>?_)
        ·exact trivial
        clear hK K;(try simp only [y_,z_]);refine aD_ (by kernel_rfl) ?_ _;go_wp2_with fail
        have hZ:=pat_end HRB.out hlt HUz hrz hpz hbz rfl;rw [set5_eq];refine bodyPost_ret (results_cell_row rfl _ _ rb 24 _ (0,0) _ rfl hZ.2.2.2 Try.underlying24 rfl (by kernel_rfl)) rfl ?_;exact ⟨_,_,by rw [HL.out];rfl,by rw [HL.out];exact hZ.1,by rw [HY.out];exact hZ.2.1,hZ.2.2.1⟩
       ·go_simp;refine (CA.out v1 hrz).mono ?_;rintro e v2 ⟨KA,kA,rfl,hpA0,hrz,x2⟩;unfold pv;go_wp2_with fail
        refine hK.out _ _ ?_ (fun hHeld=>?_)
        ·exact trivial
        clear hK K;(try simp only [y_,z_]);have hbz:=hbz.upd x2 (by omega);have HUz:=HUz.trans x2 (fun _ _ h=>h);have hpA:=PtK.mono (G:=fun k=>rb<k) (fun k _ h=>by have h:v1.heap.size≤k:=h;omega) _ _ _ hpA0;have hsz:=Nat.lt_of_lt_of_le hsz x2.size;clear hpA0;have hci:=u_ (S:=(·=p)) hci x2 hbi;refine aR_ (rs:=[4,16]) (by kernel_rfl) (by simp) ?_;refine aC_ rfl (fun K hK=>?_) (aC_ rfl (fun K hK=>?_) aN_)
        ·go_simp;refine hK.out _ _ ?_ (fun hHeld=>?_)
         ·exact trivial
         clear hK K;(try simp only [y_,z_]);clear hci;refine aR_ (rs:=[16]) (by kernel_rfl) (by simp) ?_;refine aC_ rfl (fun K hK=>?_) aN_;go_simp;refine (CB.out v2 hrz).mono ?_;rintro e v4 ⟨KB,kB,rfl,hpB0,hrz,x4⟩;unfold pv;go_wp2_with fail
         refine hK.out _ _ ?_ (fun hHeld=>?_)
         ·exact trivial
         clear hK K;(try simp only [y_,z_]);have hbz:=hbz.upd x4 (by omega);have HUz:=HUz.trans x4 (fun _ _ h=>h);have hpB:=PtK.mono (G:=fun k=>rb<k) (fun k _ h=>by have h:v2.heap.size≤k:=h;omega) _ _ _ hpB0;have hsz:=Nat.lt_of_lt_of_le hsz x4.size;clear hpB0;have hpA:=PtK.upd x4 (fun k _ h e=>by have h:rb<k:=h;omega) _ _ _ hpA;refine aR_ (rs:=[17]) (by kernel_rfl) (by simp) ?_;refine aC_ rfl (fun K hK=>?_) aN_;go_simp;refine (pairO_c _ op QA QB _ _ KA KB kA kB hpA hpB).mono ?_;rintro e vz ⟨KZ,kc,rfl,hpz0,xz⟩;go_wp2_with fail
         refine hK.out _ _ ?_ (fun hHeld=>?_)
         ·exact trivial
         clear hK K;(try simp only [y_,z_]);have hbz:=hbz.upd xz (fun f=>f);have hrz:=hrz.upd xz (fun _ _ _ f=>f) (fun f=>f);have HUz:=HUz.then_non xz;have hpz:=PtK.mono (G:=fun k=>rb<k) (fun k _ h=>by omega) _ _ _ hpz0;have c0:=hbz.cell 0;have c1:=hbz.cell 1;have c2:=hbz.cell 2;have c3:=hbz.cell 3;have c4:=hbz.cell 4;have f0:=hbz.frozen;refine aR_ (rs:=[18]) (by kernel_rfl) (by simp) ?_;refine aC_ rfl (fun K hK=>?_) aN_;go_simp;refine hK.out _ _ ?_ (fun hHeld=>?_)
         ·exact trivial
         clear hK K;(try simp only [y_,z_]);refine aD_ (by kernel_rfl) ?_ _;go_wp2_with fail
         have hZ:=pat_end HRB.out hlt HUz hrz hpz hbz rfl;rw [set5_eq];refine bodyPost_ret (results_cell_row rfl _ _ rb 24 _ (0,0) _ rfl hZ.2.2.2 Try.underlying24 rfl (by kernel_rfl)) rfl ?_;exact ⟨_,_,by rw [HL.out];rfl,by rw [HL.out];exact hZ.1,by rw [HY.out];exact hZ.2.1,hZ.2.2.1⟩
        ·go_simp;refine (CB.out v2 hrz).mono ?_;rintro e v3 ⟨KB,kB,rfl,hpB0,hrz,x3⟩;unfold pv;go_wp2_with fail
         refine hK.out _ _ ?_ (fun hHeld=>?_)
         ·exact trivial
         clear hK K;(try simp only [y_,z_]);have hbz:=hbz.upd x3 (by omega);have HUz:=HUz.trans x3 (fun _ _ h=>h);have hpB:=PtK.mono (G:=fun k=>rb<k) (fun k _ h=>by have h:v2.heap.size≤k:=h;omega) _ _ _ hpB0;have hsz:=Nat.lt_of_lt_of_le hsz x3.size;clear hpB0;have hpA:=PtK.upd x3 (fun k _ h e=>by have h:rb<k:=h;omega) _ _ _ hpA;have hci:=u_ (S:=(·=p)) hci x3 hbi;refine wpAnyH_takeM (fun w'=>w'.cell? ⟨wD.heap.size,rr,none⟩=some (.int .i64 op)) (calm_cell _ _) [17,18] (i:=4) (v:=?_) rfl (by kernel_rfl) (by kernel_rfl) (by kernel_rfl) (by kernel_rfl) (fun _ _ _ h=>h) (Or.inl ⟨by rfl,?_⟩) (hci) (by assumption) ?_
         rotate_left
         ·intro w hSw;(try dsimp only at hSw);go_simp;try with_reducible rfl
         (try simp only [y_,z_]);clear hci;refine aR_ (rs:=[17]) (by kernel_rfl) (by simp) ?_;refine aC_ rfl (fun K hK=>?_) aN_;go_simp;refine (pairO_c _ op QA QB _ _ KA KB kA kB hpA hpB).mono ?_;rintro e vz ⟨KZ,kc,rfl,hpz0,xz⟩;go_wp2_with fail
         refine hK.out _ _ ?_ (fun hHeld=>?_)
         ·exact trivial
         clear hK K;(try simp only [y_,z_]);have hbz:=hbz.upd xz (fun f=>f);have hrz:=hrz.upd xz (fun _ _ _ f=>f) (fun f=>f);have HUz:=HUz.then_non xz;have hpz:=PtK.mono (G:=fun k=>rb<k) (fun k _ h=>by omega) _ _ _ hpz0;have c0:=hbz.cell 0;have c1:=hbz.cell 1;have c2:=hbz.cell 2;have c3:=hbz.cell 3;have c4:=hbz.cell 4;have f0:=hbz.frozen;refine aR_ (rs:=[18]) (by kernel_rfl) (by simp) ?_;refine aC_ rfl (fun K hK=>?_) aN_;go_simp;refine hK.out _ _ ?_ (fun hHeld=>?_)
         ·exact trivial
         clear hK K;(try simp only [y_,z_]);refine aD_ (by kernel_rfl) ?_ _;go_wp2_with fail
         have hZ:=pat_end HRB.out hlt HUz hrz hpz hbz rfl;rw [set5_eq];refine bodyPost_ret (results_cell_row rfl _ _ rb 24 _ (0,0) _ rfl hZ.2.2.2 Try.underlying24 rfl (by kernel_rfl)) rfl ?_;exact ⟨_,_,by rw [HL.out];rfl,by rw [HL.out];exact hZ.1,by rw [HY.out];exact hZ.2.1,hZ.2.2.1⟩
      ·go_simp;refine (CA.out wD hrz).mono ?_;rintro e v1 ⟨KA,kA,rfl,hpA0,hrz,x1⟩;unfold pv;go_wp2_with fail
       refine hK.out _ _ ?_ (fun hHeld=>?_)
       ·exact trivial
       clear hK K;(try simp only [y_,z_]);have hbz:=hbz.upd x1 (by omega);have HUz:=HUz.trans x1 (fun _ _ h=>h);have hpA:=PtK.mono (G:=fun k=>rb<k) (fun k _ h=>by have h:wD.heap.size≤k:=h;omega) _ _ _ hpA0;have hsz:=Nat.lt_of_lt_of_le hsz x1.size;clear hpA0;refine aR_ (rs:=[0,16]) (by kernel_rfl) (by simp) ?_;refine aC_ rfl (fun K hK=>?_) (aC_ rfl (fun K hK=>?_) aN_)
       ·go_simp;refine hK.out _ _ ?_ (fun hHeld=>?_)
        ·exact trivial
        clear hK K;(try simp only [y_,z_]);obtain ⟨v2,Hv2⟩:=nm (v1.alloc (.cells #[.int .i64 4,.int .i64 5,.int .i64 9,.int .i64 10,.int .i64 11] 3));rw [Hv2.out];have x2:Upd Non v1 v2:=by rw [←Hv2.out];exact Upd.refl.alloc _
        have hci:v2.cell? ⟨v1.heap.size,rr,none⟩=some (.int .i64 op):=by rw [←Hv2.out];exact ((Blk.new _ _ _).cell rr).trans HOP.out
        have hbi:v1.heap.size≠p:=by omega
        have hbz:=hbz.upd x2 (fun f=>f);have hrz:=hrz.upd x2 (fun _ _ _ f=>f) (fun f=>f);have HUz:=HUz.then_non x2;have hsz:=Nat.lt_of_lt_of_le hsz x2.size;have hpA:=PtK.upd x2 (fun _ _ _ f=>f) _ _ _ hpA;refine wpT 3 ?_;(try simp only [y_,z_]);refine aR_ (rs:=[4,16]) (by kernel_rfl) (by simp) ?_;refine aC_ rfl (fun K hK=>?_) (aC_ rfl (fun K hK=>?_) aN_)
        ·go_simp;refine hK.out _ _ ?_ (fun hHeld=>?_)
         ·exact trivial
         clear hK K;(try simp only [y_,z_]);clear hci;refine aR_ (rs:=[16]) (by kernel_rfl) (by simp) ?_;refine aC_ rfl (fun K hK=>?_) aN_;go_simp;refine (CB.out v2 hrz).mono ?_;rintro e v4 ⟨KB,kB,rfl,hpB0,hrz,x4⟩;unfold pv;go_wp2_with fail
         refine hK.out _ _ ?_ (fun hHeld=>?_)
         ·exact trivial
         clear hK K;(try simp only [y_,z_]);have hbz:=hbz.upd x4 (by omega);have HUz:=HUz.trans x4 (fun _ _ h=>h);have hpB:=PtK.mono (G:=fun k=>rb<k) (fun k _ h=>by have h:v2.heap.size≤k:=h;omega) _ _ _ hpB0;have hsz:=Nat.lt_of_lt_of_le hsz x4.size;clear hpB0;have hpA:=PtK.upd x4 (fun k _ h e=>by have h:rb<k:=h;omega) _ _ _ hpA;refine aR_ (rs:=[17]) (by kernel_rfl) (by simp) ?_;refine aC_ rfl (fun K hK=>?_) aN_;go_simp;refine (pairO_c _ op QA QB _ _ KA KB kA kB hpA hpB).mono ?_;rintro e vz ⟨KZ,kc,rfl,hpz0,xz⟩;go_wp2_with fail
         refine hK.out _ _ ?_ (fun hHeld=>?_)
         ·exact trivial
         clear hK K;(try simp only [y_,z_]);have hbz:=hbz.upd xz (fun f=>f);have hrz:=hrz.upd xz (fun _ _ _ f=>f) (fun f=>f);have HUz:=HUz.then_non xz;have hpz:=PtK.mono (G:=fun k=>rb<k) (fun k _ h=>by omega) _ _ _ hpz0;have c0:=hbz.cell 0;have c1:=hbz.cell 1;have c2:=hbz.cell 2;have c3:=hbz.cell 3;have c4:=hbz.cell 4;have f0:=hbz.frozen;refine aR_ (rs:=[18]) (by kernel_rfl) (by simp) ?_;refine aC_ rfl (fun K hK=>?_) aN_;go_simp;refine hK.out _ _ ?_ (fun hHeld=>?_)
         ·exact trivial
         clear hK K;(try simp only [y_,z_]);refine aD_ (by kernel_rfl) ?_ _;go_wp2_with fail
         have hZ:=pat_end HRB.out hlt HUz hrz hpz hbz rfl;rw [set5_eq];refine bodyPost_ret (results_cell_row rfl _ _ rb 24 _ (0,0) _ rfl hZ.2.2.2 Try.underlying24 rfl (by kernel_rfl)) rfl ?_;exact ⟨_,_,by rw [HL.out];rfl,by rw [HL.out];exact hZ.1,by rw [HY.out];exact hZ.2.1,hZ.2.2.1⟩
        ·go_simp;refine (CB.out v2 hrz).mono ?_;rintro e v3 ⟨KB,kB,rfl,hpB0,hrz,x3⟩;unfold pv;go_wp2_with fail
         refine hK.out _ _ ?_ (fun hHeld=>?_)
         ·exact trivial
         clear hK K;(try simp only [y_,z_]);have hbz:=hbz.upd x3 (by omega);have HUz:=HUz.trans x3 (fun _ _ h=>h);have hpB:=PtK.mono (G:=fun k=>rb<k) (fun k _ h=>by have h:v2.heap.size≤k:=h;omega) _ _ _ hpB0;have hsz:=Nat.lt_of_lt_of_le hsz x3.size;clear hpB0;have hpA:=PtK.upd x3 (fun k _ h e=>by have h:rb<k:=h;omega) _ _ _ hpA;have hci:=u_ (S:=(·=p)) hci x3 hbi;refine wpAnyH_takeM (fun w'=>w'.cell? ⟨v1.heap.size,rr,none⟩=some (.int .i64 op)) (calm_cell _ _) [17,18] (i:=4) (v:=?_) rfl (by kernel_rfl) (by kernel_rfl) (by kernel_rfl) (by kernel_rfl) (fun _ _ _ h=>h) (Or.inl ⟨by rfl,?_⟩) (hci) (by assumption) ?_
         rotate_left
         ·intro w hSw;(try dsimp only at hSw);go_simp;try with_reducible rfl
         (try simp only [y_,z_]);clear hci;refine aR_ (rs:=[17]) (by kernel_rfl) (by simp) ?_;refine aC_ rfl (fun K hK=>?_) aN_;go_simp;refine (pairO_c _ op QA QB _ _ KA KB kA kB hpA hpB).mono ?_;rintro e vz ⟨KZ,kc,rfl,hpz0,xz⟩;go_wp2_with fail
         refine hK.out _ _ ?_ (fun hHeld=>?_)
         ·exact trivial
         clear hK K;(try simp only [y_,z_]);have hbz:=hbz.upd xz (fun f=>f);have hrz:=hrz.upd xz (fun _ _ _ f=>f) (fun f=>f);have HUz:=HUz.then_non xz;have hpz:=PtK.mono (G:=fun k=>rb<k) (fun k _ h=>by omega) _ _ _ hpz0;have c0:=hbz.cell 0;have c1:=hbz.cell 1;have c2:=hbz.cell 2;have c3:=hbz.cell 3;have c4:=hbz.cell 4;have f0:=hbz.frozen;refine aR_ (rs:=[18]) (by kernel_rfl) (by simp) ?_;refine aC_ rfl (fun K hK=>?_) aN_;go_simp;refine hK.out _ _ ?_ (fun hHeld=>?_)
         ·exact trivial
         clear hK K;(try simp only [y_,z_]);refine aD_ (by kernel_rfl) ?_ _;go_wp2_with fail
         have hZ:=pat_end HRB.out hlt HUz hrz hpz hbz rfl;rw [set5_eq];refine bodyPost_ret (results_cell_row rfl _ _ rb 24 _ (0,0) _ rfl hZ.2.2.2 Try.underlying24 rfl (by kernel_rfl)) rfl ?_;exact ⟨_,_,by rw [HL.out];rfl,by rw [HL.out];exact hZ.1,by rw [HY.out];exact hZ.2.1,hZ.2.2.1⟩
       ·go_simp;refine (CB.out v1 hrz).mono ?_;rintro e v2 ⟨KB,kB,rfl,hpB0,hrz,x2⟩;unfold pv;go_wp2_with fail
        refine hK.out _ _ ?_ (fun hHeld=>?_)
        ·exact trivial
        clear hK K;(try simp only [y_,z_]);have hbz:=hbz.upd x2 (by omega);have HUz:=HUz.trans x2 (fun _ _ h=>h);have hpB:=PtK.mono (G:=fun k=>rb<k) (fun k _ h=>by have h:v1.heap.size≤k:=h;omega) _ _ _ hpB0;have hsz:=Nat.lt_of_lt_of_le hsz x2.size;clear hpB0;have hpA:=PtK.upd x2 (fun k _ h e=>by have h:rb<k:=h;omega) _ _ _ hpA;refine aR_ (rs:=[0]) (by kernel_rfl) (by simp) ?_;refine aC_ rfl (fun K hK=>?_) aN_;go_simp;refine hK.out _ _ ?_ (fun hHeld=>?_)
        ·exact trivial
        clear hK K;(try simp only [y_,z_]);obtain ⟨v3,Hv3⟩:=nm (v2.alloc (.cells #[.int .i64 4,.int .i64 5,.int .i64 9,.int .i64 10,.int .i64 11] 3));rw [Hv3.out];have x3:Upd Non v2 v3:=by rw [←Hv3.out];exact Upd.refl.alloc _
        have hci:v3.cell? ⟨v2.heap.size,rr,none⟩=some (.int .i64 op):=by rw [←Hv3.out];exact ((Blk.new _ _ _).cell rr).trans HOP.out
        have hbi:v2.heap.size≠p:=by omega
        have hbz:=hbz.upd x3 (fun f=>f);have hrz:=hrz.upd x3 (fun _ _ _ f=>f) (fun f=>f);have HUz:=HUz.then_non x3;have hsz:=Nat.lt_of_lt_of_le hsz x3.size;have hpA:=PtK.upd x3 (fun _ _ _ f=>f) _ _ _ hpA;have hpB:=PtK.upd x3 (fun _ _ _ f=>f) _ _ _ hpB;refine wpT 3 ?_;(try simp only [y_,z_]);refine wpAnyH_takeM (fun w'=>w'.cell? ⟨v2.heap.size,rr,none⟩=some (.int .i64 op)) (calm_cell _ _) [17,18] (i:=4) (v:=?_) rfl (by kernel_rfl) (by kernel_rfl) (by kernel_rfl) (by kernel_rfl) (fun _ _ _ h=>h) (Or.inl ⟨by rfl,?_⟩) (hci) (by assumption) ?_
        rotate_left
        ·intro w hSw;(try dsimp only at hSw);go_simp;try with_reducible rfl
        (try simp only [y_,z_]);clear hci;refine aR_ (rs:=[17]) (by kernel_rfl) (by simp) ?_;refine aC_ rfl (fun K hK=>?_) aN_;go_simp;refine (pairO_c _ op QA QB _ _ KA KB kA kB hpA hpB).mono ?_;rintro e vz ⟨KZ,kc,rfl,hpz0,xz⟩;go_wp2_with fail
        refine hK.out _ _ ?_ (fun hHeld=>?_)
        ·exact trivial
        clear hK K;(try simp only [y_,z_]);have hbz:=hbz.upd xz (fun f=>f);have hrz:=hrz.upd xz (fun _ _ _ f=>f) (fun f=>f);have HUz:=HUz.then_non xz;have hpz:=PtK.mono (G:=fun k=>rb<k) (fun k _ h=>by omega) _ _ _ hpz0;have c0:=hbz.cell 0;have c1:=hbz.cell 1;have c2:=hbz.cell 2;have c3:=hbz.cell 3;have c4:=hbz.cell 4;have f0:=hbz.frozen;refine aR_ (rs:=[18]) (by kernel_rfl) (by simp) ?_;refine aC_ rfl (fun K hK=>?_) aN_;go_simp;refine hK.out _ _ ?_ (fun hHeld=>?_)
        ·exact trivial
        clear hK K;(try simp only [y_,z_]);refine aD_ (by kernel_rfl) ?_ _;go_wp2_with fail
        have hZ:=pat_end HRB.out hlt HUz hrz hpz hbz rfl;rw [set5_eq];refine bodyPost_ret (results_cell_row rfl _ _ rb 24 _ (0,0) _ rfl hZ.2.2.2 Try.underlying24 rfl (by kernel_rfl)) rfl ?_;exact ⟨_,_,by rw [HL.out];rfl,by rw [HL.out];exact hZ.1,by rw [HY.out];exact hZ.2.1,hZ.2.2.1⟩
theorem patA_c (vars:Nat) (h1:1≤vars) (h2:vars≤6):∀(f:Nat) (_:f≤4) (tests:Bool),PatC (4 - (f:Int)) vars tests (patA vars f tests)
 | 0,_,t=>patLeaf_c vars h1 h2 _ (by omega) (by omega) t
 | 1,_,t=>patLeaf_c vars h1 h2 _ (by omega) (by omega) t
 | f+2,hf,t=>by
  have e:decide (1<(4 - ((f+2:Nat):Int)))=decide (f=0):=decide_eq_decide.2 (by omega)
  have ha:∀t,PatC ((4 - ((f+2:Nat):Int))+1) vars t (patA vars (f+1) t):=fun t=>by
   have h:=patA_c vars h1 h2 (f+1) (by omega) t
   rwa [show (4 - ((f+1:Nat):Int))=(4 - ((f+2:Nat):Int))+1 by omega] at h
  have hb:PatC ((4 - ((f+2:Nat):Int))+2) vars false (patA vars f false):=by
   have h:=patA_c vars h1 h2 f (by omega) false
   rwa [show (4 - (f:Int))=(4 - ((f+2:Nat):Int))+2 by omega] at h
  have h:=patStep_c vars h1 h2 (4 - ((f+2:Nat):Int)) (by omega) (by omega) t (patA vars (f+1)) (patA vars f false) ha hb;rw [e] at h;exact h
theorem q2_size (k:Int) (a b:Pt):(q2 k a b).size=1+(a.size+b.size):=by simp [q2,Pt.size,Pt.sizeL]
theorem lfA_size (vars n:Int):(lfA vars n).size=1:=by unfold lfA;split <;> simp [Pt.size,Pt.sizeL]
theorem patA_size (vars:Int):∀(f:Nat) (t:Bool) (xs:List Int),(patA vars f t xs).1.size≤4 ^ f
 | 0,_,xs=>by show (lfA vars _).size≤_;rw [lfA_size];simp
 | 1,_,xs=>by show (lfA vars _).size≤_;rw [lfA_size];simp
 | f+2,t,xs=>by
  have h1:=fun t ys=>patA_size vars (f+1) t ys
  have h2:=fun ys=>patA_size vars f false ys
  have e1:4 ^ (f+1)=4 * 4 ^ f:=by rw [Nat.pow_succ];omega
  have e2:4 ^ (f+2)=16 * 4 ^ f:=by rw [Nat.pow_succ,Nat.pow_succ];omega
  have hp:0<4 ^ f:=Nat.pow_pos (by omega);show (patS vars _ t (patA vars (f+1)) (patA vars f false) xs).1.size≤_;unfold patS;simp only;by_cases c1:(decide (f=0)=true∧xs.headD 0 % 12<6)∨xs.headD 0 % 12<3
  ·rw [if_pos c1];show (lfA vars _).size≤_;rw [lfA_size];omega
  ·rw [if_neg c1];by_cases c2:xs.headD 0 % 12<5
   ·rw [if_pos c2];have:=h1 t xs.tail;simp only [Pt.size,Pt.sizeL];omega
   ·rw [if_neg c2];by_cases c3:xs.headD 0 % 12<6
    ·rw [if_pos c3];have:=h1 t xs.tail;show (q2 _ _ _).size≤_;rw [q2_size];simp only [q1c,Pt.size,Pt.sizeL];omega
    ·rw [if_neg c3];by_cases c4:xs.headD 0 % 12<7∧t=true
     ·rw [if_pos c4];have:=h2 xs.tail;have:=h2 (patA vars f false xs.tail).2;show (q2 _ _ _).size≤_;rw [q2_size];omega
     ·rw [if_neg c4];by_cases c5:xs.headD 0 % 12<8∧t=true
      ·rw [if_pos c5];have:=h1 false xs.tail;have:=h2 (patA vars (f+1) false xs.tail).2;have:=h2 (patA vars f false (patA vars (f+1) false xs.tail).2).2;simp only [Pt.size,Pt.sizeL];omega
      ·rw [if_neg c5];have:=h1 t xs.tail;have:=h1 t (patA vars (f+1) t xs.tail).2;show (q2 _ _ _).size≤_;rw [q2_size];omega
mutual
def PV (n:Int):Pt→Prop
 | .mk v _ _ _ kids=>v≤n∧PVL n kids
def PVL (n:Int):List Pt→Prop
 | []=>True
 | k::ks=>PV n k∧PVL n ks
end
theorem pv_q2 {n k:Int} {a b:Pt} (hn:0≤n) (ha:PV n a) (hb:PV n b):PV n (q2 k a b):=⟨hn,ha,hb,trivial⟩
theorem patA_pv (vars:Int) (hv:1≤vars):∀(f:Nat) (t:Bool) (xs:List Int),PV vars (patA vars f t xs).1
 | 0,_,xs=>pv_leaf vars hv _
 | 1,_,xs=>pv_leaf vars hv _
 | f+2,t,xs=>by
  have h1:=fun t ys=>patA_pv vars hv (f+1) t ys
  have h2:=fun ys=>patA_pv vars hv f false ys
  show PV vars (patS vars _ t (patA vars (f+1)) (patA vars f false) xs).1;unfold patS;simp only;have h0:0≤vars:=by omega
  by_cases c1:(decide (f=0)=true∧xs.headD 0 % 12<6)∨xs.headD 0 % 12<3
  ·rw [if_pos c1];exact pv_leaf vars hv _
  ·rw [if_neg c1];by_cases c2:xs.headD 0 % 12<5
   ·rw [if_pos c2];exact ⟨h0,h1 _ _,trivial⟩
   ·rw [if_neg c2];by_cases c3:xs.headD 0 % 12<6
    ·rw [if_pos c3];exact pv_q2 h0 (h1 _ _) ⟨h0,trivial⟩
    ·rw [if_neg c3];by_cases c4:xs.headD 0 % 12<7∧t=true
     ·rw [if_pos c4];exact pv_q2 h0 (h2 _) (h2 _)
     ·rw [if_neg c4];by_cases c5:xs.headD 0 % 12<8∧t=true
      ·rw [if_pos c5];exact ⟨h0,h1 _ _,h2 _,h2 _,trivial⟩
      ·rw [if_neg c5];exact pv_q2 h0 (h1 _ _) (h1 _ _)
where
 pv_leaf (vars:Int) (hv:1≤vars) (n:Int):PV vars (lfA vars n):=by
  unfold lfA
  split
  ·exact ⟨by omega,trivial⟩
  ·have:=Int.emod_lt_of_pos (pM n) (show 0<vars by omega);exact ⟨by omega,trivial⟩
theorem findG_none:∀{vs:List Int} {x:Int} {k:Nat},findG vs x k=none→x ∉ vs
 | [],_,_,_=>by simp
 | y::l,x,k,h=>by
  unfold findG at h
  split at h
  ·simp at h
  ·rename_i hy;simp only [List.mem_cons,not_or];exact ⟨fun e=>hy e.symm,findG_none h⟩
def VsN (n:Int) (vs:List Int):Prop:=vs.Nodup∧∀y∈vs,1≤y∧y≤n
theorem VsN.numV {n x:Int} {vs:List Int} (h:VsN n vs) (h1:0<x) (h2:x≤n):VsN n (numV vs x).2:=by
 unfold Go.Proofs.Ytdbjgihnngigeaa.numV
 split
 ·exact h
 ·rename_i e;have hx:=findG_none e;refine ⟨?_,fun y hy=>?_⟩
  ·rw [List.nodup_append];exact ⟨h.1,by simp,fun a ha b hb=>by rw [List.mem_singleton] at hb;subst hb;exact fun e=>hx (e ▸ ha)⟩
  ·rcases List.mem_append.1 hy with hy | hy
   ·exact h.2 y hy
   ·rw [List.mem_singleton] at hy;subst hy;omega
mutual
theorem numF_vs (n:Int):∀(p:Pt) (vs ms:List Int),PV n p→VsN n vs→VsN n (numF p vs ms).2.1
 | .mk v op imm iv kids,vs,ms,hp,h=>by
  simp only [numF]
  split
  ·rename_i hv;exact h.numV hv hp.1
  ·exact numL_vs n kids vs _ hp.2 h
theorem numL_vs (n:Int):∀(ks:List Pt) (vs ms:List Int),PVL n ks→VsN n vs→VsN n (numL ks vs ms).2.1
 | [],_,_,_,h=>h
 | k::ks,vs,ms,hp,h=>numL_vs n ks _ _ hp.2 (numF_vs n k vs ms hp.1 h)
end
theorem vsN_two {vs:List Int} (h:VsN 2 vs):vs.length≤2:=by
 match vs,h with
 | [],_=>simp
 | [_],_=>simp
 | [_,_],_=>simp
 | a::b::c::l,⟨hn,hm⟩ =>
  have h1:=hm a (by simp);have h2:=hm b (by simp);have h3:=hm c (by simp);simp only [List.nodup_cons,List.mem_cons,not_or] at hn;omega
def aNumF (xs:List Int):Pt×List Int×List Int:=numF (patA 2 4 true xs.tail).1 [] []
def aLeftF (xs:List Int):Pt:=if 0<(aNumF xs).1.v then .mk 0 21 0 0 [(aNumF xs).1] else (aNumF xs).1
def aRightF (xs:List Int):Pt:=if (aNumF xs).2.1.length≠0∧0<xs.headD 0 % 3 then (patA (aNumF xs).2.1.length 3 true (patA 2 4 true xs.tail).2).1 else aLeftF xs
def aCond5 (n:Int) (nv:Nat) (k:Int):List Cd :=
 if k=0 then [] else if k=1 then [⟨1,1,0,0⟩] else if k=2 then [⟨2,nv,0,wordF (n.tdiv 3) 7⟩] else if k=3 then [⟨3,1,0,wordF (n.tdiv 5) 7⟩] else [⟨5,1,1,0⟩]
def aCondsF (n:Int) (nv:Nat):List Cd:=if 1<nv∧n % 5=0 then [⟨4,1,2,0⟩] else if nv≠0 then aCond5 n nv (n.tdiv 7 % 5) else []
def aRuleF (xs:List Int):Rl:=⟨⟨#[114]⟩,aLeftF xs,aRightF xs,aCondsF (xs.headD 0) (aNumF xs).2.1.length,(aNumF xs).2.1.length,0⟩
theorem aNumF_len (xs:List Int):(aNumF xs).2.1.length≤2:=vsN_two (numF_vs 2 _ [] [] (patA_pv 2 (by omega) 4 true xs.tail) ⟨List.nodup_nil,fun _ h=>absurd h (List.not_mem_nil)⟩)
theorem aNumF_size (xs:List Int):(aNumF xs).1.size≤256:=by
 unfold aNumF;rw [(numF_len _ [] []).2.2];exact patA_size 2 4 true xs.tail
theorem aLeftF_size (xs:List Int):(aLeftF xs).size≤257:=by
 have h:=aNumF_size xs;unfold aLeftF
 split
 ·simp only [Pt.size,Pt.sizeL];omega
 ·omega
theorem aRightF_size (xs:List Int):(aRightF xs).size≤257:=by
 unfold aRightF
 split
 ·have:=patA_size ((aNumF xs).2.1.length:Int) 3 true (patA 2 4 true xs.tail).2;omega
 ·exact aLeftF_size xs
theorem aCondsF_len (n:Int) (nv:Nat):(aCondsF n nv).length≤1:=by
 unfold aCondsF aCond5
 repeat' split
 all_goals simp
theorem aRuleF_sz (xs:List Int):RlSz (aRuleF xs):=by
 refine ⟨?_,?_,?_,?_⟩
 ·have:=aLeftF_size xs;show (aLeftF xs).size≤_;omega
 ·have:=aRightF_size xs;show (aRightF xs).size≤_;omega
 ·have:=aCondsF_len (xs.headD 0) (aNumF xs).2.1.length;show (aCondsF _ _).length≤_;omega
 ·show (1:Nat)≤_;omega
end Go.Proofs.Ytdbjgihnngigeaa
