/-
  Lemmas and walks that the claim rests on, part 2 (packed by a program).
-/
import Derived.Test.YtifhejahbbnkiaaGreatD1
import Derived.Laws.ResultCell
import Derived.Laws.Rows
namespace Go.Proofs.YtifhejahbbnkiaaGreat
open Go.RowKit
theorem Pt.indL {Q:Pt→Prop} {QL:List Pt→List Int→Prop} (hn:∀ss,QL [] ss) (hc:∀k ks ss,Q k→QL ks ss.tail→QL (k::ks) ss) (l:List Pt) (h:∀k∈l,Q k):∀ss,QL l ss:=by
 induction l with
 | nil=>exact hn
 | cons k ks ih=>exact fun ss=>hc k ks ss (h k (by simp)) (ih (fun x hx=>h x (by simp [hx])) _)
mutual
def occ:Pt→Int→List (Int×Int)
 | .mk v op _ _ kids,s=>if v≠0 then [(v,s)] else occL kids (oSortsF op).1
def occL:List Pt→List Int→List (Int×Int)
 | [],_=>[]
 | k::ks,ss=>occ k (ss.headD 0)++occL ks ss.tail
end
mutual
def shp:Pt→Int→Int→Nat→Bool
 | .mk v op imm iv kids,s,m,n =>
  if v≠0 then decide (¬(v<1∨v > n∨op≠0∨imm≠0∨iv≠0∨0<kids.length))
  else decide ((oSortsF op).2.2=true∧kids.length=(oSortsF op).1.length∧(s=0∨s=(oSortsF op).2.1)∧pImmF (.mk v op imm iv kids) m=true)&&shpL kids (oSortsF op).1 m n
def shpL:List Pt→List Int→Int→Nat→Bool
 | [],_,_,_=>true
 | k::ks,ss,m,n=>shp k (ss.headD 0) m n&&shpL ks ss.tail m n
end
mutual
def nodes:Pt→List Pt
 | .mk v op imm iv kids=>.mk v op imm iv kids::nodesL kids
def nodesL:List Pt→List Pt
 | []=>[]
 | k::ks=>nodes k++nodesL ks
end
theorem occ_var {p:Pt} (h:p.v≠0) (s:Int):occ p s=[(p.v,s)]:=by cases p;simp only [occ,Pt.v] at h ⊢;rw [if_pos h]
theorem occ_op {p:Pt} (h:p.v=0) (s:Int):occ p s=occL p.kids (oSortsF p.op).1:=by cases p;simp only [occ,Pt.v,Pt.kids,Pt.op] at h ⊢;rw [if_neg (by omega)]
theorem shp_var {p:Pt} (h:p.v≠0) (s m:Int) (n:Nat):shp p s m n=decide (¬(p.v<1∨p.v > n∨p.op≠0∨p.imm≠0∨p.iv≠0∨0<p.kids.length)):=by cases p;simp only [shp,Pt.v] at h ⊢;rw [if_pos h];rfl
theorem shp_op {p:Pt} (h:p.v=0) (s m:Int) (n:Nat):shp p s m n=(decide ((oSortsF p.op).2.2=true∧p.kids.length=(oSortsF p.op).1.length∧(s=0∨s=(oSortsF p.op).2.1)∧pImmF p m=true)&&shpL p.kids (oSortsF p.op).1 m n):=by
 cases p;simp only [shp,Pt.v] at h ⊢;rw [if_neg (by omega)];rfl
theorem nodes_eq (p:Pt):nodes p=p::nodesL p.kids:=by cases p;simp only [nodes,Pt.kids]
def run1 (vs:List Int) (t:Int×Int):Option (List Int) :=
 if vs.getD (t.1 - 1).toNat 0=0 then some (vs.set (t.1 - 1).toNat t.2) else if t.2=0∨t.2=vs.getD (t.1 - 1).toNat 0 then some vs else none
def run:List (Int×Int)→List Int→Option (List Int)
 | [],vs=>some vs
 | t::l,vs=>match run1 vs t with
  | none=>none
  | some v=>run l v
theorem run1_len {vs vs':List Int} {t:Int×Int} (h:run1 vs t=some vs'):vs'.length=vs.length:=by
 unfold run1 at h
 split at h
 ·injection h with h;subst h;simp
 ·split at h
  ·injection h with h;subst h;rfl
  ·cases h
theorem run_len:∀{l:List (Int×Int)} {vs vs':List Int},run l vs=some vs'→vs'.length=vs.length
 | [],vs,vs',h=>by injection h with h;subst h;rfl
 | t::l,vs,vs',h=>by
  simp only [run] at h
  split at h
  ·cases h
  ·rename_i v hv;rw [run_len h,run1_len hv]
theorem run_append:∀(a b:List (Int×Int)) (vs:List Int),run (a++b) vs=match run a vs with | none=>none | some v=>run b v
 | [],b,vs=>rfl
 | t::a,b,vs=>by
  simp only [List.cons_append,run]
  cases run1 vs t with
  | none=>rfl
  | some v=>exact run_append a b v
theorem vPt_iff (p:Pt):∀(s m:Int) (vs vs':List Int),vPt p s m vs=(true,vs')↔shp p s m vs.length=true∧run (occ p s) vs=some vs':=by
 induction p using Pt.ind with
 | h p ih =>
  intro s m vs vs';by_cases hv:p.v=0
  ·rw [vPt_op hv,shp_op hv,occ_op hv]
   have key:∀ss,(fun (ks:List Pt) (ss:List Int)=>∀(vs vs':List Int),vKids ks ss m vs=(true,vs')↔shpL ks ss m vs.length=true∧run (occL ks ss) vs=some vs') p.kids ss:=by
    refine Pt.indL (Q:=fun k=>∀(s m:Int) (vs vs':List Int),vPt k s m vs=(true,vs')↔shp k s m vs.length=true∧run (occ k s) vs=some vs') (QL:=fun (ks:List Pt) (ss:List Int)=>∀(vs vs':List Int),vKids ks ss m vs=(true,vs')↔shpL ks ss m vs.length=true∧run (occL ks ss) vs=some vs') ?_ ?_ _ ih
    ·intro ss vs vs';simp [vKids,shpL,occL,run]
    ·intro k ks ss hk hks vs vs';have hk:=hk (ss.headD 0) m vs;simp only [vKids,shpL,occL,run_append,Bool.and_eq_true];rcases hq:vPt k (ss.headD 0) m vs with ⟨b,v1⟩
     cases b with
     | false =>
      constructor
      ·intro h;simp at h
      ·rintro ⟨⟨h1,_⟩,h3⟩
       cases hr:run (occ k (ss.headD 0)) vs with
       | none=>rw [hr] at h3;cases h3
       | some v =>
        have:=(hk v).2 ⟨h1,hr⟩;rw [hq] at this;injection this with this _;cases this
     | true =>
      obtain ⟨h1,h2⟩:=(hk v1).1 hq;rw [h2];simp only [if_true,h1,true_and];rw [hks v1 vs',run_len h2]
   constructor
   ·intro h
    split at h
    ·rename_i hc;obtain ⟨k1,k2⟩:=(key _ vs vs').1 h;exact ⟨by rw [dT_ hc,k1];rfl,k2⟩
    ·injection h with h _;cases h
   ·rintro ⟨h1,h2⟩;rw [Bool.and_eq_true,decide_eq_true_eq] at h1;rw [if_pos h1.1];exact (key _ vs vs').2 ⟨h1.2,h2⟩
  ·rw [vPt_var hv,shp_var hv,occ_var hv];simp only [run,run1];by_cases hb:p.v<1∨p.v > vs.length∨p.op≠0∨p.imm≠0∨p.iv≠0∨0<p.kids.length
   ·rw [if_pos hb,dF_ (fun q=>q hb)];simp
   ·rw [if_neg hb,dT_ hb];by_cases h0:vs.getD (p.v - 1).toNat 0=0
    ·rw [if_pos h0,if_pos h0];simp
    ·rw [if_neg h0,if_neg h0];by_cases h1:s=0∨s=vs.getD (p.v - 1).toNat 0
     ·rw [if_pos h1,dT_ h1];simp
     ·rw [if_neg h1,dF_ h1];simp
def InR (n:Nat) (l:List (Int×Int)):Prop:=∀t∈l,1≤t.1∧t.1≤n∧(t.2=1∨t.2=2)
theorem osort_kid {op:Int}:∀x∈(oSortsF op).1,x=1∨x=2:=by
 intro x hx;unfold oSortsF at hx
 (repeat' split at hx) <;> simp at hx <;> omega
theorem osort_own {op:Int} (h:(oSortsF op).2.2=true):(oSortsF op).2.1=1∨(oSortsF op).2.1=2:=by
 unfold oSortsF at h ⊢
 (repeat' split at h) <;> (repeat' split) <;> simp_all
theorem shp_inR (p:Pt):∀(s m:Int) (n:Nat),shp p s m n=true→(s=1∨s=2∨p.v=0)→InR n (occ p s):=by
 induction p using Pt.ind with
 | h p ih =>
  intro s m n h hs;by_cases hv:p.v=0
  ·rw [shp_op hv,Bool.and_eq_true,decide_eq_true_eq] at h;rw [occ_op hv];have hl:p.kids.length≤(oSortsF p.op).1.length:=by omega
   have key:∀ss,(fun (ks:List Pt) (ss:List Int)=>ks.length≤ss.length→(∀x∈ss,x=1∨x=2)→shpL ks ss m n=true→InR n (occL ks ss)) p.kids ss:=by
    refine Pt.indL (Q:=fun k=>∀(s m:Int) (n:Nat),shp k s m n=true→(s=1∨s=2∨k.v=0)→InR n (occ k s)) (QL:=fun (ks:List Pt) (ss:List Int)=>ks.length≤ss.length→(∀x∈ss,x=1∨x=2)→shpL ks ss m n=true→InR n (occL ks ss)) ?_ ?_ _ ih
    ·intro ss _ _ _ t ht;simp [occL] at ht
    ·intro k ks ss hk hks h1 h2 h3 t ht;rw [shpL,Bool.and_eq_true] at h3;rw [occL] at ht
     cases ss with
     | nil=>simp at h1
     | cons x ss =>
      rcases List.mem_append.1 ht with ht | ht
      ·have:=h2 x (by simp);exact hk x m n h3.1 (by omega) t ht
      ·exact hks (by simpa using h1) (fun y hy=>h2 y (List.mem_cons_of_mem _ hy)) h3.2 t ht
   exact key _ hl osort_kid h.2
  ·rw [shp_var hv,decide_eq_true_eq] at h;rw [occ_var hv];intro t ht;simp only [List.mem_singleton] at ht;subst ht;exact ⟨by omega,by omega,by omega⟩
theorem set_getD {vs:List Int} {i j:Nat} {x:Int} (hi:i<vs.length):(vs.set i x).getD j 0=if i=j then x else vs.getD j 0:=by
 by_cases e:i=j
 ·subst e;rw [if_pos rfl];simp [List.getD,hi]
 ·rw [if_neg e];simp [List.getD,e]
theorem run_sound:∀{l:List (Int×Int)} {vs vs':List Int},InR vs.length l→run l vs=some vs'→(∀i,vs.getD i 0≠0→vs'.getD i 0=vs.getD i 0)∧∀t∈l,vs'.getD (t.1 - 1).toNat 0=t.2
 | [],vs,vs',_,h=>by injection h with h;subst h;exact ⟨fun _ _=>rfl,by simp⟩
 | t::l,vs,vs',hr,h=>by
  have ht:=hr t (by simp);simp only [run] at h
  split at h
  ·cases h
  ·rename_i v hv;have hl:=run1_len hv;obtain ⟨i1,i2⟩:=run_sound (fun x hx=>by rw [hl];exact hr x (List.mem_cons_of_mem _ hx)) h
   have k1:∀i,vs.getD i 0≠0→v.getD i 0=vs.getD i 0:=by
    unfold run1 at hv
    split at hv
    ·injection hv with hv;subst hv
     intro i hi;rw [set_getD (by omega)]
     split
     ·rename_i e q;rw [q] at e;exact absurd e hi
     ·rfl
    ·split at hv
     ·injection hv with hv;subst hv;exact fun _ _=>rfl
     ·cases hv
   have k2:v.getD (t.1 - 1).toNat 0=t.2:=by
    unfold run1 at hv
    split at hv
    ·injection hv with hv;subst hv
     rw [set_getD (by omega),if_pos rfl]
    ·split at hv
     ·rename_i q1 q2;injection hv with hv;subst hv
      rcases q2 with q2 | q2
      ·omega
      ·exact q2.symm
     ·cases hv
   refine ⟨fun i hi=>?_,fun x hx=>?_⟩
   ·rw [i1 i (by rw [k1 i hi];exact hi),k1 i hi]
   ·rcases List.mem_cons.1 hx with rfl | hx
    ·rw [i1 _ (by rw [k2];omega),k2]
    ·exact i2 x hx
theorem run_some (f:Int→Int):∀{l:List (Int×Int)} {vs:List Int},InR vs.length l→(∀t∈l,t.2=f t.1)→(∀i:Nat,vs.getD i 0=0∨vs.getD i 0=f ((i:Int)+1)) →
  ∃vs',run l vs=some vs'∧(∀i:Nat,vs'.getD i 0=0∨vs'.getD i 0=f ((i:Int)+1))∧∀i:Nat,vs.getD i 0=0→(∀t∈l,t.1≠(i:Int)+1)→vs'.getD i 0=0
 | [],vs,_,_,h=>⟨vs,rfl,h,fun _ q _=>q⟩
 | t::l,vs,hr,hf,h=>by
  have ht:=hr t (by simp);have hft:=hf t (by simp);have hidx:(((t.1 - 1).toNat:Nat):Int)+1=t.1:=by omega
  have h1:∃v,run1 vs t=some v∧(∀i:Nat,v.getD i 0=0∨v.getD i 0=f ((i:Int)+1))∧∀i:Nat,vs.getD i 0=0→t.1≠(i:Int)+1→v.getD i 0=0:=by
   unfold run1;by_cases q:vs.getD (t.1 - 1).toNat 0=0
   ·rw [if_pos q];refine ⟨_,rfl,fun i=>?_,fun i hi hne=>?_⟩
    ·rw [set_getD (by omega)]
     split
     ·rename_i e;right;rw [←e,hidx];exact hft
     ·exact h i
    ·rw [set_getD (by omega),if_neg (by omega)];exact hi
   ·rw [if_neg q];have:=h (t.1 - 1).toNat;rw [hidx] at this;rw [if_pos (Or.inr (by omega))];exact ⟨vs,rfl,h,fun i hi _=>hi⟩
  obtain ⟨v,e,g1,g2⟩:=h1;obtain ⟨vs',r1,r2,r3⟩:=run_some f (l:=l) (vs:=v) (fun x hx=>by rw [run1_len e];exact hr x (List.mem_cons_of_mem _ hx)) (fun x hx=>hf x (List.mem_cons_of_mem _ hx)) g1
  refine ⟨vs',?_,r2,fun i hi hne=>?_⟩
  ·simp only [run,e,r1]
  ·exact r3 i (g2 i hi (hne t (by simp))) (fun x hx=>hne x (List.mem_cons_of_mem _ hx))
end Go.Proofs.YtifhejahbbnkiaaGreat
namespace Go.Proofs.YtifhejahbbnkiaaGreat
open Go.RowKit
structure Cd where
 kind:Int
 a:Int
 b:Int
 n:Int
deriving DecidableEq
structure Rl where
 name:ByteArray
 l:Pt
 r:Pt
 conds:List Cd
 vars:Int
 imms:Int
def nmCh (c:UInt8):Bool:=decide (97≤c.toNat∧c.toNat≤122∨48≤c.toNat∧c.toNat≤57∨c.toNat=45)
def nameF (s:ByteArray):Bool:=s.data.toList.all nmCh&&decide (1≤s.size∧s.size≤16)
def isValF (ss:List Int) (n:Int):Bool:=decide (1≤n∧n<ss.length∧ss.getD n.toNat 0=1)
def isImmF (m n:Int):Bool:=decide (1≤n∧n≤m)
def condF (c:Cd) (ss:List Int) (m:Int):Bool :=
 if c.kind=1 then isValF ss c.a&&decide (c.b=0)&&decide (c.n=0)
 else if c.kind=2∨c.kind=3 then isValF ss c.a&&decide (c.b=0)
 else if c.kind=4 then isValF ss c.a&&isValF ss c.b&&decide (c.a≠c.b)&&decide (c.n=0)
 else if c.kind=5 then isValF ss c.a&&isImmF m c.b&&decide (c.n=0)
 else if c.kind=6 then isImmF m c.a&&isImmF m c.b&&decide (c.a≠c.b)&&decide (c.n=0)
 else false
theorem condF_congr {c:Cd} {ss ss':List Int} {m:Int} (hl:ss.length=ss'.length) (h:∀i:Nat,1≤i→i<ss.length→(ss.getD i 0=1↔ss'.getD i 0=1)):condF c ss m=condF c ss' m:=by
 have e:∀n,isValF ss n=isValF ss' n:=fun n=>by
  unfold isValF;rw [←hl];by_cases q:1≤n∧n<ss.length
  ·have:=h n.toNat (by omega) (by omega);rw [Bool.eq_iff_iff,decide_eq_true_iff,decide_eq_true_iff,this]
  ·rw [dF_ (fun r=>q ⟨r.1,r.2.1⟩),dF_ (fun r=>q ⟨r.1,r.2.1⟩)]
 unfold condF;rw [e,e]
def orB (a b:Int):Int:=bits BinOp.or IntKind.i64 a b
def colV (l:List (Int×Int)) (vs:List Int):List Int:=l.foldl (fun vs t=>vs.set t.1.toNat (orB (vs.getD t.1.toNat 0) t.2)) vs
def occI (p:Pt):List Int:=((nodes p).filter fun q=>decide (q.v=0)).map Pt.iv
def colI (l:List Int) (ms:List Int):List Int:=l.foldl (fun ms i=>ms.set i.toNat 1) ms
def rsF (op:Int):List Int×Int :=
 if op=23 then ([2,1,0],1) else if op=24 then ([2,0,0],1) else if op=27∨op=29 then ([2,1,0],2) else if op=28 then ([2,1,1],2) else ([1,1,1],1)
theorem rs_parts {op:Int} (h:(oSortsF op).2.2=true):(rsF op).2=(oSortsF op).2.1∧(oSortsF op).1.length≤3∧∀i (hi:i<(oSortsF op).1.length),(rsF op).1.getD i 0=(oSortsF op).1[i]:=by
 have ho:op=1∨op=23∨op=24∨op=27∨op=29∨op=28∨op=20∨op=21∨op=22∨(4≤op∧op≤19):=by
  rw [←allowed_ok] at h;simp only [allowedF,decide_eq_true_iff] at h;omega
 have fin:∀(l l':List Int) (x:Int) (b:Bool),oSortsF op=(l,x,b)→rsF op=(l',x)→l.length≤3→(∀i (hi:i<l.length),l'.getD i 0=l[i])→(rsF op).2=(oSortsF op).2.1∧(oSortsF op).1.length≤3∧∀i (hi:i<(oSortsF op).1.length),(rsF op).1.getD i 0=(oSortsF op).1[i]:=fun l l' x b e e' h1 h2=>by
  refine ⟨by rw [e,e'],by rw [e];exact h1,?_⟩;rw [e,e'];exact h2
 rcases ho with rfl | rfl | rfl | rfl | rfl | rfl | rfl | rfl | rfl | hr
 ·exact fin [] [1,1,1] 1 true rfl rfl (by simp) (fun i hi=>by simp at hi)
 ·exact fin [2,1] [2,1,0] 1 true rfl rfl (by simp) (fun i hi=>by match i,hi with | 0,_=>rfl | 1,_=>rfl)
 ·exact fin [2] [2,0,0] 1 true rfl rfl (by simp) (fun i hi=>by match i,hi with | 0,_=>rfl)
 ·exact fin [2,1] [2,1,0] 2 true rfl rfl (by simp) (fun i hi=>by match i,hi with | 0,_=>rfl | 1,_=>rfl)
 ·exact fin [2,1] [2,1,0] 2 true rfl rfl (by simp) (fun i hi=>by match i,hi with | 0,_=>rfl | 1,_=>rfl)
 ·exact fin [2,1,1] [2,1,1] 2 true rfl rfl (by simp) (fun i hi=>by match i,hi with | 0,_=>rfl | 1,_=>rfl | 2,_=>rfl)
 ·exact fin [1] [1,1,1] 1 true rfl rfl (by simp) (fun i hi=>by match i,hi with | 0,_=>rfl)
 ·exact fin [1] [1,1,1] 1 true rfl rfl (by simp) (fun i hi=>by match i,hi with | 0,_=>rfl)
 ·exact fin [1,1,1] [1,1,1] 1 true rfl rfl (by simp) (fun i hi=>by match i,hi with | 0,_=>rfl | 1,_=>rfl | 2,_=>rfl)
 ·refine fin [1,1] [1,1,1] 1 true ?_ ?_ (by simp) (fun i hi=>by match i,hi with | 0,_=>rfl | 1,_=>rfl)
  ·unfold oSortsF;rw [if_neg (by omega),if_neg (by omega),if_neg (by omega),if_neg (by omega),if_neg (by omega),if_pos (by omega),if_neg (by omega),if_neg (by omega)]
  ·unfold rsF;rw [if_neg (by omega),if_neg (by omega),if_neg (by omega),if_neg (by omega)]
def implG (r:Rl):Bool :=
 (((colV (occ r.l (rsF r.l.op).2) (List.replicate (r.vars.toNat+1) 0)).drop 1).all fun x=>decide (x≠0)) &&
 (((colI (occI r.l) (List.replicate (r.imms.toNat+1) 0)).drop 1).all fun x=>decide (x≠0)) &&
 (decide (r.r.v≠0) || decide ((rsF r.r.op).2=(rsF r.l.op).2)) &&
 (((colV (occ r.r (rsF r.l.op).2) (colV (occ r.l (rsF r.l.op).2) (List.replicate (r.vars.toNat+1) 0))).drop 1).all fun x=>decide (x≠3)) &&
 (r.conds.all fun c=>condF c (colV (occ r.r (rsF r.l.op).2) (colV (occ r.l (rsF r.l.op).2) (List.replicate (r.vars.toNat+1) 0))) r.imms)
def implF (r:Rl):Bool:=decide (r.l.v=0)&&validF r.l r.vars r.imms&&validF r.r r.vars r.imms&&nameF r.name&&decide (r.conds.length≤6)&&implG r
def markV (l:List Pt) (bs:List Bool):List Bool:=l.foldl (fun bs q=>if 0<q.v∧q.v<(bs.length:Int) then bs.set q.v.toNat true else bs) bs
def markI (l:List Pt) (bs:List Bool):List Bool:=l.foldl (fun bs q=>if 0<q.iv∧q.iv<(bs.length:Int) then bs.set q.iv.toNat true else bs) bs
def refF (r:Rl):Bool :=
 decide (0≤r.vars∧r.vars≤6∧0≤r.imms∧r.imms≤6)&&nameF r.name&&decide (r.conds.length≤6)&&decide (r.l.v=0∧r.l.size≤24∧r.r.size≤24) &&
 (vPt r.l 0 r.imms (List.replicate r.vars.toNat 0)).1&&(vPt r.r (pSortF r.l.op) r.imms (vPt r.l 0 r.imms (List.replicate r.vars.toNat 0)).2).1 &&
 ((markV (nodes r.l) (List.replicate (r.vars.toNat+1) false)).drop 1).all id&&((markI (nodes r.l) (List.replicate (r.imms.toNat+1) false)).drop 1).all id &&
 (r.conds.all fun c=>condF c (0::(vPt r.r (pSortF r.l.op) r.imms (vPt r.l 0 r.imms (List.replicate r.vars.toNat 0)).2).2) r.imms)
def code (a b:Bool):Int:=(if a then 1 else 0)+(if b then 2 else 0)
theorem orB_code:∀a b:Bool,orB (code a b) 1=code true b∧orB (code a b) 2=code a true:=by decide +kernel
def hasO (l:List (Int×Int)) (i s:Int):Bool:=decide ((i,s)∈l)
theorem colV_len:∀(l:List (Int×Int)) (vs:List Int),(colV l vs).length=vs.length
 | [],_=>rfl
 | t::l,vs=>by
  show (colV l _).length=_;rw [colV_len l];simp
theorem colV_code:∀{l:List (Int×Int)} {vs:List Int} {n:Nat} (fa fb:Nat→Bool),vs.length=n+1→InR n l→(∀i:Nat,i<n+1→vs.getD i 0=code (fa i) (fb i))→∀i:Nat,i<n+1→(colV l vs).getD i 0=code (fa i || hasO l i 1) (fb i || hasO l i 2)
 | [],vs,n,fa,fb,_,_,h=>fun i hi=>by
  show vs.getD i 0=_;rw [h i hi];simp [hasO]
 | t::l,vs,n,fa,fb,hl,hr,h=>fun i hi=>by
  obtain ⟨a1,a2,a3⟩:=hr t (by simp);obtain ⟨j,hj⟩:∃j:Nat,t.1=(j:Int):=Int.eq_ofNat_of_zero_le (by omega);have hjn:j<n+1:=by omega
  have hv:=h j hjn
  have key:∀k:Nat,k<n+1→(vs.set t.1.toNat (orB (vs.getD t.1.toNat 0) t.2)).getD k 0=code (fa k || decide ((k:Int)=t.1∧t.2=1)) (fb k || decide ((k:Int)=t.1∧t.2=2)):=by
   intro k hk;rw [hj,Int.toNat_natCast,set_getD (by omega),hv];have oc:=orB_code (fa j) (fb j);by_cases e:j=k
   ·subst e;rw [if_pos rfl];rcases a3 with q | q
    ·rw [q,oc.1];simp
    ·rw [q,oc.2];simp
   ·rw [if_neg e,h k hk];have e2:¬((k:Int)=(j:Int)):=by omega
    simp [e2]
  show (colV l (vs.set t.1.toNat (orB (vs.getD t.1.toNat 0) t.2))).getD i 0=_;rw [colV_code _ _ (by simpa using hl) (fun x hx=>hr x (List.mem_cons_of_mem _ hx)) key i hi]
  have e1:hasO (t::l) i 1=(decide ((i:Int)=t.1∧t.2=1) || hasO l i 1):=by
   unfold hasO;rw [Bool.eq_iff_iff];simp only [decide_eq_true_eq,Bool.or_eq_true,List.mem_cons,Prod.ext_iff];constructor
   ·rintro (⟨x,y⟩ | h);exact .inl ⟨x,y.symm⟩;exact .inr h
   ·rintro (⟨x,y⟩ | h);exact .inl ⟨x,y.symm⟩;exact .inr h
  have e2:hasO (t::l) i 2=(decide ((i:Int)=t.1∧t.2=2) || hasO l i 2):=by
   unfold hasO;rw [Bool.eq_iff_iff];simp only [decide_eq_true_eq,Bool.or_eq_true,List.mem_cons,Prod.ext_iff];constructor
   ·rintro (⟨x,y⟩ | h);exact .inl ⟨x,y.symm⟩;exact .inr h
   ·rintro (⟨x,y⟩ | h);exact .inl ⟨x,y.symm⟩;exact .inr h
  rw [e1,e2,Bool.or_assoc,Bool.or_assoc]
theorem colV_zero {l:List (Int×Int)} {n:Nat} (hr:InR n l) (i:Nat) (hi:i<n+1):(colV l (List.replicate (n+1) 0)).getD i 0=code (hasO l i 1) (hasO l i 2):=by
 have:=colV_code (fun _=>false) (fun _=>false) (vs:=List.replicate (n+1) 0) (by simp) hr (fun i hi=>by simp [List.getD,code,hi]) i hi;simpa using this
theorem colV_app (a b:List (Int×Int)) (vs:List Int):colV b (colV a vs)=colV (a++b) vs:=by simp [colV]
theorem colI_len:∀(l:List Int) (ms:List Int),(colI l ms).length=ms.length
 | [],_=>rfl
 | t::l,ms=>by
  show (colI l _).length=_;rw [colI_len l];simp
theorem colI_mem:∀{l:List Int} {ms:List Int} {m:Nat},ms.length=m+1→(∀x∈l,0≤x∧x≤m)→∀i:Nat,i<m+1→((colI l ms).getD i 0≠0↔ms.getD i 0≠0∨(i:Int)∈l)
 | [],ms,m,_,_=>fun i _=>by simp [colI]
 | t::l,ms,m,hl,hr=>fun i hi=>by
  have a:=hr t (by simp);show (colI l (ms.set t.toNat 1)).getD i 0≠0↔_;rw [colI_mem (by simpa using hl) (fun x hx=>hr x (List.mem_cons_of_mem _ hx)) i hi,set_getD (by omega)];by_cases e:t.toNat=i
  ·rw [if_pos e];have : (i:Int)=t:=by omega
   simp [this]
  ·rw [if_neg e];have : ¬((i:Int)=t):=by omega
   simp [this]
theorem mark_get (g:Pt→Int):∀(l:List Pt) (bs:List Bool) (i:Nat),(l.foldl (fun bs q=>if 0<g q∧g q<bs.length then bs.set (g q).toNat true else bs) bs).length=bs.length∧(1≤i→i<bs.length→((l.foldl (fun bs q=>if 0<g q∧g q<bs.length then bs.set (g q).toNat true else bs) bs).getD i false=true↔bs.getD i false=true∨∃q∈l,g q=(i:Int)))
 | [],bs,i=>⟨rfl,fun _ _=>by simp⟩
 | t::l,bs,i=>by
  have hs:(if 0<g t∧g t<bs.length then bs.set (g t).toNat true else bs).length=bs.length:=by split <;> simp
  obtain ⟨i1,i2⟩:=mark_get g l (if 0<g t∧g t<bs.length then bs.set (g t).toNat true else bs) i;refine ⟨i1.trans hs,fun h1 h2=>?_⟩;rw [List.foldl_cons,i2 h1 (by omega)]
  have : (if 0<g t∧g t<bs.length then bs.set (g t).toNat true else bs).getD i false=true↔bs.getD i false=true∨g t=(i:Int):=by
   by_cases q:0<g t∧g t<bs.length
   ·rw [if_pos q];by_cases e:(g t).toNat=i
    ·have : g t=(i:Int):=by omega
     simp [List.getD,h2,this]
    ·have : ¬(g t=(i:Int)):=by omega
     simp [List.getD,e,this]
   ·rw [if_neg q];have : ¬(g t=(i:Int)):=by omega
    simp [this]
  rw [this];simp only [List.mem_cons,exists_eq_or_imp,or_assoc]
theorem all_drop {α:Type} {l:List α} {n:Nat} {d:α} {f:α→Bool} (hl:l.length=n+1):(l.drop 1).all f=true↔∀i:Nat,1≤i→i≤n→f (l.getD i d)=true:=by
 rw [List.all_eq_true];constructor
 ·intro h i h1 h2
  have : l.getD i d∈l.drop 1:=by
   rw [getD_of (by omega:i<l.length)];rw [List.mem_iff_getElem];exact ⟨i - 1,by simp;omega,by simp;congr 1;omega⟩
  exact h _ this
 ·intro h x hx;obtain ⟨i,hi,rfl⟩:=List.mem_iff_getElem.1 hx;have h3:i<l.length - 1:=by simpa using hi
  have:=h (1+i) (by omega) (by omega);rw [getD_of (by omega:1+i<l.length)] at this;simpa [Nat.add_comm] using this
theorem shp_nodes (p:Pt):∀(s m:Int) (n:Nat),shp p s m n=true→(∀i,i≠0→((∃q∈nodes p,q.v=i)↔∃s',(i,s')∈occ p s))∧(∀q∈nodes p,(q.v≠0→q.iv=0)∧(0≤m→0≤q.iv∧q.iv≤m)∧q.kids.length≤3):=by
 induction p using Pt.ind with
 | h p ih =>
  intro s m n h;rw [nodes_eq];by_cases hv:p.v=0
  ·rw [shp_op hv,Bool.and_eq_true,decide_eq_true_eq] at h;obtain ⟨⟨h1,h2,_,h4⟩,h5⟩:=h;rw [occ_op hv]
   have key:=Pt.indL (Q:=fun k=>∀(s m:Int) (n:Nat),shp k s m n=true→(∀i,i≠0→((∃q∈nodes k,q.v=i)↔∃s',(i,s')∈occ k s))∧(∀q∈nodes k,(q.v≠0→q.iv=0)∧(0≤m→0≤q.iv∧q.iv≤m)∧q.kids.length≤3))
    (QL:=fun (ks:List Pt) (ss:List Int)=>shpL ks ss m n=true→(∀i,i≠0→((∃q∈nodesL ks,q.v=i)↔∃s',(i,s')∈occL ks ss))∧(∀q∈nodesL ks,(q.v≠0→q.iv=0)∧(0≤m→0≤q.iv∧q.iv≤m)∧q.kids.length≤3))
    (fun ss _=>⟨fun i _=>by simp [nodesL,occL],fun q hq=>by simp [nodesL] at hq⟩)
    (fun k ks ss hk hks h=>by
     rw [shpL,Bool.and_eq_true] at h;obtain ⟨a1,a2⟩:=hk _ _ _ h.1;obtain ⟨b1,b2⟩:=hks h.2;refine ⟨fun i hi=>?_,fun q hq=>?_⟩
     ·simp only [nodesL,occL,List.mem_append,or_and_right,exists_or];rw [a1 i hi,b1 i hi]
     ·rw [nodesL] at hq;rcases List.mem_append.1 hq with hq | hq
      ·exact a2 q hq
      ·exact b2 q hq) p.kids ih _ h5
   obtain ⟨k1,k2⟩:=key;refine ⟨fun i hi=>?_,fun q hq=>?_⟩
   ·rw [←k1 i hi];simp only [List.mem_cons,exists_eq_or_imp];constructor
    ·rintro (h | h)
     ·omega
     ·exact h
    ·exact .inr
   ·rcases List.mem_cons.1 hq with rfl | hq
    ·refine ⟨fun q=>absurd hv q,fun hm=>?_,?_⟩
     ·by_cases h0:q.iv=0
      ·omega
      ·have : pImmF q m=(hasImmF q.op&&decide (q.imm=0∧1≤q.iv∧q.iv≤m)):=if_pos h0;rw [this,Bool.and_eq_true,decide_eq_true_eq] at h4;omega
     ·have:=(rs_parts h1).2.1;omega
    ·exact k2 q hq
  ·rw [shp_var hv,decide_eq_true_eq] at h;have hk:p.kids=[]:=List.eq_nil_of_length_eq_zero (by omega);rw [occ_var hv,hk];refine ⟨fun i hi=>?_,fun q hq=>?_⟩
   ·simp only [nodesL,List.mem_singleton,exists_eq_left,Prod.mk.injEq];constructor
    ·rintro rfl;exact ⟨s,rfl,rfl⟩
    ·rintro ⟨_,h,_⟩;exact h.symm
   ·simp only [nodesL,List.mem_singleton] at hq;subst hq;refine ⟨fun _=>by omega,fun _=>by omega,by rw [hk];simp⟩
theorem shp_sort {p:Pt} {s m:Int} {n:Nat} (h:shp p s m n=true):shp p 0 m n=true:=by
 by_cases hv:p.v=0
 ·rw [shp_op hv,Bool.and_eq_true,decide_eq_true_eq] at h ⊢;exact ⟨⟨h.1.1,h.1.2.1,.inl rfl,h.1.2.2.2⟩,h.2⟩
 ·rw [shp_var hv] at h ⊢;exact h
theorem shp_own {p:Pt} {s m:Int} {n:Nat} (h:shp p 0 m n=true) (hs:p.v=0→s=(oSortsF p.op).2.1):shp p s m n=true:=by
 by_cases hv:p.v=0
 ·rw [shp_op hv,Bool.and_eq_true,decide_eq_true_eq] at h ⊢;exact ⟨⟨h.1.1,h.1.2.1,.inr (hs hv),h.1.2.2.2⟩,h.2⟩
 ·rw [shp_var hv] at h ⊢;exact h
theorem shp_ok {p:Pt} {s m:Int} {n:Nat} (hv:p.v=0) (h:shp p s m n=true):(oSortsF p.op).2.2=true:=by
 rw [shp_op hv,Bool.and_eq_true,decide_eq_true_eq] at h;exact h.1.1
theorem shp_root {p:Pt} {s m:Int} {n:Nat} (h:shp p s m n=true) (hs:s≠0) (hv:p.v=0):s=(oSortsF p.op).2.1:=by
 rw [shp_op hv,Bool.and_eq_true,decide_eq_true_eq] at h;omega
structure RuleOk (r:Rl):Prop where
 vars:0≤r.vars∧r.vars≤6
 imms:0≤r.imms∧r.imms≤6
 name:nameF r.name=true
 few:r.conds.length≤6
 root:r.l.v=0
 sizes:r.l.size≤24∧r.r.size≤24
 shl:shp r.l 0 r.imms r.vars.toNat=true
 shr:shp r.r (oSortsF r.l.op).2.1 r.imms r.vars.toNat=true
 all:∀i:Nat,1≤i→i≤r.vars.toNat→∃s,((i:Int),s)∈occ r.l 0
 one:∀i s s',(i,s)∈occ r.l 0++occ r.r (oSortsF r.l.op).2.1→(i,s')∈occ r.l 0++occ r.r (oSortsF r.l.op).2.1→s=s'
 im:∀i:Nat,1≤i→i≤r.imms.toNat→(i:Int)∈occI r.l
 cnd:∀c∈r.conds,condF c (0::(List.range r.vars.toNat).map fun (i:Nat)=>if ((i:Int)+1,(1:Int))∈occ r.l 0 then (1:Int) else 2) r.imms=true
end Go.Proofs.YtifhejahbbnkiaaGreat
namespace Go.Proofs.YtifhejahbbnkiaaGreat
open Go.RowKit
theorem sorts_get {n:Nat} {f:Nat→Int} {i:Nat} (h1:1≤i) (h2:i≤n):(0::(List.range n).map f).getD i 0=f (i - 1):=by
 obtain ⟨k,rfl⟩:∃k,i=k+1:=⟨i - 1,by omega⟩;simp [List.getD,show k<n by omega]
theorem vPt_fst {p:Pt} {s m:Int} {vs:List Int}:(vPt p s m vs).1=true↔∃v,shp p s m vs.length=true∧run (occ p s) vs=some v:=by
 constructor
 ·intro h;exact ⟨_,(vPt_iff p s m vs (vPt p s m vs).2).1 (by rw [←h])⟩
 ·rintro ⟨v,h⟩;rw [(vPt_iff p s m vs v).2 h]
theorem occ_root {p:Pt} (h:p.v=0) (s t:Int):occ p s=occ p t:=by rw [occ_op h,occ_op h]
theorem InR.app {n:Nat} {a b:List (Int×Int)} (h:InR n a) (g:InR n b):InR n (a++b):=fun t ht=>(List.mem_append.1 ht).elim (h t) (g t)
theorem zeros_get (n i:Nat):(List.replicate n (0:Int)).getD i 0=0:=by
 simp only [List.getD,List.getElem?_replicate]
 split <;> rfl
section
variable {r:Rl}
theorem RuleOk.own (h:RuleOk r):(oSortsF r.l.op).2.1=1∨(oSortsF r.l.op).2.1=2:=osort_own (shp_ok h.root h.shl)
theorem RuleOk.inL (h:RuleOk r):InR r.vars.toNat (occ r.l 0):=shp_inR _ _ _ _ h.shl (.inr (.inr h.root))
theorem RuleOk.inR (h:RuleOk r):InR r.vars.toNat (occ r.r (oSortsF r.l.op).2.1):=shp_inR _ _ _ _ h.shr (by have:=h.own;omega)
theorem RuleOk.srt (h:RuleOk r):∀t∈occ r.l 0++occ r.r (oSortsF r.l.op).2.1,t.2=if (t.1,(1:Int))∈occ r.l 0 then 1 else 2:=by
 intro t ht;have hr:=h.inL.app h.inR t ht;obtain ⟨s,hs⟩:=h.all t.1.toNat (by omega) (by omega);rw [show ((t.1.toNat:Nat):Int)=t.1 by omega] at hs;have e:=h.one t.1 t.2 s ht (List.mem_append_left _ hs)
 split
 ·rename_i q;exact h.one t.1 t.2 1 ht (List.mem_append_left _ q)
 ·rename_i q;rcases hr.2.2 with q2 | q2
  ·exfalso;exact q (by rw [←e,q2] at hs;exact hs)
  ·exact q2
theorem sorts_len (n:Nat) (f:Nat→Int):(0::(List.range n).map f).length=n+1:=by simp
theorem imp_ok (h:implF r=true):RuleOk r:=by
 unfold implF implG at h;simp only [Bool.and_eq_true,decide_eq_true_eq,Bool.or_eq_true] at h;obtain ⟨⟨⟨⟨⟨h1,h2⟩,h3⟩,h4⟩,h5⟩,⟨⟨⟨⟨g1,g2⟩,g3⟩,g4⟩,g5⟩⟩:=h;unfold validF at h2 h3;simp only [Bool.and_eq_true,decide_eq_true_eq] at h2 h3;obtain ⟨v1,a1,a2⟩:=vPt_fst.1 h2.2;obtain ⟨v2,b1,b2⟩:=vPt_fst.1 h3.2;rw [List.length_replicate] at a1 b1;have ho:=shp_ok h1 a1;have hown:=(rs_parts ho).1;have hown12:=osort_own ho;have hl:=shp_inR _ _ _ _ a1 (.inr (.inr h1))
 have hsr:shp r.r (oSortsF r.l.op).2.1 r.imms r.vars.toNat=true:=shp_own b1 (fun hv=>by
  rcases g3 with q | q
  ·exact absurd hv q
  ·rw [←hown,←q];exact (rs_parts (shp_ok hv b1)).1)
 have hr:=shp_inR _ _ _ _ hsr (by omega);rw [hown,occ_root h1 _ 0] at g1 g4 g5;rw [colV_app] at g4 g5;have hlr:=hl.app hr;rw [all_drop (n:=r.vars.toNat) (d:=0) (by rw [colV_len];simp)] at g1 g4
 have hone:∀i s s',(i,s)∈occ r.l 0++occ r.r (oSortsF r.l.op).2.1→(i,s')∈occ r.l 0++occ r.r (oSortsF r.l.op).2.1→s=s':=by
  intro i s s' k1 k2;have q1:=hlr _ k1;have q2:=hlr _ k2;have:=g4 i.toNat (by omega) (by omega);rw [decide_eq_true_eq,colV_zero hlr _ (by omega)] at this;have e:((i.toNat:Nat):Int)=i:=by omega
  rw [e] at this
  have : ¬((i,(1:Int))∈occ r.l 0++occ r.r (oSortsF r.l.op).2.1∧(i,(2:Int))∈occ r.l 0++occ r.r (oSortsF r.l.op).2.1):=by
   rintro ⟨x,y⟩;apply this;unfold hasO;rw [dT_ x,dT_ y];rfl
  rcases q1.2.2 with z1 | z1 <;> rcases q2.2.2 with z2 | z2
  ·have z1:s=1:=z1;have z2:s'=1:=z2;omega
  ·exfalso;have z1:s=1:=z1;have z2:s'=2:=z2;subst z1;subst z2;exact this ⟨k1,k2⟩
  ·exfalso;have z1:s=2:=z1;have z2:s'=1:=z2;subst z1;subst z2;exact this ⟨k2,k1⟩
  ·have z1:s=2:=z1;have z2:s'=2:=z2;omega
 have hall:∀i:Nat,1≤i→i≤r.vars.toNat→∃s,((i:Int),s)∈occ r.l 0:=by
  intro i i1 i2;have:=g1 i i1 i2;rw [decide_eq_true_eq,colV_zero hl _ (by omega)] at this;by_cases q:((i:Int),(1:Int))∈occ r.l 0
  ·exact ⟨_,q⟩
  ·by_cases q2:((i:Int),(2:Int))∈occ r.l 0
   ·exact ⟨_,q2⟩
   ·exfalso
    apply this;unfold hasO;rw [dF_ q,dF_ q2];rfl
 have hnd:=(shp_nodes _ _ _ _ a1).2
 have him:∀i:Nat,1≤i→i≤r.imms.toNat→(i:Int)∈occI r.l:=by
  intro i i1 i2;rw [all_drop (n:=r.imms.toNat) (d:=0) (by rw [colI_len];simp)] at g2;have:=g2 i i1 i2
  rw [decide_eq_true_eq,colI_mem (m:=r.imms.toNat) (by simp) (fun x hx=>by
   obtain ⟨q,hq,rfl⟩:=List.mem_map.1 hx;have:=(hnd q (List.mem_filter.1 hq).1).2.1 (by omega)
   omega) i (by omega)] at this
  rcases this with q | q
  ·exfalso;exact q (zeros_get _ _)
  ·exact q
 refine ⟨by omega,by omega,h4,h5,h1,by omega,a1,hsr,hall,hone,him,fun c hc=>?_⟩;have:=List.all_eq_true.1 g5 c hc;rw [←this];refine condF_congr (by rw [colV_len];simp) (fun i i1 i2=>?_);rw [sorts_len] at i2;rw [sorts_get i1 (by omega),colV_zero hlr _ (by omega)];have e:((i - 1:Nat):Int)+1=i:=by omega
 rw [e];obtain ⟨s,hs⟩:=hall i i1 (by omega);have hs':=List.mem_append_left (occ r.r (oSortsF r.l.op).2.1) hs;unfold hasO;rcases (hl _ hs).2.2 with q | q
 ·have q:s=1:=q;subst q;rw [if_pos hs,dT_ hs',dF_ (fun q2=>by have:=hone _ _ _ hs' q2;omega)];simp [code]
 ·have q:s=2:=q;subst q;rw [if_neg (fun q2=>by have:=hone _ _ _ hs' (List.mem_append_left _ q2);omega),dT_ hs',dF_ (fun q2=>by have:=hone _ _ _ hs' q2;omega)]
  simp [code]
theorem RuleOk.runL (h:RuleOk r):∃v1,run (occ r.l 0) (List.replicate r.vars.toNat 0)=some v1∧(∀i:Nat,v1.getD i 0=0∨v1.getD i 0=if ((i:Int)+1,(1:Int))∈occ r.l 0 then 1 else 2):=by
 obtain ⟨v1,e1,e2,_⟩:=run_some (fun i=>if (i,(1:Int))∈occ r.l 0 then 1 else 2) (l:=occ r.l 0) (vs:=List.replicate r.vars.toNat 0) (by rw [List.length_replicate];exact h.inL) (fun t ht=>h.srt t (List.mem_append_left _ ht)) (fun i=>.inl (zeros_get _ _))
 exact ⟨v1,e1,e2⟩
theorem RuleOk.runR (h:RuleOk r) {v1:List Int} (e1:run (occ r.l 0) (List.replicate r.vars.toNat 0)=some v1) (e2:∀i:Nat,v1.getD i 0=0∨v1.getD i 0=if ((i:Int)+1,(1:Int))∈occ r.l 0 then 1 else 2) :
  ∃v2,run (occ r.r (oSortsF r.l.op).2.1) v1=some v2:=by
 have hl1:v1.length=r.vars.toNat:=by rw [run_len e1];simp
 obtain ⟨v2,f1,_⟩:=run_some (fun i=>if (i,(1:Int))∈occ r.l 0 then 1 else 2) (l:=occ r.r (oSortsF r.l.op).2.1) (vs:=v1) (by rw [hl1];exact h.inR) (fun t ht=>h.srt t (List.mem_append_right _ ht)) e2
 exact ⟨v2,f1⟩
theorem ok_imp (h:RuleOk r):implF r=true:=by
 obtain ⟨v1,e1,e2⟩:=h.runL;have ho:=shp_ok h.root h.shl;have hown:=(rs_parts ho).1;have hnd:=(shp_nodes _ _ _ _ h.shl).2;have hV:=h.vars;have hI:=h.imms;have hS:=h.sizes;have hlr:=h.inL.app h.inR;unfold implF implG;simp only [Bool.and_eq_true,decide_eq_true_eq,Bool.or_eq_true];rw [hown,occ_root h.root _ 0,colV_app];refine ⟨⟨⟨⟨⟨h.root,?_⟩,?_⟩,h.name⟩,h.few⟩,⟨⟨⟨⟨?_,?_⟩,?_⟩,?_⟩,?_⟩⟩
 ·unfold validF;simp only [Bool.and_eq_true,decide_eq_true_eq];exact ⟨by omega,vPt_fst.2 ⟨v1,by rw [List.length_replicate];exact h.shl,e1⟩⟩
 ·unfold validF;simp only [Bool.and_eq_true,decide_eq_true_eq];refine ⟨by omega,vPt_fst.2 ?_⟩;rw [List.length_replicate];by_cases hv:r.r.v=0
  ·obtain ⟨v2,f1,_⟩:=run_some (fun i=>if (i,(1:Int))∈occ r.l 0 then 1 else 2) (l:=occ r.r (oSortsF r.l.op).2.1) (vs:=List.replicate r.vars.toNat 0) (by rw [List.length_replicate];exact h.inR) (fun t ht=>h.srt t (List.mem_append_right _ ht)) (fun i=>.inl (zeros_get _ _))
   rw [occ_root hv _ 0] at f1;exact ⟨v2,shp_sort h.shr,f1⟩
  ·refine ⟨(List.replicate r.vars.toNat 0).set (r.r.v - 1).toNat 0,shp_sort h.shr,?_⟩;rw [occ_var hv];simp only [run,run1];rw [if_pos (zeros_get _ _)]
 ·rw [all_drop (n:=r.vars.toNat) (d:=0) (by rw [colV_len];simp)];intro i i1 i2;rw [decide_eq_true_eq,colV_zero h.inL _ (by omega)];obtain ⟨s,hs⟩:=h.all i i1 i2;unfold hasO;rcases (h.inL _ hs).2.2 with q | q
  ·have q:s=1:=q;subst q;rw [dT_ hs];cases decide (((i:Int),(2:Int))∈occ r.l 0) <;> decide
  ·have q:s=2:=q;subst q;rw [dT_ hs];cases decide (((i:Int),(1:Int))∈occ r.l 0) <;> decide
 ·rw [all_drop (n:=r.imms.toNat) (d:=0) (by rw [colI_len];simp)];intro i i1 i2
  rw [decide_eq_true_eq,colI_mem (m:=r.imms.toNat) (by simp) (fun x hx=>by
   obtain ⟨q,hq,rfl⟩:=List.mem_map.1 hx;have:=(hnd q (List.mem_filter.1 hq).1).2.1 (by omega)
   omega) i (by omega)]
  exact .inr (h.im i i1 i2)
 ·by_cases hv:r.r.v=0
  ·right
   rw [(rs_parts (shp_ok hv h.shr)).1];exact (shp_root h.shr (by have:=h.own;omega) hv).symm
  ·exact .inl hv
 ·rw [all_drop (n:=r.vars.toNat) (d:=0) (by rw [colV_len];simp)];intro i i1 i2;rw [decide_eq_true_eq,colV_zero hlr _ (by omega)];unfold hasO;by_cases q:((i:Int),(1:Int))∈occ r.l 0++occ r.r (oSortsF r.l.op).2.1
  ·have : ¬((i:Int),(2:Int))∈occ r.l 0++occ r.r (oSortsF r.l.op).2.1:=fun q2=>by have:=h.one _ _ _ q q2;omega
   rw [dT_ q,dF_ this];decide
  ·rw [dF_ q];cases decide (((i:Int),(2:Int))∈occ r.l 0++occ r.r (oSortsF r.l.op).2.1) <;> decide
 ·rw [List.all_eq_true];intro c hc;rw [←h.cnd c hc];refine condF_congr (by rw [colV_len];simp) (fun i i1 i2=>?_);rw [colV_len,List.length_replicate] at i2;rw [sorts_get i1 (by omega),colV_zero hlr _ (by omega)];have e:((i - 1:Nat):Int)+1=i:=by omega
  rw [e];obtain ⟨s,hs⟩:=h.all i i1 (by omega);have hs':=List.mem_append_left (occ r.r (oSortsF r.l.op).2.1) hs;unfold hasO;rcases (h.inL _ hs).2.2 with q | q
  ·have q:s=1:=q;subst q;rw [if_pos hs,dT_ hs',dF_ (fun q2=>by have:=h.one _ _ _ hs' q2;omega)];simp [code]
  ·have q:s=2:=q;subst q;rw [if_neg (fun q2=>by have:=h.one _ _ _ hs' (List.mem_append_left _ q2);omega),dT_ hs',dF_ (fun q2=>by have:=h.one _ _ _ hs' q2;omega)]
   simp [code]
theorem mark_len (l:List Pt) (bs:List Bool):(markV l bs).length=bs.length∧(markI l bs).length=bs.length:=⟨(mark_get Pt.v l bs 0).1,(mark_get Pt.iv l bs 0).1⟩
theorem false_get (n i:Nat):¬((List.replicate n false).getD i false=true):=by
 simp only [List.getD,List.getElem?_replicate]
 split <;> simp
theorem ref_ok (h:refF r=true):RuleOk r:=by
 unfold refF at h;simp only [Bool.and_eq_true,decide_eq_true_eq] at h;obtain ⟨⟨⟨⟨⟨⟨⟨⟨h1,h2⟩,h3⟩,h4⟩,h5⟩,h6⟩,h7⟩,h8⟩,h9⟩:=h;obtain ⟨v1,a1,a2⟩:=vPt_fst.1 h5;have e5:=(vPt_iff _ _ _ _ _).2 ⟨a1,a2⟩;rw [List.length_replicate] at a1;have ho:=shp_ok h4.1 a1;have hps:=(allowed_parts ho).2.1;rw [hps,e5] at h6 h9;have hl1:v1.length=r.vars.toNat:=by rw [run_len a2];simp
 obtain ⟨v2,b1,b2⟩:=vPt_fst.1 h6;have e6:=(vPt_iff _ _ _ _ _).2 ⟨b1,b2⟩;rw [e6] at h9;rw [hl1] at b1;have hown12:=osort_own ho;have hl:=shp_inR _ _ _ _ a1 (.inr (.inr h4.1));have hr:=shp_inR _ _ _ _ b1 (by omega);have hlr:=hl.app hr;obtain ⟨s1,s2⟩:=run_sound (by rw [List.length_replicate];exact hl) a2;obtain ⟨t1,t2⟩:=run_sound (by rw [hl1];exact hr) b2
 have hv2:∀t∈occ r.l 0++occ r.r (oSortsF r.l.op).2.1,v2.getD (t.1 - 1).toNat 0=t.2:=by
  intro t ht;rcases List.mem_append.1 ht with ht | ht
  ·have e:=s2 t ht;have:=(hl t ht).2.2;rw [t1 _ (by rw [e];omega),e]
  ·exact t2 t ht
 have hone:∀i s s',(i,s)∈occ r.l 0++occ r.r (oSortsF r.l.op).2.1→(i,s')∈occ r.l 0++occ r.r (oSortsF r.l.op).2.1→s=s':=by
  intro i s s' k1 k2;have q1:=hv2 _ k1;have q2:=hv2 _ k2;exact q1.symm.trans q2
 obtain ⟨n1,n2⟩:=shp_nodes _ _ _ _ a1
 have hall:∀i:Nat,1≤i→i≤r.vars.toNat→∃s,((i:Int),s)∈occ r.l 0:=by
  intro i i1 i2;rw [all_drop (n:=r.vars.toNat) (d:=false) (by rw [(mark_len _ _).1];simp)] at h7;have:=(((mark_get Pt.v (nodes r.l) _ i).2 i1 (by simp;omega)).1 (h7 i i1 i2));rcases this with q | q
  ·exact absurd q (false_get _ _)
  ·exact (n1 i (by omega)).1 q
 have him:∀i:Nat,1≤i→i≤r.imms.toNat→(i:Int)∈occI r.l:=by
  intro i i1 i2;rw [all_drop (n:=r.imms.toNat) (d:=false) (by rw [(mark_len _ _).2];simp)] at h8;have:=(((mark_get Pt.iv (nodes r.l) _ i).2 i1 (by simp;omega)).1 (h8 i i1 i2));rcases this with q | ⟨q,hq,e⟩
  ·exact absurd q (false_get _ _)
  ·refine List.mem_map.2 ⟨q,List.mem_filter.2 ⟨hq,?_⟩,e⟩;rw [decide_eq_true_eq];exact Decidable.byContradiction fun hv=>by have:=(n2 q hq).1 hv;omega
 refine ⟨by omega,by omega,h2,h3,h4.1,h4.2,a1,b1,hall,hone,him,fun c hc=>?_⟩;have:=List.all_eq_true.1 h9 c hc;rw [←this];refine condF_congr (by rw [sorts_len];simp [run_len b2,hl1]) (fun i i1 i2=>?_);rw [sorts_len] at i2;rw [sorts_get i1 (by omega)];have e:((i - 1:Nat):Int)+1=i:=by omega
 rw [e];obtain ⟨s,hs⟩:=hall i i1 (by omega);have hg:=hv2 _ (List.mem_append_left _ hs)
 have e3:(0::v2).getD i 0=s:=by
  obtain ⟨k,rfl⟩:∃k,i=k+1:=⟨i - 1,by omega⟩;rw [List.getD_cons_succ];have : (((k+1:Nat):Int) - 1).toNat=k:=by omega
  rw [this] at hg;exact hg
 rw [e3];rcases (hl _ hs).2.2 with q | q
 ·have q:s=1:=q;subst q;rw [if_pos hs]
 ·have q:s=2:=q;subst q;rw [if_neg (fun q2=>by have:=hone _ _ _ (List.mem_append_left _ hs) (List.mem_append_left _ q2);omega)]
theorem ok_ref (h:RuleOk r):refF r=true:=by
 obtain ⟨v1,e1,e2⟩:=h.runL;obtain ⟨v2,f1⟩:=h.runR e1 e2;have hl1:v1.length=r.vars.toNat:=by rw [run_len e1];simp
 have ho:=shp_ok h.root h.shl;have hps:=(allowed_parts ho).2.1;obtain ⟨n1,n2⟩:=shp_nodes _ _ _ _ h.shl;have hV:=h.vars;have hI:=h.imms;have hS:=h.sizes;have q1:=(vPt_iff r.l 0 r.imms (List.replicate r.vars.toNat 0) v1).2 ⟨by rw [List.length_replicate];exact h.shl,e1⟩;have q2:=(vPt_iff r.r (oSortsF r.l.op).2.1 r.imms v1 v2).2 ⟨by rw [hl1];exact h.shr,f1⟩;unfold refF;rw [q1,hps];dsimp only;rw [q2];simp only [Bool.and_eq_true,decide_eq_true_eq];refine ⟨⟨⟨⟨⟨⟨⟨⟨by omega,h.name⟩,h.few⟩,h.root,h.sizes⟩,trivial⟩,trivial⟩,?_⟩,?_⟩,?_⟩
 ·rw [all_drop (n:=r.vars.toNat) (d:=false) (by rw [(mark_len _ _).1];simp)];intro i i1 i2;exact ((mark_get Pt.v (nodes r.l) _ i).2 i1 (by simp;omega)).2 (.inr ((n1 i (by omega)).2 (h.all i i1 i2)))
 ·rw [all_drop (n:=r.imms.toNat) (d:=false) (by rw [(mark_len _ _).2];simp)];intro i i1 i2;obtain ⟨q,hq,e⟩:=List.mem_map.1 (h.im i i1 i2);exact ((mark_get Pt.iv (nodes r.l) _ i).2 i1 (by simp;omega)).2 (.inr ⟨q,(List.mem_filter.1 hq).1,e⟩)
 ·rw [List.all_eq_true];intro c hc;rw [←h.cnd c hc];refine condF_congr (by rw [sorts_len];simp [run_len f1,hl1]) (fun i i1 i2=>?_);have hlen:(0::v2).length=r.vars.toNat+1:=by simp [run_len f1,hl1]
  rw [sorts_get i1 (by omega)];have e:((i - 1:Nat):Int)+1=i:=by omega
  rw [e];obtain ⟨s,hs⟩:=h.all i i1 (by omega);obtain ⟨s1,s2⟩:=run_sound (by rw [List.length_replicate];exact h.inL) e1;obtain ⟨t1,t2⟩:=run_sound (by rw [hl1];exact h.inR) f1
  have hg:v2.getD ((i:Int) - 1).toNat 0=s:=by
   have e:=s2 _ hs;have:=(h.inL _ hs).2.2;rw [t1 _ (by rw [e];omega),e]
  have e3:(0::v2).getD i 0=s:=by
   obtain ⟨k,rfl⟩:∃k,i=k+1:=⟨i - 1,by omega⟩;rw [List.getD_cons_succ];have : (((k+1:Nat):Int) - 1).toNat=k:=by omega
   rw [this] at hg;exact hg
  rw [e3];rcases (h.inL _ hs).2.2 with q | q
  ·have q:s=1:=q;subst q;rw [if_pos hs]
  ·have q:s=2:=q;subst q;rw [if_neg (fun q2=>by have:=h.one _ _ _ (List.mem_append_left _ hs) (List.mem_append_left _ q2);omega)]
theorem imp_ref (r:Rl):implF r=refF r:=by
 rw [Bool.eq_iff_iff];exact ⟨fun h=>ok_ref (imp_ok h),fun h=>ok_imp (ref_ok h)⟩
end
end Go.Proofs.YtifhejahbbnkiaaGreat
namespace Go.Proofs.YtifhejahbbnkiaaGreat
open Go.RowKit
theorem take_snoc' {α:Type} {L:List α} {k:Nat} (h:k<L.length):L.take (k+1)=L.take k++[L[k]]:=by
 rw [List.take_add_one,List.getElem?_eq_getElem h];rfl
def CondsV (w:World) (F:Nat→Prop) (A:Option Addr) (cs:List Cd):Prop :=
 cs=[]∨∃b o,A=some ⟨b,o,none⟩∧F b∧∀i (h:i<cs.length),w.cell? ⟨b,o+i * 4,none⟩=some (.int .i64 cs[i].kind)∧w.cell? ⟨b,o+i * 4+1,none⟩=some (.int .i64 cs[i].a)∧w.cell? ⟨b,o+i * 4+2,none⟩=some (.int .i64 cs[i].b)∧w.cell? ⟨b,o+i * 4+3,none⟩=some (.int .i64 cs[i].n)
section
variable {w w':World} {F G S:Nat→Prop} {A:Option Addr} {cs:List Cd}
theorem CondsV.nil:CondsV w F A []:=.inl rfl
theorem CondsV.at_ (h:CondsV w F A cs) {i:Nat} (hi:i<cs.length):∃b o,A=some ⟨b,o,none⟩∧F b∧b<w.heap.size∧w.cell? ⟨b,o+i * 4,none⟩=some (.int .i64 cs[i].kind)∧w.cell? ⟨b,o+i * 4+1,none⟩=some (.int .i64 cs[i].a)∧w.cell? ⟨b,o+i * 4+2,none⟩=some (.int .i64 cs[i].b)∧w.cell? ⟨b,o+i * 4+3,none⟩=some (.int .i64 cs[i].n):=by
 rcases h with h | ⟨b,o,e,hF,h⟩
 ·subst h;simp at hi
 ·exact ⟨b,o,e,hF,World.block_lt_of_cell? _ _ (h i hi).1,h i hi⟩
theorem CondsV.upd (h:CondsV w F A cs) (u:Upd S w w') (d:∀k,k<w.heap.size→F k→¬S k):CondsV w' F A cs:=by
 rcases h with h | ⟨b,o,e,hF,h⟩
 ·exact .inl h
 ·refine .inr ⟨b,o,e,hF,fun i hi=>?_⟩;have hb:¬S b:=d b (World.block_lt_of_cell? _ _ (h i hi).1) hF;obtain ⟨h0,h1,h2,h3⟩:=h i hi;exact ⟨u_ h0 u hb,u_ h1 u hb,u_ h2 u hb,u_ h3 u hb⟩
theorem CondsV.mono (h:CondsV w F A cs) (hFG:∀k,k<w.heap.size→F k→G k):CondsV w G A cs:=by
 rcases h with h | ⟨b,o,e,hF,h⟩
 ·exact .inl h
 ·by_cases hn:cs=[]
  ·exact .inl hn
  ·exact .inr ⟨b,o,e,hFG b (World.block_lt_of_cell? _ _ (h 0 (List.length_pos_iff.2 hn)).1) hF,h⟩
end
structure RlA where
 la:Option Addr
 lc:Nat
 ra:Option Addr
 rc:Nat
 ca:Option Addr
 cc:Nat
def rlCells (r:Rl) (a:RlA):Array Value:=#[.string r.name,.int .i64 r.l.v,.int .i64 r.l.op,.int .i64 r.l.imm,.int .i64 r.l.iv,.slice a.la r.l.kids.length a.lc,.int .i64 r.r.v,.int .i64 r.r.op,.int .i64 r.r.imm,.int .i64 r.r.iv,.slice a.ra r.r.kids.length a.rc,.slice a.ca r.conds.length a.cc,.int .i64 r.vars,.int .i64 r.imms]
def rlv (r:Rl) (a:RlA):Value:=.agg (rlCells r a)
structure RlK (w:World) (F:Nat→Prop) (x:Rl) (a:RlA):Prop where
 l:PtK w F x.l a.la a.lc
 r:PtK w F x.r a.ra a.rc
 c:CondsV w F a.ca x.conds
 le:x.conds.length≤a.cc
theorem RlK.upd {w w':World} {F S:Nat→Prop} {r:Rl} {a:RlA} (h:RlK w F r a) (u:Upd S w w') (d:∀k,k<w.heap.size→F k→¬S k):RlK w' F r a :=
 ⟨PtK.upd u d _ _ _ h.l,PtK.upd u d _ _ _ h.r,h.c.upd u d,h.le⟩
theorem RlK.mono {w:World} {F G:Nat→Prop} {r:Rl} {a:RlA} (h:RlK w F r a) (g:∀k,k<w.heap.size→F k→G k):RlK w G r a :=
 ⟨PtK.mono g _ _ _ h.l,PtK.mono g _ _ _ h.r,h.c.mono g,h.le⟩
theorem results_cell_row_tmp {P:Program} {fn:Func} {p u:Tmp} {ty:TypeId} (h:fn.results=#[.cell p ty,.tmp u]) (tmps:Array Value) (w:World) (g:Nat) (t:TypeId) (cs:Array Value) (fr:Nat×Nat) (d:TypeDesc)
  (hp:tmps.getD p undef=.pointer (some ⟨g,0,none⟩)) (hg:w.heap[g]?=some (.cells cs t fr))
  (hu:P.underlying ty=some d) (hd:(match d with | .struct _ | .array _ _=>true | _=>false)=true) (hi:(P.info? ty).map (·.size)=some cs.size) :
  (results fn tmps).run P w=.ok (.tuple #[.agg cs,tmps.getD u undef]) w:=by
 rw [results_cell_tmp h,hp];simp [asAddr,run_loadVar_row w g t ty cs fr d hg hu hd hi,Result.andThen]
set_option maxRecDepth 100000 in
set_option maxHeartbeats 4000000 in
theorem rlSorts_c (op:Int) (w:World):Calls Tryz.prog 107 #[.int .i64 op] w fun e w'=>e=.returned (.tuple #[.agg #[.int .i64 ((rsF op).1.getD 0 0),.int .i64 ((rsF op).1.getD 1 0),.int .i64 ((rsF op).1.getD 2 0)],.int .i64 (rsF op).2])∧Upd Non w w':=by
 have uA:∀o,Upd Non w (w.alloc o):=fun o=>Upd.refl.alloc o
 by_cases h1:op=23
 ·subst h1;go_enter Tryz.func107,Tryz.ntmps107;go_wp2_with fail
  refine bodyPost_ret (results_cell_row_tmp rfl _ _ w.heap.size 162 _ (0,0) _ rfl (Blk.new _ _ _) Tryz.underlying162 rfl (by kernel_rfl)) rfl ?_;exact ⟨rfl,uA _⟩
 by_cases h2:op=24
 ·subst h2;go_enter Tryz.func107,Tryz.ntmps107;go_wp2_with fail
  refine bodyPost_ret (results_cell_row_tmp rfl _ _ w.heap.size 162 _ (0,0) _ rfl (Blk.new _ _ _) Tryz.underlying162 rfl (by kernel_rfl)) rfl ?_;exact ⟨rfl,uA _⟩
 by_cases h3:op=27
 ·subst h3;go_enter Tryz.func107,Tryz.ntmps107;go_wp2_with fail
  refine bodyPost_ret (results_cell_row_tmp rfl _ _ w.heap.size 162 _ (0,0) _ rfl (Blk.new _ _ _) Tryz.underlying162 rfl (by kernel_rfl)) rfl ?_;exact ⟨rfl,uA _⟩
 by_cases h4:op=29
 ·subst h4;go_enter Tryz.func107,Tryz.ntmps107;go_wp2_with fail
  refine bodyPost_ret (results_cell_row_tmp rfl _ _ w.heap.size 162 _ (0,0) _ rfl (Blk.new _ _ _) Tryz.underlying162 rfl (by kernel_rfl)) rfl ?_;exact ⟨rfl,uA _⟩
 by_cases h5:op=28
 ·subst h5;go_enter Tryz.func107,Tryz.ntmps107;go_wp2_with fail
  refine bodyPost_ret (results_cell_row_tmp rfl _ _ w.heap.size 162 _ (0,0) _ rfl (Blk.new _ _ _) Tryz.underlying162 rfl (by kernel_rfl)) rfl ?_;exact ⟨rfl,uA _⟩
 ·have t1:(op==23)=false:=by simpa using h1
  have t2:(op==24)=false:=by simpa using h2
  have t3:(op==27)=false:=by simpa using h3
  have t4:(op==29)=false:=by simpa using h4
  have t5:(op==28)=false:=by simpa using h5
  have e:rsF op=([1,1,1],1):=by unfold rsF;rw [if_neg h1,if_neg h2,if_neg (by omega),if_neg h5]
  rw [e];clear h1 h2 h3 h4 h5 e;go_enter Tryz.func107,Tryz.ntmps107;go_wp2_with fail
  refine bodyPost_ret (results_cell_row_tmp rfl _ _ w.heap.size 162 _ (0,0) _ rfl (Blk.new _ _ _) Tryz.underlying162 rfl (by kernel_rfl)) rfl ?_;exact ⟨rfl,uA _⟩
def occIL (ks:List Pt):List Int:=((nodesL ks).filter fun q=>decide (q.v=0)).map Pt.iv
theorem occI_op {p:Pt} (h:p.v=0):occI p=p.iv::occIL p.kids:=by
 unfold occI occIL;rw [nodes_eq];simp [h]
theorem occI_var {p:Pt} {s m:Int} {n:Nat} (hs:shp p s m n=true) (h:p.v≠0):occI p=[]:=by
 rw [shp_var h,decide_eq_true_eq] at hs;have hk:p.kids=[]:=List.eq_nil_of_length_eq_zero (by omega);unfold occI;rw [nodes_eq,hk];simp [nodesL,h]
theorem nodesL_snoc:∀(ks:List Pt) (k:Pt),nodesL (ks++[k])=nodesL ks++nodes k
 | [],k=>by simp [nodesL]
 | x::ks,k=>by simp [nodesL,nodesL_snoc ks k]
theorem occIL_snoc (ks:List Pt) (k:Pt):occIL (ks++[k])=occIL ks++occI k:=by
 unfold occIL occI;rw [nodesL_snoc,List.filter_append,List.map_append]
theorem occL_snoc:∀(ks:List Pt) (k:Pt) (ss:List Int),occL (ks++[k]) ss=occL ks ss++occ k (ss.getD ks.length 0)
 | [],k,ss=>by
  cases ss <;> simp [occL]
 | x::ks,k,ss=>by
  cases ss with
  | nil=>simp [occL,occL_snoc ks k]
  | cons y ss=>simp [occL,occL_snoc ks k]
theorem shpL_at {m:Int} {n:Nat}:∀{ks:List Pt} {ss:List Int} {i:Nat} (hi:i<ks.length),shpL ks ss m n=true→shp ks[i] (ss.getD i 0) m n=true
 | k::ks,ss,0,_,h=>by
  rw [shpL,Bool.and_eq_true] at h;have:=h.1;cases ss <;> simpa using this
 | k::ks,ss,i+1,hi,h=>by
  rw [shpL,Bool.and_eq_true] at h;have:=shpL_at (i:=i) (by simpa using hi) h.2;cases ss <;> simpa using this
theorem colV_snoc (a b:List (Int×Int)) (vs:List Int):colV (a++b) vs=colV b (colV a vs):=by simp [colV]
theorem colI_snoc (a b:List Int) (ms:List Int):colI (a++b) ms=colI b (colI a ms):=by simp [colI]
end Go.Proofs.YtifhejahbbnkiaaGreat
namespace Go.Proofs.YtifhejahbbnkiaaGreat
def Mild {α:Type}:Sem α→Prop
 | .pure _=>True
 | .load _ _ k=>∀v,Mild (k v)
 | .store ..=>False
 | .new _ k=>∀r,Mild (k r)
 | .shape _ k=>∀s,Mild (k s)
 | .freeze ..=>False
 | .frozen _ k=>∀b,Mild (k b)
 | .getObj _ k=>∀o,Mild (k o)
 | .setObj ..=>False
 | .choose _ k=>∀n,Mild (k n)
 | .sys ..=>False
 | .program k=>∀p,Mild (k p)
 | .mark _ k=>Mild k
 | .halt _=>True
theorem Mild.bind_ {α β:Type} {f:α→Sem β} (hf:∀a,Mild (f a)):∀(s:Sem α),Mild s→Mild (s.bind f)
 | .pure a,_=>hf a
 | .load _ _ k,h=>fun v=>Mild.bind_ hf (k v) (h v)
 | .new _ k,h=>fun v=>Mild.bind_ hf (k v) (h v)
 | .shape _ k,h=>fun v=>Mild.bind_ hf (k v) (h v)
 | .frozen _ k,h=>fun v=>Mild.bind_ hf (k v) (h v)
 | .getObj _ k,h=>fun v=>Mild.bind_ hf (k v) (h v)
 | .choose _ k,h=>fun v=>Mild.bind_ hf (k v) (h v)
 | .program k,h=>fun v=>Mild.bind_ hf (k v) (h v)
 | .mark _ k,h=>Mild.bind_ hf k h
 | .halt _,_=>trivial
 | .store ..,h=>h.elim
 | .freeze ..,h=>h.elim
 | .setObj ..,h=>h.elim
 | .sys ..,h=>h.elim
theorem Mild.bind {α β:Type} {s:Sem α} {f:α→Sem β} (hs:Mild s) (hf:∀a,Mild (f a)):Mild (s >>= f):=Mild.bind_ hf s hs
structure Calmly (R:World→Prop):Prop where
 alloc:∀w o,R w→R (w.alloc o)
 draw:∀w:World,R w→R { w with drawn:=w.drawn+1 }
theorem Mild.run {α:Type} {P:Program} {R:World→Prop} (hR:Calmly R):∀(s:Sem α) (w:World),Mild s→R w→∀a w',s.run P w=.ok a w'→R w'
 | .pure _,w,_,h,a,w',e=>by simp only [Sem.run] at e;cases e;exact h
 | .load m p k,w,hm,h,a,w',e=>by
  simp only [Sem.run] at e
  split at e
  ·exact Mild.run hR _ w (hm _) h a w' e
  ·split at e
   ·exact Mild.run hR _ w (hm _) h a w' e
   ·cases e
 | .new o k,w,hm,h,a,w',e=>by
  simp only [Sem.run] at e;exact Mild.run hR (k w.heap.size) _ (hm _) (hR.alloc w o h) a w' e
 | .shape r k,w,hm,h,a,w',e=>by simp only [Sem.run] at e;exact Mild.run hR _ w (hm _) h a w' e
 | .frozen r k,w,hm,h,a,w',e=>by simp only [Sem.run] at e;exact Mild.run hR _ w (hm _) h a w' e
 | .getObj r k,w,hm,h,a,w',e=>by
  simp only [Sem.run] at e
  split at e
  ·cases e
  ·exact Mild.run hR _ w (hm _) h a w' e
  ·cases e
 | .choose q k,w,hm,h,a,w',e=>by
  simp only [Sem.run] at e
  split at e
  ·exact Mild.run hR _ w (hm _) h a w' e
  ·exact Mild.run hR _ _ (hm _) (hR.draw w h) a w' e
 | .program k,w,hm,h,a,w',e=>by simp only [Sem.run] at e;exact Mild.run hR _ w (hm _) h a w' e
 | .mark _ k,w,hm,h,a,w',e=>by simp only [Sem.run] at e;exact Mild.run hR k w hm h a w' e
 | .halt _,w,_,h,a,w',e=>by simp only [Sem.run] at e;cases e
 | .store ..,_,h,_,_,_,_=>h.elim
 | .freeze ..,_,h,_,_,_,_=>h.elim
 | .setObj ..,_,h,_,_,_,_=>h.elim
 | .sys ..,_,h,_,_,_,_=>h.elim
theorem Mild.underlying (t:TypeId):Mild (Go.underlying t):=by unfold Go.underlying;exact Mild.bind (fun _=>trivial) (fun _=>by split <;> trivial)
theorem Mild.typeInfo (t:TypeId):Mild (Go.typeInfo t):=by unfold Go.typeInfo;exact Mild.bind (fun _=>trivial) (fun _=>by split <;> trivial)
theorem Mild.sizeOf (t:TypeId):Mild (Go.sizeOf t):=by unfold Go.sizeOf;exact Mild.bind (Mild.typeInfo t) (fun _=>trivial)
theorem Mild.isAgg (t:TypeId):Mild (Go.isAgg t):=by unfold Go.isAgg;exact Mild.bind (Mild.underlying t) (fun _=>by split <;> trivial)
theorem Mild.load (a:Addr):Mild (load a):=fun _=>trivial
theorem Mild.loadCellsFrom (a:Addr):∀(n i:Nat) (acc:Array Value),Mild (loadCellsFrom a i n acc)
 | 0,_,_=>trivial
 | n+1,i,acc=>by unfold Go.loadCellsFrom;exact Mild.bind (Mild.load _) (fun _=>Mild.loadCellsFrom a n _ _)
theorem Mild.loadVar (t:TypeId) (a:Addr):Mild (loadVar t a):=by
 unfold Go.loadVar;refine Mild.bind (Mild.isAgg t) (fun b=>?_)
 cases b with
 | true=>exact Mild.bind (Mild.sizeOf t) (fun _=>Mild.bind (Mild.loadCellsFrom _ _ _ _) (fun _=>trivial))
 | false=>exact Mild.load a
theorem Mild.sureAddr (v:Value):Mild (Instr.sureAddr v):=by unfold Instr.sureAddr;split <;> trivial
theorem Mild.loadAt (t:TypeId) (v:Value):Mild (Instr.loadAt t v):=by unfold Instr.loadAt;exact Mild.bind (Mild.sureAddr v) (fun _=>Mild.loadVar t _)
theorem Mild.choose (q:Question):Mild (Go.choose q):=fun _=>trivial
theorem Mild.map {α β:Type} {f:α→β} {s:Sem α} (h:Mild s):Mild (f <$> s):=by
 show Mild (s.bind (fun a=>Sem.pure (f a)));exact Mild.bind_ (f:=fun a=>Sem.pure (f a)) (fun _=>True.intro) s h
theorem Mild.runtimePanic {α:Type} (e:RuntimeError):Mild (Go.runtimePanic (α:=α) e):=by
 unfold Go.runtimePanic;refine Mild.bind (fun _=>trivial) (fun _=>?_);dsimp only
 repeat' (first | exact trivial | exact (fun _=>trivial) | refine Mild.bind ?_ (fun _=>?_) | split)
theorem Mild.boundsPanic {α:Type} (k:IntKind) (x y:Int) (c:BoundsCode):Mild (Go.boundsPanic (α:=α) k x y c):=by
 unfold Go.boundsPanic;dsimp only
 split
 ·exact Mild.bind (Mild.map (Mild.choose _)) (fun _=>Mild.runtimePanic _)
 ·exact Mild.bind (s:=pure _) trivial (fun _=>Mild.runtimePanic _)
theorem Mild.asIntOf (v:Value):Mild (Go.asIntOf v):=by unfold Go.asIntOf;split <;> trivial
theorem Mild.asBool (v:Value):Mild (Go.asBool v):=by unfold Go.asBool;split <;> trivial
theorem Mild.asAddr (v:Value):Mild (Go.asAddr v):=by unfold Go.asAddr;split <;> first | trivial | exact Mild.runtimePanic _
theorem Mild.sliceBound (x:Value) (y:Nat) (c:BoundsCode):Mild (Instr.sliceBound x y c):=by
 unfold Instr.sliceBound;refine Mild.bind (Mild.asIntOf x) (fun _=>?_);dsimp only
 split
 ·exact trivial
 ·exact Mild.boundsPanic _ _ _ _
theorem Mild.sliceBounds (b:Bool) (l c:Nat) (x y z:Option Value):Mild (Instr.sliceBounds b l c x y z):=by
 unfold Instr.sliceBounds
 repeat' (first | exact trivial | exact Mild.sliceBound _ _ _ | refine Mild.bind ?_ (fun _=>?_) | split)
theorem Mild.slice (t:TypeId) (v:Value) (x y z:Option Value):Mild (Instr.slice t v x y z):=by
 unfold Instr.slice
 repeat' (first | exact trivial | exact Mild.underlying _ | exact Mild.sizeOf _ | exact Mild.asAddr _ | exact Mild.sliceBounds _ _ _ _ _ _ | refine Mild.bind ?_ (fun _=>?_) | split)
theorem Mild.sliceAt (t:TypeId) (v:Value) (x y z:Option Value):Mild (Instr.sliceAt t v x y z):=by
 unfold Instr.sliceAt
 repeat' (first | exact trivial | exact Mild.underlying _ | exact Mild.sizeOf _ | exact Mild.sureAddr _ | exact Mild.sliceBounds _ _ _ _ _ _ | exact Mild.slice _ _ _ _ _ | refine Mild.bind ?_ (fun _=>?_) | split)
theorem Mild.len_ (a:Array TypeId) (t:TypeId) (args:Array Value):Mild (Builtin.len_ a t args):=by
 unfold Builtin.len_
 repeat' (first | exact trivial | exact Mild.underlying _ | exact (fun _=>trivial) | refine Mild.bind ?_ (fun _=>?_) | split)
theorem Mild.stringOp (o:BinOp) (x y:ByteArray):Mild (Op.stringOp o x y):=by
 unfold Op.stringOp;dsimp only
 repeat' (first | exact trivial | split)
theorem Mild.min2 (x y:Value):Mild (Builtin.min2 x y):=by
 unfold Builtin.min2
 repeat' (first | exact trivial | exact Mild.choose _ | exact Mild.stringOp _ _ _ | exact Mild.asBool _ | refine Mild.bind ?_ (fun _=>?_) | split)
theorem Mild.foldlM {α β:Type} {f:β→α→Sem β} (h:∀b a,Mild (f b a)):∀(l:List α) (b:β),Mild (l.foldlM f b)
 | [],_=>trivial
 | a::l,b=>by rw [List.foldlM_cons];exact Mild.bind (h b a) (fun c=>Mild.foldlM h l c)
theorem Mild.min_ (a:Array TypeId) (t:TypeId) (args:Array Value):Mild (Builtin.min_ a t args):=by
 unfold Builtin.min_
 split
 ·exact trivial
 ·exact Mild.foldlM (fun _ _=>Mild.min2 _ _) _ _
theorem Mild.indexAt (t:TypeId) (x v:Value):Mild (Instr.indexAt t x v):=by
 unfold Instr.indexAt
 repeat' (first | exact trivial | exact Mild.underlying _ | exact Mild.sizeOf _ | exact Mild.asIntOf _ | exact Mild.sureAddr _ | exact Mild.boundsPanic _ _ _ _ | refine Mild.bind ?_ (fun _=>?_) | split | dsimp only)
theorem Mild.zeroValue (t:TypeId):Mild (Go.zeroValue t):=by unfold Go.zeroValue;exact Mild.bind (Mild.typeInfo t) (fun _=>by split <;> trivial)
theorem Mild.newRow (t:TypeId) (cs:Array Value):Mild (Go.newRow t cs):=Mild.bind (fun _=>trivial) (fun _=>trivial)
theorem Mild.box (t:TypeId) (v:Value):Mild (Instr.box t v):=Mild.bind (Mild.newRow _ _) (fun _=>trivial)
theorem Mild.alloc (t:TypeId):Mild (Instr.alloc t true (.tuple #[])):=Mild.bind (Mild.zeroValue t) (fun _=>Mild.bind (Mild.newRow _ _) (fun _=>trivial))
theorem Mild.buildSlice (t:TypeId) (n:Nat) (ps:Array (Nat×Value)):Mild (Instr.buildSlice t n ps):=by
 unfold Instr.buildSlice
 repeat' (first | exact trivial | exact Mild.underlying _ | exact Mild.sizeOf _ | exact Mild.zeroValue _ | exact Mild.newRow _ _ | refine Mild.bind ?_ (fun _=>?_) | split | dsimp only)
def MildOp (o:Oper):Prop:=∀ev,∃s:Sem Value,Mild s∧execOp ev o=s.bind (fun a=>.pure (.value a))
def mildB:Op→Bool
 | .move _=>true
 | .assign _=>true
 | .load ..=>true
 | .slice ..=>true
 | .indexAddr ..=>true
 | .buildSlice ..=>true
 | .box ..=>true
 | .alloc ..=>true
 | .call { callee:=.builtin .len,.. }=>true
 | .call { callee:=.builtin .min,.. }=>true
 | _=>false
theorem mildB_spec {o:Oper} (h:mildB o.op=true):MildOp o:=by
 obtain ⟨d,op,_,_,_,_⟩:=o;intro ev;dsimp only at h
 cases op with
 | move x=>exact ⟨.pure (ev x),trivial,rfl⟩
 | assign x=>exact ⟨.pure (ev x),trivial,rfl⟩
 | load t a=>exact ⟨_,Mild.loadAt t (ev a),rfl⟩
 | slice t x lo hi mx=>exact ⟨_,Mild.sliceAt _ _ _ _ _,rfl⟩
 | indexAddr t x i=>exact ⟨_,Mild.indexAt _ _ _,rfl⟩
 | buildSlice t n ps=>exact ⟨_,Mild.buildSlice _ _ _,rfl⟩
 | box t x=>exact ⟨_,Mild.box _ _,rfl⟩
 | alloc t=>exact ⟨_,Mild.alloc _,rfl⟩
 | call c =>
  obtain ⟨cl,ar,ty⟩:=c
  cases cl with
  | builtin b=>cases b with
   | len=>exact ⟨_,Mild.len_ _ _ _,rfl⟩
   | min=>exact ⟨_,Mild.min_ _ _ _,rfl⟩
   | _=>cases h
  | _=>cases h
 | _=>cases h
section
variable {P:Program} {ops:Array Oper} {Q:Exit→Act→World→Prop} {md:Region.Mode} {S R:World→Prop}
theorem wpOp_mild (hR:Calmly R) {j:Nat} {oj:Oper} (hj:ops[j]?=some oj) (hm:MildOp oj) {K:Act→World→Prop} {a:Act} {w:World} (hRw:R w) (h:wpOp P ops Q j K a w):wpOp P ops Q j (fun a' w'=>R w'∧K a' w') a w:=by
 unfold wpOp at *;simp only [hj] at *
 split
 ·rename_i hw;simp only [hw,if_true] at h;rcases h with h | h
  ·left
   unfold Oper.wp at *;obtain ⟨s,hs,he⟩:=hm a.eval;have hr:(execOp a.eval oj).run P w=(s.run P w).andThen (fun v w'=>.ok (.value v) w'):=by rw [he];exact Sem.run_bind P w s _
   rw [hr] at h ⊢
   cases e:s.run P w with
   | ok v w'=>rw [e] at h;exact ⟨Mild.run hR s w hs hRw v w' e,h⟩
   | halt x w'=>rw [e] at h;cases x <;> exact h
  ·exact .inr h
 ·rename_i hw;simp only [hw] at h;exact ⟨hRw,h⟩
def keptB (md:Region.Mode) (ops:Array Oper) (listed:Array Bool) (i:Nat) (B:List Nat):Bool :=
 (B.all fun j=>!listed.getD j true&&!(j==i))&&(List.range ops.size).all fun j=>j==i || listed.getD j true || match ops[j]? with
  | some o=>if B.contains j then o.after.any (fun e=>Region.binds md e&&(e.on==i || B.contains e.on)) else mildB o.op
  | none=>true
theorem first_mild (hR:Calmly R) {B:List Nat} {i:Nat} {oi:Oper} {v:Value} (hi:ops[i]?=some oi) (hsel:∀(j:Nat) (o:Oper) cs b,ops[j]?=some o→o.op≠.select cs b)
  (hQ:∀c a w,Q (.panic c) (a.put oi.dst v) w→Q (.panic c) a w) (hB2:∀j∈B,∀oj,ops[j]?=some oj→∃e∈oj.after,Region.binds md e=true∧(e.on=i∨e.on∈B)) :
  ∀(fuel:Nat) (listed:Array Bool) (a:Act) (w:World),
   (∀j oj,ops[j]?=some oj→j≠i→listed.getD j true=false→(∀e∈oj.after,Region.binds md e=true→e.on≠i)→oi.apart ops oj=true) →
   (∀j oj,ops[j]?=some oj→j≠i→listed.getD j true=false→j ∉ B→MildOp oj)→(∀j∈B,listed.getD j true=false) →
   i∈Region.ready md ops listed→YieldsIf P ops R oi v a→R w→S w →
   wpAnyH P md ops Q S fuel (listed.setIfInBounds i true) (a.put oi.dst v) w→wpAnyH P md ops Q S (fuel+1) listed a w:=by
 intro fuel
 induction fuel with
 | zero =>
  intro listed a w _ _ _ hr hy hRw hS H;refine ⟨fun h=>(by rw [h] at hr;cases hr),fun j hj=>?_⟩;by_cases hji:j=i
  ·subst hji;exact hy.wpOp hi hRw ⟨hS,H⟩
  ·have:=ready_mono hj hji;rw [H.1] at this;cases this
 | succ fuel ih =>
  intro listed a w hfree hmild hB1 hr hy hRw hS H;refine ⟨fun h=>(by rw [h] at hr;cases hr),fun j hj=>?_⟩;by_cases hji:j=i
  ·subst hji;exact hy.wpOp hi hRw ⟨hS,H⟩
  ·have h1:=H.2 j (ready_mono hj hji);obtain ⟨hjun,oj,hoj,hall⟩:=mem_ready.1 hj;have hi0:=(mem_ready.1 hr).1
   have hoff:∀k,listed.getD k true=false→listed.getD k false=true→False:=fun k h0 h1=>by
    rcases Nat.lt_or_ge k listed.size with q | q
    ·simp [q] at h0 h1;rw [h0] at h1;cases h1
    ·simp [Array.getElem?_eq_none q] at h1
   have hnot:∀e∈oj.after,Region.binds md e=true→e.on≠i:=fun e he hb heq=>hoff i hi0 (by rw [←heq];exact hall e he hb)
   have hjB:j ∉ B:=fun hB=>by
    obtain ⟨e,he,hb,q | q⟩:=hB2 j hB oj hoj
    ·exact hnot e he hb q
    ·exact hoff _ (hB1 _ q) (hall e he hb)
   have h2:=wpOp_mild hR hoj (hmild j oj hoj hji hjun hjB) hRw (wpOp_putIf hoj (hfree j oj hoj hji hjun hnot) (fun cs b=>hsel i oi cs b hi) (fun cs b=>hsel j oj cs b hoj) hQ hy h1)
   have un:∀k,k≠i→(listed.setIfInBounds j true).getD k true=false→listed.getD k true=false:=fun k _ hun=>by
    by_cases hjk:j=k
    ·subst hjk;exact hjun
    ·rw [getD_set_ne true hjk] at hun;exact hun
   refine wpOp_mono (fun a' w' h3=>⟨h3.2.2.1,ih (listed.setIfInBounds j true) a' w' (fun k ok hk hki hun hno=>hfree k ok hk hki (un k hki hun) hno) (fun k ok hk hki hun hkB=>hmild k ok hk hki (un k hki hun) hkB) (fun k hk=>?_) (ready_mono hr (Ne.symm hji)) h3.2.1 h3.1 h3.2.2.1 ?_⟩) h2
   ·rw [getD_set_ne true (fun e=>hjB (by rw [e];exact hk))];exact hB1 k hk
   ·rw [Array.setIfInBounds_comm _ _ hji];exact h3.2.2.2
theorem wpAnyH_takeM (R:World→Prop) (hR:Calmly R) (B:List Nat) {i:Nat} {oi:Oper} {v:Value} {fuel:Nat} {listed:Array Bool} {a:Act} {w:World} (hi:ops[i]?=some oi)
  (hs:Region.noSelect ops=true) (hf:Region.free md ops listed i=true) (hb:keptB md ops listed i B=true) (hr:(Region.ready md ops listed).contains i=true)
  (hQ:∀c a w,Q (.panic c) (a.put oi.dst v) w→Q (.panic c) a w) (hy:YieldsIf P ops R oi v a) (hRw:R w) (hS:S w)
  (h:wpAnyH P md ops Q S fuel (listed.setIfInBounds i true) (a.put oi.dst v) w):wpAnyH P md ops Q S (fuel+1) listed a w:=by
 simp only [keptB,Bool.and_eq_true,List.all_eq_true,Bool.not_eq_true',List.mem_range,beq_eq_false_iff_ne] at hb;obtain ⟨b0,b2⟩:=hb;have b1:∀j∈B,listed.getD j true=false:=fun j hj=>(b0 j hj).1
 refine first_mild hR hi (Region.noSelect_spec hs) hQ (fun j hj oj hoj=>?_) fuel listed a w (Region.free_spec hi hf) (fun j oj hoj hji hun hjB=>?_) b1 (by simpa using hr) hy hRw hS h
 ·have:=b2 j (Array.getElem?_eq_some_iff.1 hoj).1;rw [hoj,b1 j hj] at this;simp only [Bool.or_false,Bool.or_eq_true,beq_iff_eq,(b0 j hj).2,false_or] at this;rw [if_pos (by simpa using hj)] at this;obtain ⟨e,he,hb⟩:=Array.any_eq_true'.1 this;simp only [Bool.and_eq_true,Bool.or_eq_true,beq_iff_eq] at hb;exact ⟨e,he,hb.1,hb.2.imp id (fun q=>by simpa using q)⟩
 ·have:=b2 j (Array.getElem?_eq_some_iff.1 hoj).1;rw [hoj,hun] at this;simp only [Bool.or_false,Bool.or_eq_true,beq_iff_eq,hji,false_or] at this;rw [if_neg (by simpa using hjB)] at this;exact mildB_spec this
end
theorem calm_cell (p:Addr) (v:Value):Calmly (fun w=>w.cell? p=some v) :=
 ⟨fun w o h=>by rw [World.cell?_alloc_lt _ _ _ (World.block_lt_of_cell? w p h)];exact h,fun _ h=>h⟩
end Go.Proofs.YtifhejahbbnkiaaGreat
namespace Go.Proofs.YtifhejahbbnkiaaGreat
open Go.RowKit
theorem rs_len (op:Int):(rsF op).1.length=3:=by
 unfold rsF
 (repeat' split) <;> rfl
theorem arr3_cells (l:List Int) (h:l.length=3):#[Value.int .i64 (l.getD 0 0),.int .i64 (l.getD 1 0),.int .i64 (l.getD 2 0)]=(icells l).toArray:=by
 match l,h with
 | [a,b,c],_=>rfl
theorem arr3_get {w:World} {g:Nat} {l:List Int} (h:Blk w g 162 (icells l).toArray) {i:Nat} (hi:i<l.length):w.cell? ⟨g,i,none⟩=some (.int .i64 (l.getD i 0)):=by
 rw [h.cell];simp [icells,List.getD,hi]
def ss_ok (ks:List Pt) (ss:List Int) (m:Int) (n:Nat):Prop:=shpL ks ss m n=true
set_option maxRecDepth 100000 in
set_option maxHeartbeats 4000000 in
theorem rlCollect_c (p:Pt):∀(w:World) (F:Nat→Prop) (KA:Option Addr) (kc gv c gi d:Nat) (s s0:Int) (m n:Nat) (vs ms:List Int),PtK w F p KA kc→¬F gv→¬F gi→gv≠gi→VBlk w gv vs→VBlk w gi ms→shp p s0 m n=true→vs.length=n+1→ms.length=m+1→n≤1000→m≤1000 →
  Calls Tryz.prog 108 #[pv p KA kc,.int .i64 s,.slice (some ⟨gv,0,none⟩) vs.length c,.slice (some ⟨gi,0,none⟩) ms.length d] w fun e w'=>e=.returned (.tuple #[])∧VBlk w' gv (colV (occ p s) vs)∧VBlk w' gi (colI (occI p) ms)∧Upd (fun k=>k=gv∨k=gi) w w':=by
 induction p using Pt.ind with
 | h p ih =>
  intro w F KA kc gv c gi d s s0 m n vs ms hp hFv hFi hne hgv hgi hsh hvl hml hn hm;have HI:=h_ ih;obtain ⟨W,HW⟩:=nm (w.alloc (.cells #[.int .i64 p.v,.int .i64 p.op,.int .i64 p.imm,.int .i64 p.iv,.slice KA p.kids.length kc] 38));have hU:Upd Non w W:=by rw [←HW.out];exact Upd.refl.alloc _
  have hb:Blk W w.heap.size 38 #[.int .i64 p.v,.int .i64 p.op,.int .i64 p.imm,.int .i64 p.iv,.slice KA p.kids.length kc]:=by rw [←HW.out];exact Blk.new _ _ _
  have hsz:W.heap.size=w.heap.size+1:=by rw [←HW.out];simp
  have e0:=HW.out;have hvlt:gv<w.heap.size:=Blk.lt hgv;have hilt:gi<w.heap.size:=Blk.lt hgi;have hgv:VBlk W gv vs:=Blk.upd hgv hU (fun f=>f);have hgi:VBlk W gi ms:=Blk.upd hgi hU (fun f=>f);have hp:=PtK.upd hU (fun _ _ _ f=>f) p KA kc hp;have HSV:=h_ (@shp_var p);have HSO:=h_ (@shp_op p);have HIV:=h_ (@occI_var p s0 m n hsh);have HIO:=h_ (@occI_op p);have HOV:=h_ (fun h=>@occ_var p h s);have HOO:=h_ (fun h=>@occ_op p h s);have HND:=h_ ((shp_nodes _ _ _ _ hsh).2 p (by rw [nodes_eq];simp));have HSH:=h_ hsh;obtain ⟨RV,HRV⟩:=nm (occ p s);obtain ⟨RI,HRI⟩:=nm (occI p);rw [HRV.out,HRI.out];have c0:=hb.cell 0;have c1:=hb.cell 1;have c3:=hb.cell 3;have c4:=hb.cell 4;have h2U:Upd (fun k=>k=gv∨k=gi) w W:=hU.mono (fun _ _ f=>f.elim);unfold pv;obtain ⟨v,Hv⟩:=nm p.v;obtain ⟨op,Hop⟩:=nm p.op;obtain ⟨imm,Him⟩:=nm p.imm;obtain ⟨iv,Hiv⟩:=nm p.iv;obtain ⟨k,Hk⟩:=nm p.kids.length;rw [Hv.out] at c0 e0 hb;rw [Hop.out] at c1 e0 hb;rw [Him.out] at e0 hb;rw [Hiv.out] at c3 e0 hb HND;rw [Hk.out] at c4 e0 hb HND;rw [Hv.out,Hop.out,Him.out,Hiv.out,Hk.out]
  obtain ⟨vn,Hvn⟩:=nm vs.length;obtain ⟨mn,Hmn⟩:=nm ms.length;rw [Hvn.out] at hvl ⊢;rw [Hmn.out] at hml ⊢;subst hvl;subst hml;clear ih hsh;by_cases hv:v=0
  ·subst hv
   have hso:(oSortsF op).2.2=true∧k=(oSortsF op).1.length∧shpL p.kids (oSortsF op).1 m n=true:=by
    have h:=HSH.out;rw [HSO.out Hv.out,Bool.and_eq_true,decide_eq_true_eq,Hop.out,Hk.out] at h;exact ⟨h.1.1,h.1.2.1,h.2⟩
   obtain ⟨ho,hk,hsl⟩:=hso;obtain ⟨_,hk3,hrs⟩:=rs_parts ho;obtain ⟨_,hivr,_⟩:=HND.out;have hivr:=hivr (by omega);obtain ⟨j,rfl⟩:∃j:Nat,iv=(j:Int):=Int.eq_ofNat_of_zero_le hivr.1;have hjm:j<ms.length:=by rw [Hmn.out];omega
   have hRI:Hid (RI=(j:Int)::occIL p.kids):=by show _=_;rw [←HRI.out,HIO.out Hv.out,Hiv.out]
   have hRV:Hid (RV=occL p.kids (oSortsF op).1):=by show _=_;rw [←HRV.out,HOO.out Hv.out,Hop.out]
   have hkk:k≤3:=by omega
   have HSL:=h_ hsl;have HRS:Hid (∀i,i<k→(rsF op).1.getD i 0=(oSortsF op).1.getD i 0):=fun i hi=>by rw [hrs i (by omega),getD_of (by omega:i<(oSortsF op).1.length)]
   have hz:=VBlk.cell hgi hjm;have hfr:=Blk.frozen hgi;obtain ⟨W2,HW2⟩:=nm (W.setCell ⟨gi,j,none⟩ (.int .i64 1));have hgi2:VBlk W2 gi (ms.set j 1):=by rw [←HW2.out];exact VBlk.set_ hgi j 1
   have u2:Upd (·=gi) W W2:=by rw [←HW2.out];exact updCell _ _ _ _
   have e2:=HW2.out;have hgv2:VBlk W2 gv vs:=Blk.upd hgv u2 hne;have hb2:=hb.upd u2 (by omega);have hp2:=PtK.upd u2 (fun q _ hq e=>hFi (by rw [←e];exact hq)) p KA kc hp;have hs2:=u2.size;have HU2:Upd (fun q=>q=gv∨q=gi) w W2:=h2U.trans u2 (fun q _ h=>.inr h);have d1:=hb2.cell 1;have d4:=hb2.cell 4;have CS:=h_ (rlSorts_c op W2);clear HSV HSO HIV HIO HOV HOO HND HSH HRV HRI hrs ho hk3 hsl hb hp hgv hgi hk;go_enter Tryz.func108,Tryz.ntmps108;go_wp2_with fail
   refine CS.out.mono ?_;rintro e w3 ⟨rfl,u3⟩;obtain ⟨l3,Hl3⟩:=nm (rsF op).1;have hl3:=rs_len op;have ha3:=arr3_cells (rsF op).1 hl3;rw [Hl3.out] at hl3 ha3 HRS;rw [Hl3.out];obtain ⟨x0,Hx0⟩:=nm (l3.getD 0 0);obtain ⟨x1,Hx1⟩:=nm (l3.getD 1 0);obtain ⟨x2,Hx2⟩:=nm (l3.getD 2 0);rw [Hx0.out,Hx1.out,Hx2.out] at ha3;rw [Hx0.out,Hx1.out,Hx2.out];have HA3:=h_ ha3;obtain ⟨W4,HW4⟩:=nm (w3.alloc (.cells #[.int .i64 x0,.int .i64 x1,.int .i64 x2] 162));have e4:=HW4.out;have u4:Upd Non w3 W4:=by rw [←e4];exact Upd.refl.alloc _
   have hb4:Blk W4 w3.heap.size 162 (icells l3).toArray:=by rw [←ha3,←e4];exact Blk.new _ _ _
   have u24:=u3.then_non u4;have hb2:=hb2.upd u24 (fun f=>f);have hs3:=u3.size;have d4:=hb2.cell 4;have hgi4:VBlk W4 gi (ms.set j 1):=Blk.upd hgi2 u24 (fun f=>f);have hgv4:VBlk W4 gv vs:=Blk.upd hgv2 u24 (fun f=>f);have hp4:=PtK.upd u24 (fun _ _ _ f=>f) p KA kc hp2;have HU4:=HU2.then_non u24;have HSS:Hid (ss_ok p.kids (oSortsF op).1 m n):=HSL.out;have HM0:Hid ((ms.set j 1).length=m+1∧vs.length=n+1):=⟨by rw [List.length_set,Hmn.out],Hvn.out⟩;obtain ⟨ss,Hss⟩:=nm (oSortsF op).1;rw [Hss.out] at HSS HRS hRV;have hgi4:=h_ hgi4;have hgv4:=h_ hgv4;obtain ⟨ms1,Hms1⟩:=nm (ms.set j 1);rw [Hms1.out] at HM0 hgi4;have hl3k:k≤l3.length:=by omega
   have hsz4:W4.heap.size=w3.heap.size+1:=by rw [←HW4.out];simp
   clear CS ha3 hgi2 hgv2 hp2 hz hfr HSL hl3 hb2 d1;go_wp2_with fail
   go_loopg [10,11,36] k (fun g _ _ i wr=>∃q:Nat,Hid (g=k - q)∧q≤k∧i=.int .i64 q∧Hid (VBlk wr gv (colV (occL (p.kids.take q) ss) vs))∧Hid (VBlk wr gi (colI (occIL (p.kids.take q)) ms1))∧Upd (fun q=>q=gv∨q=gi) W4 wr)
   case atStart=>exact ⟨0,rfl,by omega,rfl,hgv4.out,hgi4.out,Upd.refl⟩
   case round =>
    obtain ⟨q,Hg,hq,rfl,HV,HM,hu⟩:=hrel;by_cases hlt:q<k
    ·have hql:q<p.kids.length:=by rw [Hk.out];exact hlt
     obtain ⟨b,o,rfl,hF,hbw,KB,kd,h0,h1,h2,h3,h4,h5⟩:=(PtK.upd hu (fun q _ hq e=>by rcases e with rfl | rfl;exact hFv hq;exact hFi hq) p KA kc hp4).at_ hql
     have HTK:Hid (p.kids.take (q+1)=p.kids.take q++[p.kids[q]]∧(p.kids.take q).length=q):=⟨take_snoc' hql,by rw [List.length_take];omega⟩;have hmem:=List.getElem_mem hql;have hsk:=shpL_at hql HSS.out;generalize p.kids[q]=t at *;have hb4r:=hb4.upd hu (by omega);have a0:=arr3_get hb4r (i:=q) (by omega);have HRQ:=h_ (HRS.out q hlt);obtain ⟨sq,Hsq⟩:=nm (l3.getD q 0);rw [Hsq.out] at a0 HRQ;obtain ⟨W5,HW5⟩:=nm (wr.alloc (.cells #[.int .i64 t.v,.int .i64 t.op,.int .i64 t.imm,.int .i64 t.iv,.slice KB t.kids.length kd] 38));have e5:=HW5.out;have u5:Upd Non wr W5:=by rw [←e5];exact Upd.refl.alloc _
     have bt:Blk W5 wr.heap.size 38 #[.int .i64 t.v,.int .i64 t.op,.int .i64 t.imm,.int .i64 t.iv,.slice KB t.kids.length kd]:=by rw [←e5];exact Blk.new _ _ _
     obtain ⟨wD,HwD⟩:=nm W5.drew;have uD:Upd Non W5 wD:=by rw [←HwD.out];exact Upd.refl.drew
     have u6:=u5.then_non uD;have hsu:=hu.size;have hs5:=u5.size;have C1:=h_ (HI.out t hmem wD F KB kd gv c gi d sq (ss.getD q 0) m n (colV (occL (p.kids.take q) ss) vs) (colI (occIL (p.kids.take q)) ms1) (PtK.upd u6 (fun _ _ _ f=>f) _ _ _ h5) hFv hFi hne (Blk.upd HV.out u6 (fun f=>f)) (Blk.upd HM.out u6 (fun f=>f)) hsk (by rw [colV_len,HM0.out.2]) (by rw [colI_len,HM0.out.1]) hn hm)
     rw [colV_len,colI_len,HM0.out.1,HM0.out.2] at C1;unfold pv at C1;have HV2:Hid (colV (occ t sq) (colV (occL (p.kids.take q) ss) vs)=colV (occL (p.kids.take (q+1)) ss) vs):=by show _=_;rw [HTK.out.1,occL_snoc,HTK.out.2,colV_snoc,HRQ.out]
     have HM2:Hid (colI (occI t) (colI (occIL (p.kids.take q)) ms1)=colI (occIL (p.kids.take (q+1))) ms1):=by show _=_;rw [HTK.out.1,occIL_snoc,colI_snoc]
     rw [HV2.out,HM2.out] at C1
     have SS:∀w',Upd (fun q=>q=gv∨q=gi) W5 w'→w'.cell? ⟨wr.heap.size,0,none⟩=some (.int .i64 t.v)∧w'.cell? ⟨wr.heap.size,1,none⟩=some (.int .i64 t.op)∧w'.cell? ⟨wr.heap.size,2,none⟩=some (.int .i64 t.imm)∧w'.cell? ⟨wr.heap.size,3,none⟩=some (.int .i64 t.iv)∧w'.cell? ⟨wr.heap.size,4,none⟩=some (.slice KB t.kids.length kd)∧w'.cell? ⟨w3.heap.size,q,none⟩=some (.int .i64 sq):=fun w' u =>
      ⟨u_ (bt.cell 0) u (by omega),u_ (bt.cell 1) u (by omega),u_ (bt.cell 2) u (by omega),u_ (bt.cell 3) u (by omega),u_ (bt.cell 4) u (by omega),u_ (u_ a0 u5 (fun f=>f)) u (by omega)⟩
     have HS:=h_ SS;have q0:=bt.cell 0;have q1:=bt.cell 1;have q2:=bt.cell 2;have q3:=bt.cell 3;have q4:=bt.cell 4;have hq3:(q:Int)<3:=by omega
     have hq0:(0:Int)≤(q:Int):=by omega
     clear SS h5 HV HM bt HTK hmem hsk;go_wp2_with fail
     refine wp_region_held_drew (S:=fun w'=>w'.cell? ⟨wr.heap.size,0,none⟩=some (.int .i64 t.v)∧w'.cell? ⟨wr.heap.size,1,none⟩=some (.int .i64 t.op)∧w'.cell? ⟨wr.heap.size,2,none⟩=some (.int .i64 t.imm)∧w'.cell? ⟨wr.heap.size,3,none⟩=some (.int .i64 t.iv)∧w'.cell? ⟨wr.heap.size,4,none⟩=some (.slice KB t.kids.length kd)∧w'.cell? ⟨w3.heap.size,q,none⟩=some (.int .i64 sq)) (by kernel_rfl) (by rw [HwD.out];exact HS.out _ (uD.mono (fun _ _ f=>f.elim))) (fun hHeld=>?_)
     rw [HwD.out] at hHeld ⊢;refine wpT 0 ?_;(try simp only [y_,z_]);refine wpT 1 ?_;(try simp only [y_,z_]);refine wpT 2 ?_;(try simp only [y_,z_]);refine wpT 3 ?_;(try simp only [y_,z_]);refine wpT 4 ?_;(try simp only [y_,z_]);refine wpT 5 ?_;(try simp only [y_,z_]);refine aR_ (rs:=[6]) (by kernel_rfl) (by simp) ?_;refine aC_ rfl (fun K hK=>?_) aN_;go_simp;refine C1.out.mono ?_;rintro e w7 ⟨rfl,hv7,hm7,hu7⟩;have u7:Upd (fun q=>q=gv∨q=gi) W5 w7:=(uD.mono (T:=fun q=>q=gv∨q=gi) (fun _ _ f=>f.elim)).trans hu7 (fun _ _ h=>h);have HV7:=h_ hv7;have HM7:=h_ hm7;go_wp2_with fail
     refine hK.out _ _ ?_ (fun hHeld=>?_)
     ·exact HS.out _ u7
     clear hK K;(try simp only [y_,z_]);refine aD_ (by kernel_rfl) ?_ _;have HU7:Upd (fun q=>q=gv∨q=gi) W4 w7:=(hu.then_non u5).trans u7 (fun _ _ h=>h);clear hv7 hm7 C1 HS;go_wp2_with fail
     go_roundg (k - (q+1))
     case measure=>rw [Hg.out];omega
     case rel=>exact ⟨q+1,rfl,by omega,by go_num,HV7.out,HM7.out,HU7⟩
    ·obtain rfl:k=q:=by omega
     have HT:Hid (p.kids.take k=p.kids):=List.take_of_length_le (by rw [Hk.out];exact Nat.le_refl _);rw [HT.out] at HV HM;have HU:=HU4.trans hu (fun _ _ h=>h);go_wp2_with fail
     go_end0
     rw [hRV.out,hRI.out];refine ⟨rfl,HV.out,?_,HU⟩;show VBlk _ gi (colI (occIL p.kids) (ms.set (j:Int).toNat 1));rw [Int.toNat_natCast,Hms1.out];exact HM.out
  ·have hsv:1≤v∧v≤n:=by
    have h:=HSH.out;rw [HSV.out (by rw [Hv.out];exact hv),decide_eq_true_eq,Hv.out] at h;omega
   obtain ⟨j,rfl⟩:∃j:Nat,v=(j:Int):=Int.eq_ofNat_of_zero_le (by omega);have hjn:j<vs.length:=by rw [Hvn.out];omega
   have hRI:Hid (RI=[]):=by show _=_;rw [←HRI.out];exact HIV.out (by rw [Hv.out];exact hv)
   have hRV:Hid (RV=[((j:Int),s)]):=by show _=_;rw [←HRV.out,HOV.out (by rw [Hv.out];exact hv),Hv.out]
   have hz:=VBlk.cell hgv hjn;have hfr:=Blk.frozen hgv;have hset:=VBlk.set_ hgv j (orB (vs.getD j 0) s);obtain ⟨z,Hz⟩:=nm (vs.getD j 0);rw [Hz.out] at hz hset;unfold orB at hset;have hj0:(0:Int)<(j:Int):=by omega
   clear HSV HSO HIV HIO HOV HOO HND HSH HRV HRI hb;go_enter Tryz.func108,Tryz.ntmps108;go_wp2_with fail
   refine bodyPost_ret (results_none rfl _ _ _) rfl ?_;rw [hRV.out,hRI.out];refine ⟨rfl,?_,Blk.upd hgi (updCell _ _ _ _) (fun e=>hne e.symm),h2U.trans (updCell _ _ _ _) (fun q _ e=>.inl e)⟩;show VBlk _ gv (vs.set (j:Int).toNat (orB (vs.getD (j:Int).toNat 0) s));rw [Int.toNat_natCast,Hz.out];exact hset
theorem nm_cases (x:Int):(97≤x∧x≤122)∨(48≤x∧x≤57)∨x=45∨(x<48∧x≠45)∨(57<x∧x<97)∨122<x:=by omega
theorem all_take {s:ByteArray} {k:Nat} (hk:k<s.size) (h:((kx s).take k).all nmCh=true) (c:nmCh ((kx s).getD k 0)=true):((kx s).take (k+1)).all nmCh=true:=by
 have hl:k<(kx s).length:=by rw [kx_len];exact hk
 rw [List.take_add_one,List.getElem?_eq_getElem hl,List.all_append,h];rw [getD_of hl] at c;simp [c]
theorem all_bad {s:ByteArray} {k:Nat} (hk:k<s.size) (c:nmCh ((kx s).getD k 0)=false):nameF s=false:=by
 have hl:k<(kx s).length:=by rw [kx_len];exact hk
 rw [getD_of hl] at c;unfold nameF
 have : s.data.toList.all nmCh=false:=by
  rw [Bool.eq_false_iff];intro h;rw [List.all_eq_true] at h;have:=h _ (List.getElem_mem hl);rw [c] at this;cases this
 rw [this];rfl
theorem all_ok {s:ByteArray} (h:((kx s).take s.size).all nmCh=true):nameF s=decide (1≤s.size∧s.size≤16):=by
 have hl:(kx s).length≤s.size:=by rw [kx_len];exact Nat.le_refl _
 rw [List.take_of_length_le hl] at h;unfold nameF;rw [show s.data.toList.all nmCh=true from h];rfl
set_option maxRecDepth 100000 in
set_option maxHeartbeats 4000000 in
theorem rlValidName_c (s:ByteArray) (w:World) (hs:s.size≤1000000000000000):Calls Tryz.prog 106 #[.string s] w fun e w'=>e=.returned (.bool (nameF s))∧∃n,w'=w.drewN n:=by
 obtain ⟨n,Hn⟩:=nm s.size;rw [Hn.out] at hs;have hsn:=Hn.out;obtain ⟨R,HR⟩:=nm (nameF s);rw [HR.out];go_enter Tryz.func106,Tryz.ntmps106;go_wp2_with fail
 go_loopg [3,4] n (fun g i _ wr=>∃k:Nat,Hid (g=n - k)∧k≤n∧i=.int .i64 k∧Hid (((kx s).take k).all nmCh=true)∧∃q,wr=w.drewN q)
 case atStart=>exact ⟨0,rfl,by omega,rfl,by show _=_;simp,0,rfl⟩
 case round =>
  obtain ⟨k,Hg,hk,rfl,HA,n1,rfl⟩:=hrel;by_cases hlt:k<n
  ·have hks:k<s.size:=by rw [Hn.out];exact hlt
   have HOK:=h_ (fun c=>all_take hks HA.out c);have HBAD:=h_ (fun c=>@all_bad s k hks c);rw [HR.out] at HBAD;have hkl:k<(kx s).length:=by rw [kx_len];exact hks
   rw [getD_of hkl,show (kx s)[k]=s[k]'hks from rfl] at HOK HBAD;have HNC:Hid (nmCh (s[k]'hks)=decide (97≤(s[k]'hks).toNat∧(s[k]'hks).toNat≤122∨48≤(s[k]'hks).toNat∧(s[k]'hks).toNat≤57∨(s[k]'hks).toNat=45)):=rfl
   obtain ⟨x,Hx⟩:=nm (((s[k]'hks).toNat:Nat):Int);have HX:=Hx.out;rcases nm_cases x with hc | hc | hc | hc | hc | hc
   ·have f1:decide ((((s[k]'hks).toNat:Nat):Int)<97)=false:=by rw [Hx.out];exact dF_ (by omega)
    have f2:decide (122<(((s[k]'hks).toNat:Nat):Int))=false:=by rw [Hx.out];exact dF_ (by omega)
    have hok:nmCh (s[k]'hks)=true:=by rw [HNC.out,decide_eq_true_eq];omega
    have HOK2:=h_ (HOK.out hok);clear hok;clear hc HX;go_wp2_with fail
    go_roundg (n - (k+1))
    case measure=>rw [Hg.out];omega
    case rel=>exact ⟨k+1,rfl,by omega,by go_num,HOK2.out,_,rfl⟩
   ·have f1:decide ((((s[k]'hks).toNat:Nat):Int)<97)=true:=by rw [Hx.out];exact dT_ (by omega)
    have f3:decide ((((s[k]'hks).toNat:Nat):Int)<48)=false:=by rw [Hx.out];exact dF_ (by omega)
    have f4:decide (57<(((s[k]'hks).toNat:Nat):Int))=false:=by rw [Hx.out];exact dF_ (by omega)
    have hok:nmCh (s[k]'hks)=true:=by rw [HNC.out,decide_eq_true_eq];omega
    have HOK2:=h_ (HOK.out hok);clear hok;clear hc HX;go_wp2_with fail
    go_roundg (n - (k+1))
    case measure=>rw [Hg.out];omega
    case rel=>exact ⟨k+1,rfl,by omega,by go_num,HOK2.out,_,rfl⟩
   ·have f1:decide ((((s[k]'hks).toNat:Nat):Int)<97)=true:=by rw [Hx.out];exact dT_ (by omega)
    have f3:decide ((((s[k]'hks).toNat:Nat):Int)<48)=true:=by rw [Hx.out];exact dT_ (by omega)
    have f5:((((s[k]'hks).toNat:Nat):Int) != 45)=false:=by rw [Hx.out];simp [hc]
    have hok:nmCh (s[k]'hks)=true:=by rw [HNC.out,decide_eq_true_eq];omega
    have HOK2:=h_ (HOK.out hok);clear hok;clear hc HX;go_wp2_with fail
    go_roundg (n - (k+1))
    case measure=>rw [Hg.out];omega
    case rel=>exact ⟨k+1,rfl,by omega,by go_num,HOK2.out,_,rfl⟩
   ·have f1:decide ((((s[k]'hks).toNat:Nat):Int)<97)=true:=by rw [Hx.out];exact dT_ (by omega)
    have f3:decide ((((s[k]'hks).toNat:Nat):Int)<48)=true:=by rw [Hx.out];exact dT_ (by omega)
    have f5:((((s[k]'hks).toNat:Nat):Int) != 45)=true:=by rw [Hx.out];simp;omega
    have hbad:nmCh (s[k]'hks)=false:=by rw [HNC.out,decide_eq_false_iff_not];omega
    have HB:=h_ (HBAD.out hbad);clear hbad;clear hc HX;go_wp2_with fail
    go_ret;exact ⟨by rw [HB.out];rfl,_,rfl⟩
   ·have f1:decide ((((s[k]'hks).toNat:Nat):Int)<97)=true:=by rw [Hx.out];exact dT_ (by omega)
    have f3:decide ((((s[k]'hks).toNat:Nat):Int)<48)=false:=by rw [Hx.out];exact dF_ (by omega)
    have f4:decide (57<(((s[k]'hks).toNat:Nat):Int))=true:=by rw [Hx.out];exact dT_ (by omega)
    have f5:((((s[k]'hks).toNat:Nat):Int) != 45)=true:=by rw [Hx.out];simp;omega
    have hbad:nmCh (s[k]'hks)=false:=by rw [HNC.out,decide_eq_false_iff_not];omega
    have HB:=h_ (HBAD.out hbad);clear hbad;clear hc HX;go_wp2_with fail
    go_ret;exact ⟨by rw [HB.out];rfl,_,rfl⟩
   ·have f1:decide ((((s[k]'hks).toNat:Nat):Int)<97)=false:=by rw [Hx.out];exact dF_ (by omega)
    have f2:decide (122<(((s[k]'hks).toNat:Nat):Int))=true:=by rw [Hx.out];exact dT_ (by omega)
    have f3:decide ((((s[k]'hks).toNat:Nat):Int)<48)=false:=by rw [Hx.out];exact dF_ (by omega)
    have f4:decide (57<(((s[k]'hks).toNat:Nat):Int))=true:=by rw [Hx.out];exact dT_ (by omega)
    have f5:((((s[k]'hks).toNat:Nat):Int) != 45)=true:=by rw [Hx.out];simp;omega
    have hbad:nmCh (s[k]'hks)=false:=by rw [HNC.out,decide_eq_false_iff_not];omega
    have HB:=h_ (HBAD.out hbad);clear hbad;clear hc HX;go_wp2_with fail
    go_ret;exact ⟨by rw [HB.out];rfl,_,rfl⟩
  ·obtain rfl:n=k:=by omega
   have HRE:Hid (R=decide (1≤n∧n≤16)):=by
    have:=HA.out;rw [←Hn.out] at this;show _=_;rw [←HR.out,all_ok this,Hn.out]
   by_cases h1:1≤n
   ·have f1:decide ((1:Int)≤(n:Int))=true:=dT_ (by omega);by_cases h2:n≤16
    ·have f2:decide ((n:Int)≤16)=true:=dT_ (by omega);have HR2:Hid (R=true):=by show _=_;rw [HRE.out];exact dT_ ⟨h1,h2⟩
     clear h1 h2;go_wp2_with fail
     go_ret;exact ⟨by rw [HR2.out];rfl,_,rfl⟩
    ·have f2:decide ((n:Int)≤16)=false:=dF_ (by omega);have HR2:Hid (R=false):=by show _=_;rw [HRE.out];exact dF_ (by omega)
     clear h1 h2;go_wp2_with fail
     go_ret;exact ⟨by rw [HR2.out];rfl,_,rfl⟩
   ·have f1:decide ((1:Int)≤(n:Int))=false:=dF_ (by omega);have HR2:Hid (R=false):=by show _=_;rw [HRE.out];exact dF_ (by omega)
    clear h1;go_wp2_with fail
    go_ret;exact ⟨by rw [HR2.out];rfl,_,rfl⟩
set_option maxRecDepth 100000 in
set_option maxHeartbeats 4000000 in
theorem r15validName_c (s:ByteArray) (w:World) (hs:s.size≤1000000000000000):Calls Tryz.prog 85 #[.string s] w fun e w'=>e=.returned (.bool (nameF s))∧∃n,w'=w.drewN n:=by
 obtain ⟨n,Hn⟩:=nm s.size;rw [Hn.out] at hs;have hsn:=Hn.out;obtain ⟨R,HR⟩:=nm (nameF s);rw [HR.out];go_enter Tryz.func85,Tryz.ntmps85;go_wp2_with fail
 go_loopg [3] n (fun g i wr=>∃k:Nat,Hid (g=n - k)∧k≤n∧i=.int .i64 k∧Hid (((kx s).take k).all nmCh=true)∧∃q,wr=w.drewN q)
 case atStart=>exact ⟨0,rfl,by omega,rfl,by show _=_;simp,0,rfl⟩
 case round =>
  obtain ⟨k,Hg,hk,rfl,HA,n1,rfl⟩:=hrel;by_cases hlt:k<n
  ·have hks:k<s.size:=by rw [Hn.out];exact hlt
   have HOK:=h_ (fun c=>all_take hks HA.out c);have HBAD:=h_ (fun c=>@all_bad s k hks c);rw [HR.out] at HBAD;have hkl:k<(kx s).length:=by rw [kx_len];exact hks
   rw [getD_of hkl,show (kx s)[k]=s[k]'hks from rfl] at HOK HBAD;have HNC:Hid (nmCh (s[k]'hks)=decide (97≤(s[k]'hks).toNat∧(s[k]'hks).toNat≤122∨48≤(s[k]'hks).toNat∧(s[k]'hks).toNat≤57∨(s[k]'hks).toNat=45)):=rfl
   obtain ⟨x,Hx⟩:=nm (((s[k]'hks).toNat:Nat):Int);have HX:=Hx.out;rcases nm_cases x with hc | hc | hc | hc | hc | hc
   ·have f1:decide ((((s[k]'hks).toNat:Nat):Int)<97)=false:=by rw [Hx.out];exact dF_ (by omega)
    have f2:decide (122<(((s[k]'hks).toNat:Nat):Int))=false:=by rw [Hx.out];exact dF_ (by omega)
    have hok:nmCh (s[k]'hks)=true:=by rw [HNC.out,decide_eq_true_eq];omega
    have HOK2:=h_ (HOK.out hok);clear hok;clear hc HX;go_wp2_with fail
    go_roundg (n - (k+1))
    case measure=>rw [Hg.out];omega
    case rel=>exact ⟨k+1,rfl,by omega,by go_num,HOK2.out,_,rfl⟩
   ·have f1:decide ((((s[k]'hks).toNat:Nat):Int)<97)=true:=by rw [Hx.out];exact dT_ (by omega)
    have f3:decide ((((s[k]'hks).toNat:Nat):Int)<48)=false:=by rw [Hx.out];exact dF_ (by omega)
    have f4:decide (57<(((s[k]'hks).toNat:Nat):Int))=false:=by rw [Hx.out];exact dF_ (by omega)
    have hok:nmCh (s[k]'hks)=true:=by rw [HNC.out,decide_eq_true_eq];omega
    have HOK2:=h_ (HOK.out hok);clear hok;clear hc HX;go_wp2_with fail
    go_roundg (n - (k+1))
    case measure=>rw [Hg.out];omega
    case rel=>exact ⟨k+1,rfl,by omega,by go_num,HOK2.out,_,rfl⟩
   ·have f1:decide ((((s[k]'hks).toNat:Nat):Int)<97)=true:=by rw [Hx.out];exact dT_ (by omega)
    have f3:decide ((((s[k]'hks).toNat:Nat):Int)<48)=true:=by rw [Hx.out];exact dT_ (by omega)
    have f5:((((s[k]'hks).toNat:Nat):Int) != 45)=false:=by rw [Hx.out];simp [hc]
    have hok:nmCh (s[k]'hks)=true:=by rw [HNC.out,decide_eq_true_eq];omega
    have HOK2:=h_ (HOK.out hok);clear hok;clear hc HX;go_wp2_with fail
    go_roundg (n - (k+1))
    case measure=>rw [Hg.out];omega
    case rel=>exact ⟨k+1,rfl,by omega,by go_num,HOK2.out,_,rfl⟩
   ·have f1:decide ((((s[k]'hks).toNat:Nat):Int)<97)=true:=by rw [Hx.out];exact dT_ (by omega)
    have f3:decide ((((s[k]'hks).toNat:Nat):Int)<48)=true:=by rw [Hx.out];exact dT_ (by omega)
    have f5:((((s[k]'hks).toNat:Nat):Int) != 45)=true:=by rw [Hx.out];simp;omega
    have hbad:nmCh (s[k]'hks)=false:=by rw [HNC.out,decide_eq_false_iff_not];omega
    have HB:=h_ (HBAD.out hbad);clear hbad;clear hc HX;go_wp2_with fail
    go_ret;exact ⟨by rw [HB.out];rfl,_,rfl⟩
   ·have f1:decide ((((s[k]'hks).toNat:Nat):Int)<97)=true:=by rw [Hx.out];exact dT_ (by omega)
    have f3:decide ((((s[k]'hks).toNat:Nat):Int)<48)=false:=by rw [Hx.out];exact dF_ (by omega)
    have f4:decide (57<(((s[k]'hks).toNat:Nat):Int))=true:=by rw [Hx.out];exact dT_ (by omega)
    have f5:((((s[k]'hks).toNat:Nat):Int) != 45)=true:=by rw [Hx.out];simp;omega
    have hbad:nmCh (s[k]'hks)=false:=by rw [HNC.out,decide_eq_false_iff_not];omega
    have HB:=h_ (HBAD.out hbad);clear hbad;clear hc HX;go_wp2_with fail
    go_ret;exact ⟨by rw [HB.out];rfl,_,rfl⟩
   ·have f1:decide ((((s[k]'hks).toNat:Nat):Int)<97)=false:=by rw [Hx.out];exact dF_ (by omega)
    have f2:decide (122<(((s[k]'hks).toNat:Nat):Int))=true:=by rw [Hx.out];exact dT_ (by omega)
    have f3:decide ((((s[k]'hks).toNat:Nat):Int)<48)=false:=by rw [Hx.out];exact dF_ (by omega)
    have f4:decide (57<(((s[k]'hks).toNat:Nat):Int))=true:=by rw [Hx.out];exact dT_ (by omega)
    have f5:((((s[k]'hks).toNat:Nat):Int) != 45)=true:=by rw [Hx.out];simp;omega
    have hbad:nmCh (s[k]'hks)=false:=by rw [HNC.out,decide_eq_false_iff_not];omega
    have HB:=h_ (HBAD.out hbad);clear hbad;clear hc HX;go_wp2_with fail
    go_ret;exact ⟨by rw [HB.out];rfl,_,rfl⟩
  ·obtain rfl:n=k:=by omega
   have HRE:Hid (R=decide (1≤n∧n≤16)):=by
    have:=HA.out;rw [←Hn.out] at this;show _=_;rw [←HR.out,all_ok this,Hn.out]
   by_cases h1:1≤n
   ·have f1:decide ((1:Int)≤(n:Int))=true:=dT_ (by omega);by_cases h2:n≤16
    ·have f2:decide ((n:Int)≤16)=true:=dT_ (by omega);have HR2:Hid (R=true):=by show _=_;rw [HRE.out];exact dT_ ⟨h1,h2⟩
     clear h1 h2;go_wp2_with fail
     go_ret;exact ⟨by rw [HR2.out];rfl,_,rfl⟩
    ·have f2:decide ((n:Int)≤16)=false:=dF_ (by omega);have HR2:Hid (R=false):=by show _=_;rw [HRE.out];exact dF_ (by omega)
     clear h1 h2;go_wp2_with fail
     go_ret;exact ⟨by rw [HR2.out];rfl,_,rfl⟩
   ·have f1:decide ((1:Int)≤(n:Int))=false:=dF_ (by omega);have HR2:Hid (R=false):=by show _=_;rw [HRE.out];exact dF_ (by omega)
    clear h1;go_wp2_with fail
    go_ret;exact ⟨by rw [HR2.out];rfl,_,rfl⟩
set_option maxRecDepth 100000 in
set_option maxHeartbeats 4000000 in
theorem rlVC1_c (n:Int) (b:Nat) (ss:List Int) (A:Option Addr) (c:Nat) (F:Nat→Prop) (w:World) (hb:w.cell? ⟨b,0,none⟩=some (.slice A ss.length c)) (hs:Ints w F A ss) :
  Calls Tryz.prog 170 #[.int .i64 n,.pointer (some ⟨b,0,none⟩)] w fun e w'=>e=.returned (.bool (isValF ss n))∧w=w':=by
 obtain ⟨l,Hl⟩:=nm ss.length;obtain ⟨R,HR⟩:=nm (isValF ss n);have HD:Hid (R=decide (1≤n∧n<(l:Int)∧ss.getD n.toNat 0=1)):=by show _=_;rw [←HR.out,←Hl.out];rfl
 rw [Hl.out] at hb;rw [HR.out];by_cases h1:1≤n
 ·have f1:decide ((1:Int)≤n)=true:=dT_ h1;by_cases h2:n<(l:Int)
  ·have f2:decide (n<(l:Int))=true:=dT_ h2;obtain ⟨j,rfl⟩:∃j:Nat,n=(j:Int):=Int.eq_ofNat_of_zero_le (by omega);have hj:j<ss.length:=by rw [Hl.out];omega
   obtain ⟨g,o,rfl,_,_,hx⟩:=hs.at_ hj;have HE:Hid (R=decide (ss[j]=1)):=by show _=_;rw [HD.out,Int.toNat_natCast,getD_of hj];simp [h1,h2]
   generalize ss[j]=x at *;clear h1;go_enter Tryz.func170,Tryz.ntmps170;go_wp2_with fail
   go_ret;refine ⟨?_,rfl⟩;rw [HE.out];show Ending.returned (Value.bool _)=_
   congr 2
  ·have f2:decide (n<(l:Int))=false:=dF_ h2;have HE:Hid (R=false):=by show _=_;rw [HD.out];exact dF_ (fun q=>h2 q.2.1)
   clear h1 h2;go_enter Tryz.func170,Tryz.ntmps170;go_wp2_with fail
   go_ret;exact ⟨by rw [HE.out];rfl,rfl⟩
 ·have f1:decide ((1:Int)≤n)=false:=dF_ h1;have HE:Hid (R=false):=by show _=_;rw [HD.out];exact dF_ (fun q=>h1 q.1)
  clear h1;go_enter Tryz.func170,Tryz.ntmps170;go_wp2_with fail
  go_ret;exact ⟨by rw [HE.out];rfl,rfl⟩
set_option maxRecDepth 100000 in
set_option maxHeartbeats 4000000 in
theorem rlVC2_c (n m:Int) (b:Nat) (w:World) (hb:w.cell? ⟨b,0,none⟩=some (.int .i64 m)) :
  Calls Tryz.prog 171 #[.int .i64 n,.pointer (some ⟨b,0,none⟩)] w fun e w'=>e=.returned (.bool (isImmF m n))∧w=w':=by
 obtain ⟨R,HR⟩:=nm (isImmF m n);have HD:Hid (R=decide (1≤n∧n≤m)):=by show _=_;rw [←HR.out];rfl
 rw [HR.out];by_cases h1:1≤n
 ·have f1:decide ((1:Int)≤n)=true:=dT_ h1;have HE:Hid (R=decide (n≤m)):=by show _=_;rw [HD.out];simp [h1]
  clear h1;go_enter Tryz.func171,Tryz.ntmps171;go_wp2_with fail
  go_ret;exact ⟨by rw [HE.out];rfl,rfl⟩
 ·have f1:decide ((1:Int)≤n)=false:=dF_ h1;have HE:Hid (R=false):=by show _=_;rw [HD.out];exact dF_ (fun q=>h1 q.1)
  clear h1;go_enter Tryz.func171,Tryz.ntmps171;go_wp2_with fail
  go_ret;exact ⟨by rw [HE.out];rfl,rfl⟩
set_option maxRecDepth 100000 in
set_option maxHeartbeats 4000000 in
theorem rlValidCond_c (x:Cd) (ss:List Int) (m:Int) (A:Option Addr) (c:Nat) (F:Nat→Prop) (w:World) (hs:Ints w F A ss) :
  Calls Tryz.prog 109 #[.agg #[.int .i64 x.kind,.int .i64 x.a,.int .i64 x.b,.int .i64 x.n],.slice A ss.length c,.int .i64 m] w fun e w'=>e=.returned (.bool (condF x ss m))∧Upd Non w w':=by
 obtain ⟨k,a,b,n⟩:=x;dsimp only;obtain ⟨W1,HW1⟩:=nm (w.alloc (.cells #[.int .i64 k,.int .i64 a,.int .i64 b,.int .i64 n] 102));obtain ⟨W2,HW2⟩:=nm (W1.alloc (.cells #[.slice A ss.length c] 22));obtain ⟨W3,HW3⟩:=nm (W2.alloc (.cells #[.int .i64 m] 3));have u1:Upd Non w W1:=by rw [←HW1.out];exact Upd.refl.alloc _
 have u2:Upd Non W1 W2:=by rw [←HW2.out];exact Upd.refl.alloc _
 have u3:Upd Non W2 W3:=by rw [←HW3.out];exact Upd.refl.alloc _
 have s1:W1.heap.size=w.heap.size+1:=by rw [←HW1.out];simp
 have s2:W2.heap.size=w.heap.size+2:=by rw [←HW2.out];simp [s1]
 have b1:Blk W1 w.heap.size 102 #[.int .i64 k,.int .i64 a,.int .i64 b,.int .i64 n]:=by rw [←HW1.out];exact Blk.new _ _ _
 have b2:Blk W2 (w.heap.size+1) 22 #[.slice A ss.length c]:=by rw [←HW2.out,←s1];exact Blk.new _ _ _
 have b3:Blk W3 (w.heap.size+2) 3 #[.int .i64 m]:=by rw [←HW3.out,←s2];exact Blk.new _ _ _
 have b2:=b2.upd u3 (fun f=>f);have b1:=(b1.upd u2 (fun f=>f)).upd u3 (fun f=>f);have e1:=HW1.out;have e2:=HW2.out;have e3:=HW3.out;have U:Upd Non w W3:=(u1.then_non u2).then_non u3;have hs:=hs.upd U (fun _ _ _ f=>f);have CV:=h_ (fun n=>rlVC1_c n (w.heap.size+1) ss A c F W3 (b2.cell 0) hs);have CM:=h_ (fun n=>rlVC2_c n m (w.heap.size+2) W3 (b3.cell 0));have c0:=b1.cell 0;have c1:=b1.cell 1;have c2:=b1.cell 2;have c3:=b1.cell 3;have hmf:∀(fn:Fn) (first cap:Array Value) (w:World),(Instr.makeFunc fn first cap).run Tryz.prog w=.ok (.func fn first cap) w:=fun _ _ _ _=>rfl
 obtain ⟨l,Hl⟩:=nm ss.length;rw [Hl.out] at e2;rw [Hl.out];obtain ⟨R,HR⟩:=nm (condF ⟨k,a,b,n⟩ ss m);rw [HR.out];have HR1:Hid (R=condF ⟨k,a,b,n⟩ ss m):=HR.out.symm;unfold condF at HR1;dsimp only at HR1;obtain ⟨va,Hva⟩:=nm (isValF ss a);obtain ⟨vb,Hvb⟩:=nm (isValF ss b);obtain ⟨ia,Hia⟩:=nm (isImmF m a);obtain ⟨ib,Hib⟩:=nm (isImmF m b);have CVa:=h_ (CV.out a);have CVb:=h_ (CV.out b);have CMa:=h_ (CM.out a);have CMb:=h_ (CM.out b);rw [Hva.out] at HR1 CVa;rw [Hvb.out] at HR1 CVb;rw [Hia.out] at HR1 CMa;rw [Hib.out] at HR1 CMb;clear CV CM b1 b2 b3 hs HR u1 u2 u3;obtain ⟨tb,ftb⟩:∃t,(b==0)=t:=⟨_,rfl⟩;obtain ⟨tn,ftn⟩:∃t,(n==0)=t:=⟨_,rfl⟩;obtain ⟨tab,ftab⟩:∃t,(a != b)=t:=⟨_,rfl⟩;have gtb:decide (b=0)=tb:=by rw [←ftb,Bool.eq_iff_iff];simp
 have gtn:decide (n=0)=tn:=by rw [←ftn,Bool.eq_iff_iff];simp
 have gtab:decide (a≠b)=tab:=by rw [←ftab,Bool.eq_iff_iff];simp
 rw [gtb,gtn,gtab] at HR1;clear gtb gtn gtab;by_cases h1:k=1
 ·subst h1;have HE0:Hid (R=(va&&tb&&tn)):=HR1.out;go_enter Tryz.func109,Tryz.ntmps109;go_wp2_with fail
  refine CVa.out.mono ?_;rintro e w5 ⟨rfl,rfl⟩
  cases va with
  | false =>
   have HE:Hid (R=false):=HE0.out;go_wp2_with fail
   go_ret;exact ⟨by rw [HE.out];rfl,U⟩
  | true =>
   cases tb with
   | false =>
    have HE:Hid (R=false):=HE0.out;go_wp2_with fail
    go_ret;exact ⟨by rw [HE.out];rfl,U⟩
   | true =>
    have HE:Hid (R=tn):=HE0.out;go_wp2_with fail
    go_ret;exact ⟨by rw [HE.out];rfl,U⟩
 ·by_cases h2:k=2∨k=3
  ·have HE0:Hid (R=(va&&tb)):=by have:=HR1.out;rw [if_neg h1,if_pos h2] at this;exact this
   rcases h2 with rfl | rfl
   ·go_enter Tryz.func109,Tryz.ntmps109;go_wp2_with fail
    refine CVa.out.mono ?_;rintro e w5 ⟨rfl,rfl⟩
    cases va with
    | false =>
     have HE:Hid (R=false):=HE0.out;go_wp2_with fail
     go_ret;exact ⟨by rw [HE.out];rfl,U⟩
    | true =>
     have HE:Hid (R=tb):=HE0.out;go_wp2_with fail
     go_ret;exact ⟨by rw [HE.out];rfl,U⟩
   ·go_enter Tryz.func109,Tryz.ntmps109;go_wp2_with fail
    refine CVa.out.mono ?_;rintro e w5 ⟨rfl,rfl⟩
    cases va with
    | false =>
     have HE:Hid (R=false):=HE0.out;go_wp2_with fail
     go_ret;exact ⟨by rw [HE.out];rfl,U⟩
    | true =>
     have HE:Hid (R=tb):=HE0.out;go_wp2_with fail
     go_ret;exact ⟨by rw [HE.out];rfl,U⟩
  ·have HR2:=HR1.out;rw [if_neg h1,if_neg h2] at HR2;have t1:(k==1)=false:=by simpa using h1
   have t2:(k==2)=false:=by simp;omega
   have t3:(k==3)=false:=by simp;omega
   have HR1:=h_ HR2;clear HR2 h1 h2;by_cases h4:k=4
   ·subst h4;have HE0:Hid (R=(va&&vb&&tab&&tn)):=HR1.out;go_enter Tryz.func109,Tryz.ntmps109;go_wp2_with fail
    refine CVa.out.mono ?_;rintro e w5 ⟨rfl,rfl⟩
    cases va with
    | false =>
     have HE:Hid (R=false):=HE0.out;go_wp2_with fail
     go_ret;exact ⟨by rw [HE.out];rfl,U⟩
    | true =>
     go_wp2_with fail
     refine CVb.out.mono ?_;rintro e w5 ⟨rfl,rfl⟩
     cases vb with
     | false =>
      have HE:Hid (R=false):=HE0.out;go_wp2_with fail
      go_ret;exact ⟨by rw [HE.out];rfl,U⟩
     | true =>
      cases tab with
      | false =>
       have HE:Hid (R=false):=HE0.out;go_wp2_with fail
       go_ret;exact ⟨by rw [HE.out];rfl,U⟩
      | true =>
       have HE:Hid (R=tn):=HE0.out;go_wp2_with fail
       go_ret;exact ⟨by rw [HE.out];rfl,U⟩
   ·have HR2:=HR1.out;rw [if_neg h4] at HR2;have t4:(k==4)=false:=by simpa using h4
    have HR1:=h_ HR2;clear HR2 h4;by_cases h5:k=5
    ·subst h5;have HE0:Hid (R=(va&&ib&&tn)):=HR1.out;go_enter Tryz.func109,Tryz.ntmps109;go_wp2_with fail
     refine CVa.out.mono ?_;rintro e w5 ⟨rfl,rfl⟩
     cases va with
     | false =>
      have HE:Hid (R=false):=HE0.out;go_wp2_with fail
      go_ret;exact ⟨by rw [HE.out];rfl,U⟩
     | true =>
      go_wp2_with fail
      refine CMb.out.mono ?_;rintro e w5 ⟨rfl,rfl⟩
      cases ib with
      | false =>
       have HE:Hid (R=false):=HE0.out;go_wp2_with fail
       go_ret;exact ⟨by rw [HE.out];rfl,U⟩
      | true =>
       have HE:Hid (R=tn):=HE0.out;go_wp2_with fail
       go_ret;exact ⟨by rw [HE.out];rfl,U⟩
    ·have HR2:=HR1.out;rw [if_neg h5] at HR2;have t5:(k==5)=false:=by simpa using h5
     have HR1:=h_ HR2;clear HR2 h5;by_cases h6:k=6
     ·subst h6;have HE0:Hid (R=(ia&&ib&&tab&&tn)):=HR1.out;go_enter Tryz.func109,Tryz.ntmps109;go_wp2_with fail
      refine CMa.out.mono ?_;rintro e w5 ⟨rfl,rfl⟩
      cases ia with
      | false =>
       have HE:Hid (R=false):=HE0.out;go_wp2_with fail
       go_ret;exact ⟨by rw [HE.out];rfl,U⟩
      | true =>
       go_wp2_with fail
       refine CMb.out.mono ?_;rintro e w5 ⟨rfl,rfl⟩
       cases ib with
       | false =>
        have HE:Hid (R=false):=HE0.out;go_wp2_with fail
        go_ret;exact ⟨by rw [HE.out];rfl,U⟩
       | true =>
        cases tab with
        | false =>
         have HE:Hid (R=false):=HE0.out;go_wp2_with fail
         go_ret;exact ⟨by rw [HE.out];rfl,U⟩
        | true =>
         have HE:Hid (R=tn):=HE0.out;go_wp2_with fail
         go_ret;exact ⟨by rw [HE.out];rfl,U⟩
     ·have HR2:=HR1.out;rw [if_neg h6] at HR2;have t6:(k==6)=false:=by simpa using h6
      have HE:=h_ HR2;clear HR2 h6;go_enter Tryz.func109,Tryz.ntmps109;go_wp2_with fail
      go_ret;exact ⟨by rw [HE.out];rfl,U⟩
theorem rl_cells {w:World} {b:Nat} {t:TypeId} {r:Rl} {a:RlA} (h:Blk w b t (rlCells r a)) :
  w.cell? ⟨b,0,none⟩=some (.string r.name)∧w.cell? ⟨b,1,none⟩=some (.int .i64 r.l.v)∧w.cell? ⟨b,2,none⟩=some (.int .i64 r.l.op)∧w.cell? ⟨b,3,none⟩=some (.int .i64 r.l.imm)∧w.cell? ⟨b,4,none⟩=some (.int .i64 r.l.iv)∧w.cell? ⟨b,5,none⟩=some (.slice a.la r.l.kids.length a.lc) ∧
  w.cell? ⟨b,6,none⟩=some (.int .i64 r.r.v)∧w.cell? ⟨b,7,none⟩=some (.int .i64 r.r.op)∧w.cell? ⟨b,8,none⟩=some (.int .i64 r.r.imm)∧w.cell? ⟨b,9,none⟩=some (.int .i64 r.r.iv)∧w.cell? ⟨b,10,none⟩=some (.slice a.ra r.r.kids.length a.rc) ∧
  w.cell? ⟨b,11,none⟩=some (.slice a.ca r.conds.length a.cc)∧w.cell? ⟨b,12,none⟩=some (.int .i64 r.vars)∧w.cell? ⟨b,13,none⟩=some (.int .i64 r.imms):=by
 refine ⟨?_,?_,?_,?_,?_,?_,?_,?_,?_,?_,?_,?_,?_,?_⟩ <;> (rw [h.cell];rfl)
theorem VBlk.ints {w:World} {g:Nat} {vs:List Int} (h:VBlk w g vs):Ints w (fun _=>True) (some ⟨g,0,none⟩) vs:=by
 have:=Sl.of_blk (F:=fun _=>True) trivial h vs.length;unfold Ints
 have e:(icells vs).toArray.toList.take vs.length=icells vs:=by
  rw [List.take_of_length_le (by simp [icells])]
 rw [e] at this;exact this
structure RlSz (x:Rl):Prop where
 l:x.l.size≤1000000000000
 r:x.r.size≤1000000000000
 c:x.conds.length≤1000000000000
 n:x.name.size≤1000000000000000
theorem VBlk.new (w:World) (n:Nat):VBlk (w.alloc (.cells (Array.replicate n (.int .i64 0)) 3)) w.heap.size (List.replicate n 0):=by
 unfold VBlk;rw [show (icells (List.replicate n 0)).toArray=Array.replicate n (.int .i64 0) by simp [icells]];exact Blk.new _ _ _
set_option maxRecDepth 100000 in
set_option maxHeartbeats 4000000 in
theorem rlValid_c (r:Rl) (a:RlA) (F:Nat→Prop) (w:World) (hk:RlK w F r a) (hz:RlSz r) :
  Calls Tryz.prog 53 #[rlv r a] w fun e w'=>e=.returned (.bool (implF r))∧Upd Non w w':=by
 obtain ⟨W,HW⟩:=nm (w.alloc (.cells (rlCells r a) 41));have hU:Upd Non w W:=by rw [←HW.out];exact Upd.refl.alloc _
 have hb:Blk W w.heap.size 41 (rlCells r a):=by rw [←HW.out];exact Blk.new _ _ _
 have hsz:W.heap.size=w.heap.size+1:=by rw [←HW.out];simp
 have e0:=HW.out;have hK:=(hk.mono (G:=fun k=>k<w.heap.size) (fun _ h _=>h)).upd hU (fun _ _ _ f=>f);have HC:=h_ (fun (w':World) (u:Upd Non W w')=>rl_cells (hb.upd u (fun f=>f)));obtain ⟨c0,c1,c2,c3,c4,c5,c6,c7,c8,c9,c10,c11,c12,c13⟩:=HC.out W Upd.refl;have CL:=h_ (ptValid_c r.l W _ a.la a.lc r.vars r.imms hK.l hz.l);have CR:=h_ (fun (w':World) (u:Upd Non W w')=>ptValid_c r.r w' _ a.ra a.rc r.vars r.imms (PtK.upd u (fun _ _ _ f=>f) _ _ _ hK.r) hz.r);have CN:=h_ (fun w'=>rlValidName_c r.name w' hz.n);have HZ:=h_ hz;have HK:=h_ hK;unfold pv at CL CR;unfold rlv;unfold rlCells at e0 ⊢;obtain ⟨R,HR⟩:=nm (implF r);rw [HR.out];have HR1:Hid (R=(decide (r.l.v=0)&&validF r.l r.vars r.imms&&validF r.r r.vars r.imms&&nameF r.name&&decide (r.conds.length≤6)&&implG r)):=HR.out.symm
 have HVL:Hid (∀b,validF r.l r.vars r.imms=b→validF r.l r.vars r.imms=b):=fun _ h=>h
 obtain ⟨vl,Hvl⟩:=nm (validF r.l r.vars r.imms);obtain ⟨vr,Hvr⟩:=nm (validF r.r r.vars r.imms);obtain ⟨vn,Hvn⟩:=nm (nameF r.name);rw [Hvl.out] at CL HR1;rw [Hvr.out] at CR HR1;rw [Hvn.out] at CN HR1;clear hk hz hK HR HVL hb;by_cases hv:r.l.v=0
 ·have t1:(r.l.v != 0)=false:=by simp [hv]
  have HR2:Hid (R=(vl&&vr&&vn&&decide (r.conds.length≤6)&&implG r)):=by show _=_;rw [HR1.out,dT_ hv];simp
  have HLV:=h_ hv;clear hv HR1;go_enter Tryz.func53,Tryz.ntmps53;go_wp2_with fail
  refine CL.out.mono ?_;rintro e w1 ⟨rfl,u1⟩;have HU:=hU.then_non u1;obtain ⟨c0,c1,c2,c3,c4,c5,c6,c7,c8,c9,c10,c11,c12,c13⟩:=HC.out _ u1
  cases vl with
  | false =>
   have HF:Hid (R=false):=HR2.out;go_wp2_with fail
   go_ret;exact ⟨by rw [HF.out];rfl,HU⟩
  | true =>
   go_wp2_with fail
   refine (CR.out _ u1).mono ?_;rintro e w2 ⟨rfl,u2'⟩;have u2:=u1.then_non u2';have HU:=hU.then_non u2;obtain ⟨c0,c1,c2,c3,c4,c5,c6,c7,c8,c9,c10,c11,c12,c13⟩:=HC.out _ u2
   cases vr with
   | false =>
    have HF:Hid (R=false):=HR2.out;go_wp2_with fail
    go_ret;exact ⟨by rw [HF.out];rfl,HU⟩
   | true =>
    go_wp2_with fail
    refine (CN.out _).mono ?_;rintro e w3 ⟨rfl,q3,rfl⟩;have u3:Upd Non W (w2.drewN q3):=u2.drewN _;have HU:=hU.then_non u3;obtain ⟨w3,Hw3⟩:=nm (w2.drewN q3);rw [Hw3.out] at u3 HU ⊢;obtain ⟨c0,c1,c2,c3,c4,c5,c6,c7,c8,c9,c10,c11,c12,c13⟩:=HC.out _ u3
    cases vn with
    | false =>
     have HF:Hid (R=false):=HR2.out;go_wp2_with fail
     go_ret;exact ⟨by rw [HF.out];rfl,HU⟩
    | true =>
     by_cases h6:r.conds.length≤6
     ·have t2:decide ((6:Int)<(r.conds.length:Int))=false:=dF_ (by omega);have HR3:Hid (R=implG r):=by show _=_;rw [HR2.out,dT_ h6];rfl
      have H6:=h_ h6;clear h6 HR2 CL CR CN
      obtain ⟨hvl,hshl⟩:(0≤r.vars∧r.vars≤6∧0≤r.imms∧r.imms≤6)∧shp r.l 0 r.imms r.vars.toNat=true:=by
       have h:=Hvl.out;unfold validF at h;simp only [Bool.and_eq_true,decide_eq_true_eq] at h;obtain ⟨v1,a1,_⟩:=vPt_fst.1 h.2;rw [List.length_replicate] at a1;exact ⟨by omega,a1⟩
      have hshr:shp r.r 0 r.imms r.vars.toNat=true:=by
       have h:=Hvr.out;unfold validF at h;simp only [Bool.and_eq_true,decide_eq_true_eq] at h;obtain ⟨v1,a1,_⟩:=vPt_fst.1 h.2;rw [List.length_replicate] at a1;exact a1
      have HSL:=h_ hshl;have HSR:=h_ hshr;obtain ⟨n,Hn⟩:∃n:Nat,Hid (r.vars=(n:Int)):=Int.eq_ofNat_of_zero_le hvl.1;obtain ⟨m,Hm⟩:∃m:Nat,Hid (r.imms=(m:Int)):=Int.eq_ofNat_of_zero_le hvl.2.2.1;have hn6:n≤6:=by have:=Hn.out;omega
      have hm6:m≤6:=by have:=Hm.out;omega
      obtain ⟨N,HN⟩:=nm (n+1);obtain ⟨M,HM⟩:=nm (m+1);have hN7:N≤7:=by rw [←HN.out];omega
      have hM7:M≤7:=by rw [←HM.out];omega
      have hwN:IntKind.i64.wrap ((n:Int)+1)=(N:Int):=by rw [i64w_of (by unfold I64;omega),←HN.out];omega
      have hwM:IntKind.i64.wrap ((m:Int)+1)=(M:Int):=by rw [i64w_of (by unfold I64;omega),←HM.out];omega
      have mkN:=run_mk T_ints' zero_int_ rfl N (by omega) (by omega);have mkM:=run_mk T_ints' zero_int_ rfl M (by omega) (by omega);rw [Hn.out] at c12;rw [Hm.out] at c13;clear hvl hshl hshr
      go_upto_region 3 with fail
      go_cut [3,4] (fun v i wx=>∃gv gi:Nat,v=.slice (some ⟨gv,0,none⟩) N N∧i=.slice (some ⟨gi,0,none⟩) M M∧VBlk wx gv (List.replicate N 0)∧VBlk wx gi (List.replicate M 0)∧gv≠gi∧W.heap.size≤gv∧W.heap.size≤gi∧Upd Non W wx)
      case first =>
       obtain ⟨wD,HwD⟩:=nm w3.drew;have uD:Upd Non w3 wD:=by rw [←HwD.out];exact Upd.refl.drew
       have vD:=u3.then_non uD;have hsD:=vD.size;refine wp_region_held_drew (S:=fun w'=>w'.cell? ⟨w.heap.size,12,none⟩=some (.int .i64 n)∧w'.cell? ⟨w.heap.size,13,none⟩=some (.int .i64 m)) (by kernel_rfl) (by rw [HwD.out];exact ⟨u_ c12 uD (fun f=>f),u_ c13 uD (fun f=>f)⟩) (fun hHeld=>?_)
       rw [HwD.out] at hHeld ⊢;refine wpT 0 ?_;(try simp only [y_,z_]);refine wpT 1 ?_;(try simp only [y_,z_]);refine wpT 2 ?_;(try simp only [y_,z_]);refine wpT 4 ?_;(try simp only [y_,z_]);refine wpT 5 ?_;(try simp only [y_,z_]);refine wpT 6 ?_;(try simp only [y_,z_]);refine aR_ (rs:=[3,7]) (by kernel_rfl) (by simp) ?_;refine aC_ rfl (fun K hK=>?_) (aC_ rfl (fun K hK=>?_) aN_)
       ·go_simp;have uA:Upd Non wD (wD.alloc (.cells (Array.replicate N (.int .i64 0)) 3)):=Upd.refl.alloc _;refine hK.out _ _ ?_ (fun hHeld=>?_)
        ·exact ⟨u_ c12 (uD.then_non uA) (fun f=>f),u_ c13 (uD.then_non uA) (fun f=>f)⟩
        clear hK K;(try simp only [y_,z_]);have hA:=VBlk.new wD N;have hAs:(wD.alloc (.cells (Array.replicate N (.int .i64 0)) 3)).heap.size=wD.heap.size+1:=by simp
        obtain ⟨wA,HwA⟩:=nm (wD.alloc (.cells (Array.replicate N (.int .i64 0)) 3));rw [HwA.out] at uA hA hAs hHeld ⊢;refine wpT 8 ?_;(try simp only [y_,z_]);refine aR_ (rs:=[7]) (by kernel_rfl) (by simp) ?_;refine aC_ rfl (fun K hK=>?_) aN_;go_simp;have uB:Upd Non wA (wA.alloc (.cells (Array.replicate M (.int .i64 0)) 3)):=Upd.refl.alloc _;have uC:=(uD.then_non uA).then_non uB;refine hK.out _ _ ?_ (fun hHeld=>?_)
        ·exact ⟨u_ c12 uC (fun f=>f),u_ c13 uC (fun f=>f)⟩
        clear hK K;(try simp only [y_,z_]);refine wpT 9 ?_;(try simp only [y_,z_]);refine aD_ (by kernel_rfl) ?_ _;go_wp2_with fail
        go_meet
        case rel=>exact ⟨wD.heap.size,wD.heap.size+1,rfl,rfl,Blk.upd hA uB (fun f=>f),by rw [←hAs];exact VBlk.new wA M,by omega,by omega,by omega,u3.then_non uC⟩
       ·go_simp;have uA:Upd Non wD (wD.alloc (.cells (Array.replicate M (.int .i64 0)) 3)):=Upd.refl.alloc _;refine hK.out _ _ ?_ (fun hHeld=>?_)
        ·exact ⟨u_ c12 (uD.then_non uA) (fun f=>f),u_ c13 (uD.then_non uA) (fun f=>f)⟩
        clear hK K;(try simp only [y_,z_]);have hA:=VBlk.new wD M;have hAs:(wD.alloc (.cells (Array.replicate M (.int .i64 0)) 3)).heap.size=wD.heap.size+1:=by simp
        obtain ⟨wA,HwA⟩:=nm (wD.alloc (.cells (Array.replicate M (.int .i64 0)) 3));rw [HwA.out] at uA hA hAs hHeld ⊢;refine aR_ (rs:=[3]) (by kernel_rfl) (by simp) ?_;refine aC_ rfl (fun K hK=>?_) aN_;go_simp;have uB:Upd Non wA (wA.alloc (.cells (Array.replicate N (.int .i64 0)) 3)):=Upd.refl.alloc _;have uC:=(uD.then_non uA).then_non uB;refine hK.out _ _ ?_ (fun hHeld=>?_)
        ·exact ⟨u_ c12 uC (fun f=>f),u_ c13 uC (fun f=>f)⟩
        clear hK K;(try simp only [y_,z_]);refine wpT 8 ?_;(try simp only [y_,z_]);refine wpT 9 ?_;(try simp only [y_,z_]);refine aD_ (by kernel_rfl) ?_ _;go_wp2_with fail
        go_meet
        case rel=>exact ⟨wD.heap.size+1,wD.heap.size,rfl,rfl,by rw [←hAs];exact VBlk.new wA N,Blk.upd hA uB (fun f=>f),by omega,by omega,by omega,u3.then_non uC⟩
      case rest =>
       obtain ⟨gv,gi,rfl,rfl,hgv,hgi,hne,hv1,hi1,u4⟩:=hcut;have hFv:¬(fun k=>k<w.heap.size) gv:=by show ¬gv<w.heap.size;omega
       have hFi:¬(fun k=>k<w.heap.size) gi:=by show ¬gi<w.heap.size;omega
       obtain ⟨c0,c1,c2,c3,c4,c5,c6,c7,c8,c9,c10,c11,c12,c13⟩:=HC.out _ u4;have CS:=h_ (fun op w=>rlSorts_c op w);unfold implG at HR3;rw [show r.vars.toNat+1=N by rw [Hn.out,←HN.out];rfl,show r.imms.toNat+1=M by rw [Hm.out,←HM.out];rfl] at HR3;have HVN:Hid (r.vars.toNat=n):=by show _=_;rw [Hn.out];rfl
       rw [HVN.out] at HSL HSR;rw [Hm.out] at HSL HSR HR3;rw [Hn.out] at c12;rw [Hm.out] at c13;have CCL:=h_ (fun (w':World) (gv' gi':Nat) (own:Int) (u:Upd Non W w') h1 h2 h3 h4 h5=>rlCollect_c r.l w' _ a.la a.lc gv' N gi' M own 0 m n (List.replicate N 0) (List.replicate M 0) (PtK.upd u (fun _ _ _ f=>f) _ _ _ HK.out.l) h1 h2 h3 h4 h5 HSL.out (by rw [List.length_replicate,HN.out]) (by rw [List.length_replicate,HM.out]) (by omega) (by omega))
       rw [List.length_replicate,List.length_replicate] at CCL;obtain ⟨own,Hown⟩:=nm (rsF r.l.op).2;rw [Hown.out] at HR3;obtain ⟨V1,HV1⟩:=nm (colV (occ r.l own) (List.replicate N 0));obtain ⟨I1,HI1⟩:=nm (colI (occI r.l) (List.replicate M 0));rw [HV1.out,HI1.out] at HR3
       have HVL1:Hid (V1.length=n+1∧V1.length=N):=by
        show _∧_;rw [←HV1.out,colV_len,List.length_replicate,HN.out];exact ⟨rfl,rfl⟩
       have HIL1:Hid (I1.length=m+1∧I1.length=M):=by
        show _∧_;rw [←HI1.out,colI_len,List.length_replicate,HM.out];exact ⟨rfl,rfl⟩
       have C1:=h_ (CS.out r.l.op wc);rw [Hown.out] at C1;go_wp2_with fail
       refine C1.out.mono ?_;rintro e w5 ⟨rfl,u5⟩;obtain ⟨x0,Hx0⟩:=nm ((rsF r.l.op).1.getD 0 0);obtain ⟨x1,Hx1⟩:=nm ((rsF r.l.op).1.getD 1 0);obtain ⟨x2,Hx2⟩:=nm ((rsF r.l.op).1.getD 2 0);rw [Hx0.out,Hx1.out,Hx2.out];obtain ⟨W6,HW6⟩:=nm (w5.alloc (.cells #[.int .i64 x0,.int .i64 x1,.int .i64 x2] 162));have e6:=HW6.out;have u6:Upd Non w5 W6:=by rw [←e6];exact Upd.refl.alloc _
       have u56:=u5.then_non u6;have u7:=u4.then_non u56;have hs7:=u4.size;obtain ⟨c0,c1,c2,c3,c4,c5,c6,c7,c8,c9,c10,c11,c12,c13⟩:=HC.out _ u7;have C2:=h_ (CCL.out W6 gv gi own u7 hFv hFi hne (Blk.upd hgv u56 (fun f=>f)) (Blk.upd hgi u56 (fun f=>f)));rw [HV1.out,HI1.out] at C2;unfold pv at C2;rw [Hn.out] at c12;rw [Hm.out] at c13;clear C1 CCL hgv hgi;go_wp2_with fail
       refine C2.out.mono ?_;rintro e w8 ⟨rfl,hgv,hgi,u8⟩;have HU8:Upd Non W w8:=u7.trans u8 (fun i hi h=>by omega);have u89:=u8;obtain ⟨c0,c1,c2,c3,c4,c5,c6,c7,c8,c9,c10,c11,c12,c13⟩:=HC.out _ HU8;rw [Hn.out] at c12;rw [Hm.out] at c13
       have HB1:Hid (((V1.drop 1).all fun x=>decide (x≠0))=true↔∀i:Nat,1≤i→i≤n→V1.getD i 0≠0):=by
        show _↔_;rw [all_drop (d:=0) HVL1.out.1];simp only [decide_eq_true_eq]
       have HB2:Hid (((I1.drop 1).all fun x=>decide (x≠0))=true↔∀i:Nat,1≤i→i≤m→I1.getD i 0≠0):=by
        show _↔_;rw [all_drop (d:=0) HIL1.out.1];simp only [decide_eq_true_eq]
       obtain ⟨b1,Hb1⟩:=nm ((V1.drop 1).all fun x=>decide (x≠0));obtain ⟨b2,Hb2⟩:=nm ((I1.drop 1).all fun x=>decide (x≠0));rw [Hb1.out] at HB1 HR3;rw [Hb2.out] at HB2 HR3;have hNn:N=n+1:=HN.out.symm;have hMm:M=m+1:=HM.out.symm;have HNn:=h_ hNn;have HMm:=h_ hMm;have HU:=hU.then_non HU8;clear C2 hNn hMm mkN mkM u8 u5 u6 u56;go_wp2_with fail
       go_loopg [7] n (fun g i wr=>∃k:Nat,Hid (g=n+1 - k)∧1≤k∧k≤n+1∧i=.int .i64 k∧Hid (∀j:Nat,1≤j→j<k→V1.getD j 0≠0)∧w8=wr)
       case atStart=>exact ⟨1,by show _=_;omega,by omega,by omega,rfl,fun j h1 h2=>by omega,rfl⟩
       case round =>
        obtain ⟨k,Hg,hk1,hk2,rfl,HA,rfl⟩:=hrel;by_cases hlt:k≤n
        ·have t3:decide (k≤n)=true:=dT_ (by omega);have hkN:(k:Int)<(N:Int):=by have:=HNn.out;omega
         have hk0:(0:Int)≤(k:Int):=by omega
         have x1:=VBlk.cell hgv (i:=k) (by rw [HVL1.out.1];omega);obtain ⟨z,Hz⟩:=nm (V1.getD k 0);rw [Hz.out] at x1;by_cases h0:z=0
         ·subst h0
          have hb:b1=false:=by
           rw [Bool.eq_false_iff];intro q;exact HB1.out.1 q k hk1 hlt Hz.out
          have HF:Hid (R=false):=by show _=_;rw [HR3.out,hb];rfl
          clear hb;go_wp2_with fail
          go_ret;exact ⟨by rw [HF.out];rfl,HU⟩
         ·have t4:(z==0)=false:=by simpa using h0
          have HA2:Hid (∀j:Nat,1≤j→j<k+1→V1.getD j 0≠0):=by
           intro j j1 j2;by_cases e:j=k
           ·rw [e,Hz.out];exact h0
           ·exact HA.out j j1 (by omega)
          clear h0;go_wp2_with fail
          go_roundg (n+1 - (k+1))
          case measure=>rw [Hg.out];omega
          case rel=>exact ⟨k+1,rfl,by omega,by omega,by go_num,HA2,rfl⟩
        ·have t3:decide (k≤n)=false:=dF_ (by omega);have hb1:b1=true:=HB1.out.2 (fun i i1 i2=>HA.out i i1 (by omega));subst hb1;have HR4:Hid (R=(b2&&(decide (r.r.v≠0) || decide ((rsF r.r.op).2=own))&&((colV (occ r.r own) V1).drop 1).all (fun x=>decide (x≠3))&&r.conds.all fun c=>condF c (colV (occ r.r own) V1) (m:Int))):=by show _=_;rw [HR3.out];simp
         clear HA Hg hk1 hk2 hlt HR3;go_wp2_with fail
         go_loopg [8] m (fun g i wr=>∃k:Nat,Hid (g=m+1 - k)∧1≤k∧k≤m+1∧i=.int .i64 k∧Hid (∀j:Nat,1≤j→j<k→I1.getD j 0≠0)∧w8=wr)
         case atStart=>exact ⟨1,by show _=_;omega,by omega,by omega,rfl,fun j h1 h2=>by omega,rfl⟩
         case round =>
          obtain ⟨k,Hg,hk1,hk2,rfl,HA,rfl⟩:=hrel;by_cases hlt:k≤m
          ·have t3:decide (k≤m)=true:=dT_ (by omega);have hkN:(k:Int)<(M:Int):=by have:=HMm.out;omega
           have hk0:(0:Int)≤(k:Int):=by omega
           have x1:=VBlk.cell hgi (i:=k) (by rw [HIL1.out.1];omega);obtain ⟨z,Hz⟩:=nm (I1.getD k 0);rw [Hz.out] at x1;by_cases h0:z=0
           ·subst h0
            have hb:b2=false:=by
             rw [Bool.eq_false_iff];intro q;exact HB2.out.1 q k hk1 hlt Hz.out
            have HF:Hid (R=false):=by show _=_;rw [HR4.out,hb];rfl
            clear hb;go_wp2_with fail
            go_ret;exact ⟨by rw [HF.out];rfl,HU⟩
           ·have t4:(z==0)=false:=by simpa using h0
            have HA2:Hid (∀j:Nat,1≤j→j<k+1→I1.getD j 0≠0):=by
             intro j j1 j2;by_cases e:j=k
             ·rw [e,Hz.out];exact h0
             ·exact HA.out j j1 (by omega)
            clear h0;go_wp2_with fail
            go_roundg (m+1 - (k+1))
            case measure=>rw [Hg.out];omega
            case rel=>exact ⟨k+1,rfl,by omega,by omega,by go_num,HA2,rfl⟩
          ·have t3:decide (k≤m)=false:=dF_ (by omega);have hb2:b2=true:=HB2.out.2 (fun i i1 i2=>HA.out i i1 (by omega));subst hb2;have HR5:Hid (R=((decide (r.r.v≠0) || decide ((rsF r.r.op).2=own))&&((colV (occ r.r own) V1).drop 1).all (fun x=>decide (x≠3))&&r.conds.all fun c=>condF c (colV (occ r.r own) V1) (m:Int))):=by show _=_;rw [HR4.out];simp
           clear HA Hg hk1 hk2 hlt HR4;have C1:=h_ (CS.out r.r.op w8);obtain ⟨sR,HsR⟩:=nm (rsF r.r.op).2;rw [HsR.out] at C1 HR5;go_wp2_with fail
           refine C1.out.mono ?_;rintro e w9 ⟨rfl,u9⟩;obtain ⟨y0,Hy0⟩:=nm ((rsF r.r.op).1.getD 0 0);obtain ⟨y1,Hy1⟩:=nm ((rsF r.r.op).1.getD 1 0);obtain ⟨y2,Hy2⟩:=nm ((rsF r.r.op).1.getD 2 0);rw [Hy0.out,Hy1.out,Hy2.out];obtain ⟨WA,HWA⟩:=nm (w9.alloc (.cells #[.int .i64 y0,.int .i64 y1,.int .i64 y2] 162));have eA:=HWA.out;have uA:Upd Non w9 WA:=by rw [←eA];exact Upd.refl.alloc _
           have u9A:=u9.then_non uA;have HUA:=HU8.then_non u9A;have hgvA:VBlk WA gv V1:=Blk.upd hgv u9A (fun f=>f);have hgiA:VBlk WA gi I1:=Blk.upd hgi u9A (fun f=>f);obtain ⟨c0,c1,c2,c3,c4,c5,c6,c7,c8,c9,c10,c11,c12,c13⟩:=HC.out _ HUA;rw [Hn.out] at c12;rw [Hm.out] at c13;have HU:=hU.then_non HUA;have C2:=h_ (rlCollect_c r.r WA _ a.ra a.rc gv N gi M own 0 m n V1 I1 (PtK.upd HUA (fun _ _ _ f=>f) _ _ _ HK.out.r) hFv hFi hne hgvA hgiA HSR.out HVL1.out.1 HIL1.out.1 (by omega) (by omega))
           rw [HVL1.out.2,HIL1.out.2] at C2
           have HVL2:Hid ((colV (occ r.r own) V1).length=n+1∧(colV (occ r.r own) V1).length=N):=by
            show _∧_;rw [colV_len];exact HVL1.out
           obtain ⟨V2,HV2⟩:=nm (colV (occ r.r own) V1);rw [HV2.out] at C2 HR5 HVL2;unfold pv at C2;clear C1 hgv hgi hgvA hgiA c0 c1 c2 c3 c4 c5;by_cases hv:r.r.v=0
           ·have t5:(r.r.v==0)=true:=by simp [hv]
            by_cases hs:sR=own
            ·have t6:(sR != own)=false:=by simp [hs]
             have HR6:Hid (R=(((V2.drop 1).all fun x=>decide (x≠3))&&r.conds.all fun c=>condF c V2 (m:Int))):=by show _=_;rw [HR5.out,dT_ hs];simp
             clear hv hs HR5;go_wp2_with fail
             refine C2.out.mono ?_;rintro e w10 ⟨rfl,hgv,hgi,u10⟩;have hsA:=HU8.size;have HUB:Upd Non W w10:=HUA.trans u10 (fun i hi h=>by omega);have HU:=hU.then_non HUB;obtain ⟨c0,c1,c2,c3,c4,c5,c6,c7,c8,c9,c10,c11,c12,c13⟩:=HC.out _ HUB;rw [Hn.out] at c12;rw [Hm.out] at c13
             have HB4:Hid (((V2.drop 1).all fun x=>decide (x≠3))=true↔∀i:Nat,1≤i→i≤n→V2.getD i 0≠3):=by
              show _↔_;rw [all_drop (d:=0) HVL2.out.1];simp only [decide_eq_true_eq]
             obtain ⟨b4,Hb4⟩:=nm ((V2.drop 1).all fun x=>decide (x≠3));rw [Hb4.out] at HB4 HR6;clear C2 hgi u10 HUA;go_wp2_with fail
             go_loopg [11] n (fun g i wr=>∃k:Nat,Hid (g=n+1 - k)∧1≤k∧k≤n+1∧i=.int .i64 k∧Hid (∀j:Nat,1≤j→j<k→V2.getD j 0≠3)∧w10=wr)
             case atStart=>exact ⟨1,by show _=_;omega,by omega,by omega,rfl,fun j h1 h2=>by omega,rfl⟩
             case round =>
              obtain ⟨k,Hg,hk1,hk2,rfl,HA,rfl⟩:=hrel;by_cases hlt:k≤n
              ·have t3:decide (k≤n)=true:=dT_ (by omega);have hkN:(k:Int)<(N:Int):=by have:=HNn.out;omega
               have hk0:(0:Int)≤(k:Int):=by omega
               have x1:=VBlk.cell hgv (i:=k) (by rw [HVL2.out.1];omega);obtain ⟨z,Hz⟩:=nm (V2.getD k 0);rw [Hz.out] at x1;by_cases h0:z=3
               ·subst h0
                have hb:b4=false:=by
                 rw [Bool.eq_false_iff];intro q;exact HB4.out.1 q k hk1 hlt Hz.out
                have HF:Hid (R=false):=by show _=_;rw [HR6.out,hb];rfl
                clear hb;go_wp2_with fail
                go_ret;exact ⟨by rw [HF.out];rfl,HU⟩
               ·have t4:(z==3)=false:=by simpa using h0
                have HA2:Hid (∀j:Nat,1≤j→j<k+1→V2.getD j 0≠3):=by
                 intro j j1 j2;by_cases e:j=k
                 ·rw [e,Hz.out];exact h0
                 ·exact HA.out j j1 (by omega)
                clear h0;go_wp2_with fail
                go_roundg (n+1 - (k+1))
                case measure=>rw [Hg.out];omega
                case rel=>exact ⟨k+1,rfl,by omega,by omega,by go_num,HA2,rfl⟩
              ·have t3:decide (k≤n)=false:=dF_ (by omega);have hb4:b4=true:=HB4.out.2 (fun i i1 i2=>HA.out i i1 (by omega));subst hb4;have HR7:Hid (R=r.conds.all fun c=>condF c V2 (m:Int)):=by show _=_;rw [HR6.out];simp
               have HI2:=h_ hgv.ints;obtain ⟨cn,Hcn⟩:=nm r.conds.length;have hcn:=H6.out;rw [Hcn.out] at c11 hcn;clear HA Hg hk1 hk2 hlt HR6;go_wp2_with fail
               go_loopg [13,129] cn (fun g _ i wr=>∃q:Nat,Hid (g=cn - q)∧q≤cn∧i=.int .i64 q∧Hid (∀j (h:j<r.conds.length),j<q→condF r.conds[j] V2 (m:Int)=true)∧Upd Non w10 wr)
               case atStart=>exact ⟨0,rfl,by omega,rfl,fun j h1 h2=>by omega,Upd.refl⟩
               case round =>
                obtain ⟨q,Hg,hq,rfl,HA,hu⟩:=hrel;have HUC:=HUB.then_non hu;by_cases hlt:q<cn
                ·have hql:q<r.conds.length:=by rw [Hcn.out];exact hlt
                 have hcv:=HK.out.c.upd HUC (fun _ _ _ f=>f);obtain ⟨cb,co,ecA,hF,hcb,k0,k1,k2,k3⟩:=hcv.at_ hql
                 have hcond:Hid (∀b,condF r.conds[q] V2 (m:Int)=b→(b=false→R=false)∧(b=true→∀j (h:j<r.conds.length),j<q+1→condF r.conds[j] V2 (m:Int)=true)):=by
                  intro b hb;refine ⟨fun h=>?_,fun h j hj1 hj2=>?_⟩
                  ·rw [HR7.out,Bool.eq_false_iff];intro h2;rw [List.all_eq_true] at h2;have:=h2 _ (List.getElem_mem hql);rw [hb,h] at this;cases this
                  ·by_cases e:j=q
                   ·subst e;rw [hb,h]
                   ·exact HA.out j hj1 (by omega)
                 generalize r.conds[q]=x at *;obtain ⟨d0,d1,d2,d3,d4,d5,d6,d7,d8,d9,d10,d11,d12,d13⟩:=HC.out _ HUC;rw [ecA,Hcn.out] at d11;rw [Hm.out] at d13;obtain ⟨WX,HWX⟩:=nm (wr.alloc (.cells #[.int .i64 x.kind,.int .i64 x.a,.int .i64 x.b,.int .i64 x.n] 102));have eX:=HWX.out;have uX:Upd Non wr WX:=by rw [←eX];exact Upd.refl.alloc _
                 have bX:Blk WX wr.heap.size 102 #[.int .i64 x.kind,.int .i64 x.a,.int .i64 x.b,.int .i64 x.n]:=by rw [←eX];exact Blk.new _ _ _
                 have f0:=bX.cell 0;have f1:=bX.cell 1;have f2:=bX.cell 2;have f3:=bX.cell 3;have f13:=u_ d13 uX (fun f=>f);have CC:=h_ (rlValidCond_c x V2 (m:Int) (some ⟨gv,0,none⟩) N _ WX ((HI2.out.upd hu (fun _ _ _ f=>f)).upd uX (fun _ _ _ f=>f)));rw [HVL2.out.2] at CC;obtain ⟨cr,Hcr⟩:=nm (condF x V2 (m:Int));rw [Hcr.out] at CC hcond;have HCD:=h_ (hcond.out cr rfl);simp only [ecA];clear hcv hcond bX;go_wp2_with fail
                 refine CC.out.mono ?_;rintro e w11 ⟨rfl,u11⟩;have HU11:=(hu.then_non uX).then_non u11;have HU:=HU.then_non HU11
                 cases cr with
                 | false =>
                  have HF:Hid (R=false):=HCD.out.1 rfl;go_wp2_with fail
                  go_ret;exact ⟨by rw [HF.out];rfl,HU⟩
                 | true =>
                  have HA2:=h_ (HCD.out.2 rfl);go_wp2_with fail
                  simp only [←ecA]
                  go_roundg (cn - (q+1))
                  case measure=>rw [Hg.out];omega
                  case rel=>exact ⟨q+1,rfl,by omega,by go_num,HA2.out,HU11⟩
                ·obtain rfl:cn=q:=by omega
                 have HF:Hid (R=true):=by
                  show _=_;rw [HR7.out,List.all_eq_true];intro c hc;obtain ⟨j,hj,rfl⟩:=List.mem_iff_getElem.1 hc;exact HA.out j hj (by rw [←Hcn.out];exact hj)
                 have HU:=HU.then_non hu;go_wp2_with fail
                 go_ret;exact ⟨by rw [HF.out];rfl,HU⟩
            ·have t6:(sR != own)=true:=by simp [hs]
             have HF:Hid (R=false):=by show _=_;rw [HR5.out,dF_ hs,dF_ (fun q=>q hv)];rfl
             clear hv hs;go_wp2_with fail
             go_ret;exact ⟨by rw [HF.out];rfl,HU⟩
           ·have t5:(r.r.v==0)=false:=by simp [hv]
            have HR6:Hid (R=(((V2.drop 1).all fun x=>decide (x≠3))&&r.conds.all fun c=>condF c V2 (m:Int))):=by show _=_;rw [HR5.out,dT_ (show r.r.v≠0 from hv)];simp
            clear hv HR5;go_wp2_with fail
            refine C2.out.mono ?_;rintro e w10 ⟨rfl,hgv,hgi,u10⟩;have hsA:=HU8.size;have HUB:Upd Non W w10:=HUA.trans u10 (fun i hi h=>by omega);have HU:=hU.then_non HUB;obtain ⟨c0,c1,c2,c3,c4,c5,c6,c7,c8,c9,c10,c11,c12,c13⟩:=HC.out _ HUB;rw [Hn.out] at c12;rw [Hm.out] at c13
            have HB4:Hid (((V2.drop 1).all fun x=>decide (x≠3))=true↔∀i:Nat,1≤i→i≤n→V2.getD i 0≠3):=by
             show _↔_;rw [all_drop (d:=0) HVL2.out.1];simp only [decide_eq_true_eq]
            obtain ⟨b4,Hb4⟩:=nm ((V2.drop 1).all fun x=>decide (x≠3));rw [Hb4.out] at HB4 HR6;clear C2 hgi u10 HUA;go_wp2_with fail
            go_loopg [11] n (fun g i wr=>∃k:Nat,Hid (g=n+1 - k)∧1≤k∧k≤n+1∧i=.int .i64 k∧Hid (∀j:Nat,1≤j→j<k→V2.getD j 0≠3)∧w10=wr)
            case atStart=>exact ⟨1,by show _=_;omega,by omega,by omega,rfl,fun j h1 h2=>by omega,rfl⟩
            case round =>
             obtain ⟨k,Hg,hk1,hk2,rfl,HA,rfl⟩:=hrel;by_cases hlt:k≤n
             ·have t3:decide (k≤n)=true:=dT_ (by omega);have hkN:(k:Int)<(N:Int):=by have:=HNn.out;omega
              have hk0:(0:Int)≤(k:Int):=by omega
              have x1:=VBlk.cell hgv (i:=k) (by rw [HVL2.out.1];omega);obtain ⟨z,Hz⟩:=nm (V2.getD k 0);rw [Hz.out] at x1;by_cases h0:z=3
              ·subst h0
               have hb:b4=false:=by
                rw [Bool.eq_false_iff];intro q;exact HB4.out.1 q k hk1 hlt Hz.out
               have HF:Hid (R=false):=by show _=_;rw [HR6.out,hb];rfl
               clear hb;go_wp2_with fail
               go_ret;exact ⟨by rw [HF.out];rfl,HU⟩
              ·have t4:(z==3)=false:=by simpa using h0
               have HA2:Hid (∀j:Nat,1≤j→j<k+1→V2.getD j 0≠3):=by
                intro j j1 j2;by_cases e:j=k
                ·rw [e,Hz.out];exact h0
                ·exact HA.out j j1 (by omega)
               clear h0;go_wp2_with fail
               go_roundg (n+1 - (k+1))
               case measure=>rw [Hg.out];omega
               case rel=>exact ⟨k+1,rfl,by omega,by omega,by go_num,HA2,rfl⟩
             ·have t3:decide (k≤n)=false:=dF_ (by omega);have hb4:b4=true:=HB4.out.2 (fun i i1 i2=>HA.out i i1 (by omega));subst hb4;have HR7:Hid (R=r.conds.all fun c=>condF c V2 (m:Int)):=by show _=_;rw [HR6.out];simp
              have HI2:=h_ hgv.ints;obtain ⟨cn,Hcn⟩:=nm r.conds.length;have hcn:=H6.out;rw [Hcn.out] at c11 hcn;clear HA Hg hk1 hk2 hlt HR6;go_wp2_with fail
              go_loopg [13,129] cn (fun g _ i wr=>∃q:Nat,Hid (g=cn - q)∧q≤cn∧i=.int .i64 q∧Hid (∀j (h:j<r.conds.length),j<q→condF r.conds[j] V2 (m:Int)=true)∧Upd Non w10 wr)
              case atStart=>exact ⟨0,rfl,by omega,rfl,fun j h1 h2=>by omega,Upd.refl⟩
              case round =>
               obtain ⟨q,Hg,hq,rfl,HA,hu⟩:=hrel;have HUC:=HUB.then_non hu;by_cases hlt:q<cn
               ·have hql:q<r.conds.length:=by rw [Hcn.out];exact hlt
                have hcv:=HK.out.c.upd HUC (fun _ _ _ f=>f);obtain ⟨cb,co,ecA,hF,hcb,k0,k1,k2,k3⟩:=hcv.at_ hql
                have hcond:Hid (∀b,condF r.conds[q] V2 (m:Int)=b→(b=false→R=false)∧(b=true→∀j (h:j<r.conds.length),j<q+1→condF r.conds[j] V2 (m:Int)=true)):=by
                 intro b hb;refine ⟨fun h=>?_,fun h j hj1 hj2=>?_⟩
                 ·rw [HR7.out,Bool.eq_false_iff];intro h2;rw [List.all_eq_true] at h2;have:=h2 _ (List.getElem_mem hql);rw [hb,h] at this;cases this
                 ·by_cases e:j=q
                  ·subst e;rw [hb,h]
                  ·exact HA.out j hj1 (by omega)
                generalize r.conds[q]=x at *;obtain ⟨d0,d1,d2,d3,d4,d5,d6,d7,d8,d9,d10,d11,d12,d13⟩:=HC.out _ HUC;rw [ecA,Hcn.out] at d11;rw [Hm.out] at d13;obtain ⟨WX,HWX⟩:=nm (wr.alloc (.cells #[.int .i64 x.kind,.int .i64 x.a,.int .i64 x.b,.int .i64 x.n] 102));have eX:=HWX.out;have uX:Upd Non wr WX:=by rw [←eX];exact Upd.refl.alloc _
                have bX:Blk WX wr.heap.size 102 #[.int .i64 x.kind,.int .i64 x.a,.int .i64 x.b,.int .i64 x.n]:=by rw [←eX];exact Blk.new _ _ _
                have f0:=bX.cell 0;have f1:=bX.cell 1;have f2:=bX.cell 2;have f3:=bX.cell 3;have f13:=u_ d13 uX (fun f=>f);have CC:=h_ (rlValidCond_c x V2 (m:Int) (some ⟨gv,0,none⟩) N _ WX ((HI2.out.upd hu (fun _ _ _ f=>f)).upd uX (fun _ _ _ f=>f)));rw [HVL2.out.2] at CC;obtain ⟨cr,Hcr⟩:=nm (condF x V2 (m:Int));rw [Hcr.out] at CC hcond;have HCD:=h_ (hcond.out cr rfl);simp only [ecA];clear hcv hcond bX;go_wp2_with fail
                refine CC.out.mono ?_;rintro e w11 ⟨rfl,u11⟩;have HU11:=(hu.then_non uX).then_non u11;have HU:=HU.then_non HU11
                cases cr with
                | false =>
                 have HF:Hid (R=false):=HCD.out.1 rfl;go_wp2_with fail
                 go_ret;exact ⟨by rw [HF.out];rfl,HU⟩
                | true =>
                 have HA2:=h_ (HCD.out.2 rfl);go_wp2_with fail
                 simp only [←ecA]
                 go_roundg (cn - (q+1))
                 case measure=>rw [Hg.out];omega
                 case rel=>exact ⟨q+1,rfl,by omega,by go_num,HA2.out,HU11⟩
               ·obtain rfl:cn=q:=by omega
                have HF:Hid (R=true):=by
                 show _=_;rw [HR7.out,List.all_eq_true];intro c hc;obtain ⟨j,hj,rfl⟩:=List.mem_iff_getElem.1 hc;exact HA.out j hj (by rw [←Hcn.out];exact hj)
                have HU:=HU.then_non hu;go_wp2_with fail
                go_ret;exact ⟨by rw [HF.out];rfl,HU⟩
     ·have t2:decide ((6:Int)<(r.conds.length:Int))=true:=dT_ (by omega);have HF:Hid (R=false):=by show _=_;rw [HR2.out,dF_ h6];rfl
      clear h6;go_wp2_with fail
      go_ret;exact ⟨by rw [HF.out];rfl,HU⟩
 ·have t1:(r.l.v != 0)=true:=by simp [hv]
  have HF:Hid (R=false):=by show _=_;rw [HR1.out,dF_ hv];rfl
  have HU:=hU;clear hv;go_enter Tryz.func53,Tryz.ntmps53;go_wp2_with fail
  go_ret;exact ⟨by rw [HF.out];rfl,HU⟩
theorem NS.none_ (w:World):NS w none 0 [] none 0 []:=⟨Own.none_,Own.none_,fun _ h=>(At.none_ h).elim⟩
theorem Numbered_c (p:Pt) (w:World) (F:Nat→Prop) (KA:Option Addr) (kc:Nat) (hp:PtK w F p KA kc) (hs:p.size≤1000000) :
  Calls Tryz.prog 57 #[pv p KA kc] w fun e w'=>∃(KA':Option Addr) (kc':Nat),e=.returned (.tuple #[pv (numF p [] []).1 KA' kc',.int .i64 (numF p [] []).2.1.length,.int .i64 (numF p [] []).2.2.length]) ∧
   PtK w' (fun k=>F k∨w.heap.size≤k) (numF p [] []).1 KA' kc'∧Upd Non w w':=by
 have hp1:=PtK.mono (G:=fun k=>F k∧k<w.heap.size) (fun k hk h=>⟨h,hk⟩) p KA kc hp;obtain ⟨W,HW⟩:=nm (w.alloc (.cells #[.int .i64 p.v,.int .i64 p.op,.int .i64 p.imm,.int .i64 p.iv,.slice KA p.kids.length kc] 38));have hU:Upd Non w W:=by rw [←HW.out];exact Upd.refl.alloc _
 have hb:Blk W w.heap.size 38 #[.int .i64 p.v,.int .i64 p.op,.int .i64 p.imm,.int .i64 p.iv,.slice KA p.kids.length kc]:=by rw [←HW.out];exact Blk.new _ _ _
 have hsW:W.heap.size=w.heap.size+1:=by rw [←HW.out];simp
 obtain ⟨W2,HW2⟩:=nm (W.alloc (.cells #[.int .i64 0,.int .i64 0,.int .i64 0,.int .i64 0,.slice none 0 0] 38));have hU2:Upd Non W W2:=by rw [←HW2.out];exact Upd.refl.alloc _
 have hb2:Blk W2 (w.heap.size+1) 38 #[.int .i64 0,.int .i64 0,.int .i64 0,.int .i64 0,.slice none 0 0]:=by rw [←HW2.out,←hsW];exact Blk.new _ _ _
 have hsW2:W2.heap.size=w.heap.size+2:=by rw [←HW2.out];simp [hsW]
 have hb:=hb.upd hU2 (fun f=>f);have hU0:=hU.then_non hU2;have e0:=HW.out;have e2:=HW2.out;have hpW:=PtK.upd hU0 (fun _ _ _ f=>f) p KA kc hp1;have hls:=numF_len p [] [];have C:=h_ (numbered_c p W2 _ KA kc none 0 none 0 [] [] hpW (fun _ _=>⟨At.none_,At.none_⟩) (NS.none_ _) (by simpa using hs) (by simpa using hs));simp only [List.length_nil,Nat.zero_add] at hls;have c0:=hb.cell 0;have c1:=hb.cell 1;have c2:=hb.cell 2;have c3:=hb.cell 3;have c4:=hb.cell 4;have f0:=hb.frozen;unfold pv at C ⊢;go_enter Tryz.func57,Tryz.ntmps57;go_wp2_with fail
 refine C.out.mono ?_;rintro e w3 ⟨KA',kc',A',c',B',d',rfl,hp3,hn3,-,-,hu3⟩;obtain ⟨R,HR⟩:=nm (numF p [] []);rw [HR.out] at hp3 hn3 hls ⊢;unfold pv;obtain ⟨q,Hq⟩:=nm R.1;obtain ⟨a,Ha⟩:=nm R.2.1.length;obtain ⟨b,Hb⟩:=nm R.2.2.length;rw [Hq.out] at hp3 ⊢;rw [Ha.out,Hb.out];have ha:a≤1000000:=by rw [←Ha.out];omega
 have hbl:b≤1000000:=by rw [←Hb.out];omega
 have hu3s:=hu3.size;have hbx:=hb2.upd hu3 (fun h=>by rcases h with h | h <;> exact At.none_ h);clear hn3 hls c0 c1 c2 c3 c4 f0 hb2 C
 go_upto_region 2 with fail
 have hal:Upd Non w3 (w3.alloc (.cells #[.int .i64 q.v,.int .i64 q.op,.int .i64 q.imm,.int .i64 q.iv,.slice KA' q.kids.length kc'] 38)):=Upd.refl.alloc _;have b5:=Blk.new w3 38 #[.int .i64 q.v,.int .i64 q.op,.int .i64 q.imm,.int .i64 q.iv,.slice KA' q.kids.length kc'];obtain ⟨w5,Hw5⟩:=nm (w3.alloc (.cells #[.int .i64 q.v,.int .i64 q.op,.int .i64 q.imm,.int .i64 q.iv,.slice KA' q.kids.length kc'] 38));rw [Hw5.out] at hal b5 ⊢;have s4:=hal.size;have hbx:=hbx.upd hal (fun f=>f);have c0:=b5.cell 0;have c1:=b5.cell 1;have c2:=b5.cell 2;have c3:=b5.cell 3;have c4:=b5.cell 4;have r0:=hbx.cell 0;have r1:=hbx.cell 1;have r2:=hbx.cell 2;have r3:=hbx.cell 3;have r4:=hbx.cell 4;have rf:=hbx.frozen;have HB:=h_ hbx;have HP:=h_ hp3;clear hbx b5 hp3;go_wp2_with fail
 rw [set5_eq];refine bodyPost_ret (results_cell_row_tmps rfl _ _ (w.heap.size+1) 38 _ (0,0) _ rfl (set5_blk HB.out _ _ _ _ _) Tryz.underlying38 rfl (by kernel_rfl)) rfl ?_;have u6:=set5_upd w5 (w.heap.size+1) (.int .i64 q.v) (.int .i64 q.op) (.int .i64 q.imm) (.int .i64 q.iv) (.slice KA' q.kids.length kc');have s6:=u6.size;rw [HR.out,Hq.out,Ha.out,Hb.out];refine ⟨KA',kc',rfl,?_,?_⟩
 ·exact PtK.mono (fun k _ h=>by rcases h with h | h;exact .inl h.1;exact .inr (by omega)) _ _ _ (PtK.upd u6 (fun k hk h e=>by omega) _ _ _ (PtK.upd hal (fun _ _ _ f=>f) _ _ _ (PtK.mono (G:=fun k=>(F k∧k<w.heap.size)∨w.heap.size+2≤k) (fun k hk h=>by rcases h.1 with h | h;exact .inl h;exact .inr (by omega)) _ _ _ HP.out)))
 ·have h1:=(hU0.then_non (hu3.mono (fun _ _ h=>by rcases h with h | h <;> exact (At.none_ h).elim))).then_non hal;exact h1.trans u6 (fun k hk h=>by omega)
end Go.Proofs.YtifhejahbbnkiaaGreat
