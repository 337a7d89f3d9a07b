/-
  Lemmas and walks that the claim rests on, part 2 (packed by a program).
-/
import Derived.Test.YtifhejahbbnkiaaGreatC1
namespace Go.Proofs.YtifhejahbbnkiaaGreat
open Go.RowKit
def kid (l:List Pt) (i:Nat):Pt:=l.getD i (.mk 0 0 0 0 [])
def shK (kids:List Pt):Nat:=((kid kids 1).imm % 64).toNat
theorem shK_lt (kids:List Pt):shK kids<64:=by unfold shK;omega
def isG (op:Int):Bool:=decide (15≤op∧op≤19∨op=22)
def ownN (op:Int) (kids:List Pt):Nat:=if op=4∨op=5∨op=20 then 1 else if op=12 then shK kids else if isG op then 2 else 0
theorem ownN_lt (op:Int) (kids:List Pt):ownN op kids<64:=by
 have:=shK_lt kids;unfold ownN
 split
 ·omega
 ·split
  ·omega
  ·split <;> omega
def supO (op:Int) (kids:List Pt):Bool:=decide (op=1∨op=4∨op=5∨op=9∨op=10∨op=11∨(15≤op∧op≤22)∨(op=12∧(kid kids 1).op=1∧(kid kids 1).imm % 64≤8))
mutual
def supF:Pt→Bool
 | .mk v op _ _ kids=>if 0<v then true else supO op kids&&supL kids
def supL:List Pt→Bool
 | []=>true
 | k::ks=>supF k&&supL ks
end
theorem supL_iff:∀l:List Pt,supL l=l.all supF
 | []=>rfl
 | k::ks=>by rw [supL,supL_iff ks];rfl
theorem supF_iff (p:Pt):supF p=if 0<p.v then true else supO p.op p.kids&&p.kids.all supF:=by
 obtain ⟨v,op,imm,iv,kids⟩:=p;rw [supF,supL_iff];rfl
mutual
def bN:Pt→Nat
 | .mk v op _ _ kids=>if 0<v then 0 else ownN op kids+bL kids
def bL:List Pt→Nat
 | []=>0
 | k::ks=>bN k+bL ks
end
theorem bN_iff (p:Pt):bN p=if 0<p.v then 0 else ownN p.op p.kids+bL p.kids:=by
 obtain ⟨v,op,imm,iv,kids⟩:=p;rw [bN];rfl
theorem bL_le:∀(l:List Pt),(∀k∈l,bN k≤64 * k.size)→bL l≤64 * Pt.sizeL l
 | [],_=>by simp [bL]
 | k::ks,h=>by
  have h1:=h k (by simp);have h2:=bL_le ks (fun x hx=>h x (by simp [hx]));simp only [bL,Pt.sizeL];omega
theorem bN_le (p:Pt):bN p≤64 * p.size:=by
 induction p using Pt.ind with
 | h p ih =>
  have h1:=bL_le p.kids ih;have h2:=ownN_lt p.op p.kids;rw [bN_iff,Pt.size_eq]
  split <;> omega
mutual
def gN:Pt→Nat
 | .mk v op _ _ kids=>if 0<v then 0 else (isG op).toNat+gL kids
def gL:List Pt→Nat
 | []=>0
 | k::ks=>gN k+gL ks
end
theorem gN_iff (p:Pt):gN p=if 0<p.v then 0 else (isG p.op).toNat+gL p.kids:=by
 obtain ⟨v,op,imm,iv,kids⟩:=p;rw [gN];rfl
theorem gL_le:∀(l:List Pt),(∀k∈l,gN k≤k.size)→gL l≤Pt.sizeL l
 | [],_=>by simp [gL]
 | k::ks,h=>by
  have h1:=h k (by simp);have h2:=gL_le ks (fun x hx=>h x (by simp [hx]));simp only [gL,Pt.sizeL];omega
theorem gN_le (p:Pt):gN p≤p.size:=by
 induction p using Pt.ind with
 | h p ih =>
  have h1:=gL_le p.kids ih;rw [gN_iff,Pt.size_eq]
  split
  ·omega
  ·cases isG p.op <;> simp <;> omega
def bI (x:Int) (k:Nat):Bool:=(BitVec.ofInt 64 x).getLsbD k
def ordB (m a b:Bool) (sign:Bool):Bool:=if a=b then m else if sign then a else !a
def opB (k:Nat) (op imm:Int) (mine:List Bool) (a b c:Bool):Bool×List Bool :=
 let g:=mine.getD 0 false
 let m:=mine.getD 1 false
 if op=1 then (bI imm k,[]) else if op=9 then (a&&b,[]) else if op=10 then (a || b,[]) else if op=11 then (a ^^ b,[]) else if op=21 then (!a,[])
 else if op=4 then ((a ^^ b) ^^ g,[a&&b || a&&g || b&&g]) else if op=5 then ((a ^^ b) ^^ g,[!a&&b || !(a ^^ b)&&g]) else if op=20 then (!a ^^ g,[!a&&g])
 else if op=12 then ((mine++[a]).headD false,(mine++[a]).tail)
 else if op=22 then (if g then b else c,[g,m || a])
 else if op=15∨op=16 then (decide (k=0)&&g,[g,m&&(a==b)])
 else (decide (k=0)&&g,[g,ordB m a b (decide (k=63∧op≠19))])
def opBit (k:Nat) (op imm:Int) (mine vs:List Bool):Bool×List Bool:=opB k op imm mine (vs.getD 0 false) (vs.getD 1 false) (vs.getD 2 false)
mutual
def bitP (k:Nat) (ins:Nat→Bool):Pt→List Bool→Bool×List Bool×List Bool
 | .mk v op imm _ kids,old=>if 0<v then (ins (v - 1).toNat,old,[]) else
  ((opBit k op imm (old.take (ownN op kids)) (bitL k ins kids (old.drop (ownN op kids))).1).1,(bitL k ins kids (old.drop (ownN op kids))).2.1,
   (opBit k op imm (old.take (ownN op kids)) (bitL k ins kids (old.drop (ownN op kids))).1).2++(bitL k ins kids (old.drop (ownN op kids))).2.2)
def bitL (k:Nat) (ins:Nat→Bool):List Pt→List Bool→List Bool×List Bool×List Bool
 | [],old=>([],old,[])
 | p::ps,old=>((bitP k ins p old).1::(bitL k ins ps (bitP k ins p old).2.1).1,(bitL k ins ps (bitP k ins p old).2.1).2.1,(bitP k ins p old).2.2++(bitL k ins ps (bitP k ins p old).2.1).2.2)
end
theorem bitP_var {p:Pt} (h:0<p.v) (k:Nat) (ins:Nat→Bool) (old:List Bool):bitP k ins p old=(ins (p.v - 1).toNat,old,[]):=by
 obtain ⟨v,op,imm,iv,kids⟩:=p;rw [bitP,if_pos (show 0<v from h)];rfl
theorem bitP_op {p:Pt} (h:¬0<p.v) (k:Nat) (ins:Nat→Bool) (old:List Bool) {r:List Bool×List Bool×List Bool} (hr:bitL k ins p.kids (old.drop (ownN p.op p.kids))=r) :
  bitP k ins p old=((opBit k p.op p.imm (old.take (ownN p.op p.kids)) r.1).1,r.2.1,(opBit k p.op p.imm (old.take (ownN p.op p.kids)) r.1).2++r.2.2):=by
 obtain ⟨v,op,imm,iv,kids⟩:=p;subst hr;rw [bitP,if_neg (show ¬0<v from h)];rfl
theorem opBit_len {k:Nat} {op imm:Int} {kids:List Pt} {mine vs:List Bool} (hs:supO op kids=true) (hm:mine.length=ownN op kids):(opBit k op imm mine vs).2.length=ownN op kids:=by
 unfold supO at hs;have hs:=of_decide_eq_true hs;have hg:∀{q:Int},op=q→isG op=isG q:=fun h=>by rw [h]
 rcases hs with h | h | h | h | h | h | h | h
 all_goals first
  | (subst h;rfl)
  | skip
 ·have : op=15∨op=16∨op=17∨op=18∨op=19∨op=20∨op=21∨op=22:=by omega
  rcases this with rfl | rfl | rfl | rfl | rfl | rfl | rfl | rfl <;> rfl
 ·obtain ⟨rfl,_⟩:=h;show ((mine++[vs.getD 0 false]).tail).length=_;rw [List.length_tail,List.length_append,List.length_singleton,hm];omega
theorem bitP_app (k:Nat) (ins:Nat→Bool) (p:Pt):supF p=true→∀mine:List Bool,mine.length=bN p→∃b now,now.length=bN p∧∀rest,bitP k ins p (mine++rest)=(b,rest,now):=by
 induction p using Pt.ind with
 | h p ih =>
  intro hs mine hm;by_cases hv:0<p.v
  ·rw [bN_iff,if_pos hv] at hm;have : mine=[]:=List.length_eq_zero_iff.1 hm;subst this;exact ⟨ins (p.v - 1).toNat,[],by rw [bN_iff,if_pos hv];rfl,fun rest=>by rw [List.nil_append,bitP_var hv]⟩
  ·rw [supF_iff,if_neg hv,Bool.and_eq_true] at hs;rw [bN_iff,if_neg hv] at hm
   have hl:∀(l:List Pt),(∀q∈l,q∈p.kids)→∀mine:List Bool,mine.length=bL l→∃bs now,now.length=bL l∧bs.length=l.length∧∀rest,bitL k ins l (mine++rest)=(bs,rest,now):=by
    intro l
    induction l with
    | nil=>intro _ mine hm;have : mine=[]:=List.length_eq_zero_iff.1 hm;subst this;exact ⟨[],[],rfl,rfl,fun rest=>rfl⟩
    | cons q qs ihl =>
     intro hq mine hm;simp only [bL] at hm;have hq1:supF q=true:=List.all_eq_true.1 hs.2 q (hq q (by simp));obtain ⟨b,now,hn,hb⟩:=ih q (hq q (by simp)) hq1 (mine.take (bN q)) (by rw [List.length_take];omega);obtain ⟨bs,now2,hn2,hbl,hb2⟩:=ihl (fun x hx=>hq x (by simp [hx])) (mine.drop (bN q)) (by rw [List.length_drop];omega);refine ⟨b::bs,now++now2,by rw [List.length_append,hn,hn2];rfl,by simp [hbl],fun rest=>?_⟩;have e:mine++rest=mine.take (bN q)++(mine.drop (bN q)++rest):=by rw [←List.append_assoc,List.take_append_drop]
     rw [e];simp only [bitL,hb,hb2]
   obtain ⟨bs,now,hn,_,hb⟩:=hl p.kids (fun q h=>h) (mine.drop (ownN p.op p.kids)) (by rw [List.length_drop];omega);refine ⟨(opBit k p.op p.imm (mine.take (ownN p.op p.kids)) bs).1,(opBit k p.op p.imm (mine.take (ownN p.op p.kids)) bs).2++now,?_,fun rest=>?_⟩
   ·rw [List.length_append,hn,bN_iff,if_neg hv,opBit_len hs.1 (by rw [List.length_take];omega)]
   ·have e1:(mine++rest).drop (ownN p.op p.kids)=mine.drop (ownN p.op p.kids)++rest:=by rw [List.drop_append_of_le_length (by omega)]
    have e2:(mine++rest).take (ownN p.op p.kids)=mine.take (ownN p.op p.kids):=by rw [List.take_append_of_le_length (by omega)]
    rw [bitP_op hv k ins _ (r:=(bs,rest,now)) (by rw [e1];exact hb rest),e2]
def cdBit (k:Nat) (ins:Nat→Bool) (c:Cd) (m:Bool):Bool :=
 if c.kind=1 then m || ins (c.a - 1).toNat else if c.kind=4 then m || (ins (c.a - 1).toNat ^^ ins (c.b - 1).toNat)
 else if c.kind=2 then ordB m (bI c.n k) (ins (c.a - 1).toNat) (decide (k=63)) else if c.kind=3 then ordB m (ins (c.a - 1).toNat) (bI c.n k) (decide (k=63)) else m
def stN (r:Rl):Nat:=bN r.l+bN r.r+r.conds.length+1
def succF (k:Nat) (ins:Nat→Bool) (r:Rl) (old:List Bool):List Bool :=
 (bitP k ins r.l old).2.2++(bitP k ins r.r (bitP k ins r.l old).2.1).2.2 ++
 List.zipWith (cdBit k ins) r.conds (bitP k ins r.r (bitP k ins r.l old).2.1).2.1 ++
 [(bitP k ins r.r (bitP k ins r.l old).2.1).2.1.getD r.conds.length false || ((bitP k ins r.l old).1 ^^ (bitP k ins r.r (bitP k ins r.l old).2.1).1)]
theorem succF_len {r:Rl} (hl:supF r.l=true) (hr:supF r.r=true) (k:Nat) (ins:Nat→Bool) {old:List Bool} (h:old.length=stN r):(succF k ins r old).length=stN r:=by
 unfold stN at h;obtain ⟨b,now,hn,hb⟩:=bitP_app k ins r.l hl (old.take (bN r.l)) (by rw [List.length_take];omega);obtain ⟨b2,now2,hn2,hb2⟩:=bitP_app k ins r.r hr ((old.drop (bN r.l)).take (bN r.r)) (by rw [List.length_take,List.length_drop];omega);have e1:=hb (old.drop (bN r.l));rw [List.take_append_drop] at e1;have e2:=hb2 ((old.drop (bN r.l)).drop (bN r.r));rw [List.take_append_drop] at e2;unfold succF stN;simp only [e1,e2,List.length_append,hn,hn2,List.length_zipWith,List.length_drop,List.length_singleton];omega
def inO (op:Int) (n:Nat) (g:Bool):List Bool:=if op=20 then [true] else if op=4∨op=5 then [false] else if op=12 then List.replicate n false else if isG op then [g,decide (op=15∨op=16∨op=18)] else []
mutual
def inP (g:Nat→Bool):Pt→Nat→List Bool
 | .mk v op _ _ kids,i=>if 0<v then [] else inO op (ownN op kids) (g i)++inL g kids (i+(isG op).toNat)
def inL (g:Nat→Bool):List Pt→Nat→List Bool
 | [],_=>[]
 | k::ks,i=>inP g k i++inL g ks (i+gN k)
end
theorem inP_iff (g:Nat→Bool) (p:Pt) (i:Nat):inP g p i=if 0<p.v then [] else inO p.op (ownN p.op p.kids) (g i)++inL g p.kids (i+(isG p.op).toNat):=by
 obtain ⟨v,op,imm,iv,kids⟩:=p;rw [inP];rfl
theorem inO_len (op:Int) (kids:List Pt) (g:Bool):(inO op (ownN op kids) g).length=ownN op kids:=by
 unfold inO ownN
 split
 ·rename_i h;subst h;rfl
 ·split
  ·rename_i h;rw [if_pos (by omega)];rfl
  ·split
   ·rename_i h1 h2 h;rw [if_neg (by omega),List.length_replicate]
   ·split
    ·rename_i h;rw [if_neg (by omega)];rfl
    ·rw [if_neg (by omega)];rfl
theorem inP_len (g:Nat→Bool) (p:Pt):∀i,(inP g p i).length=bN p:=by
 induction p using Pt.ind with
 | h p ih =>
  intro i;rw [inP_iff,bN_iff]
  split
  ·rfl
  ·have : ∀(l:List Pt),(∀q∈l,q∈p.kids)→∀i,(inL g l i).length=bL l:=by
    intro l
    induction l with
    | nil=>intro _ i;rfl
    | cons q qs ihl=>intro h i;rw [inL,List.length_append,ih q (h q (by simp)),ihl (fun x hx=>h x (by simp [hx]))];rfl
   rw [List.length_append,inO_len,this _ (fun q h=>h)]
def cdIn (c:Cd):Bool:=decide (c.kind=2∨c.kind=3)
def initF (g:Nat→Bool) (r:Rl):List Bool:=inP g r.l 0++inP g r.r (gN r.l)++r.conds.map cdIn++[false]
theorem initF_len (g:Nat→Bool) (r:Rl):(initF g r).length=stN r:=by unfold initF stN;simp [inP_len];omega
def gR (r:Rl):Nat:=gN r.l+gN r.r
def initsF (r:Rl):List (List Bool):=(List.range (2 ^ gR r)).map fun h=>initF h.testBit r
def gOk (op:Int) (mine:List Bool):Bool:=if isG op then (if op=16 then mine.getD 0 false != mine.getD 1 false else mine.getD 0 false==mine.getD 1 false) else true
mutual
def gRP:Pt→List Bool→Bool×List Bool
 | .mk v op _ _ kids,b=>if 0<v then (true,b) else (gOk op (b.take (ownN op kids))&&(gRL kids (b.drop (ownN op kids))).1,(gRL kids (b.drop (ownN op kids))).2)
def gRL:List Pt→List Bool→Bool×List Bool
 | [],b=>(true,b)
 | k::ks,b=>((gRP k b).1&&(gRL ks (gRP k b).2).1,(gRL ks (gRP k b).2).2)
end
theorem gRP_iff (p:Pt) (b:List Bool):gRP p b=if 0<p.v then (true,b) else (gOk p.op (b.take (ownN p.op p.kids))&&(gRL p.kids (b.drop (ownN p.op p.kids))).1,(gRL p.kids (b.drop (ownN p.op p.kids))).2):=by
 obtain ⟨v,op,imm,iv,kids⟩:=p;rw [gRP];rfl
def safeF (r:Rl) (b:List Bool):Bool:=!((gRP r.l b).1&&(gRP r.r (gRP r.l b).2).1&&((gRP r.r (gRP r.l b).2).2.take r.conds.length).all id&&(gRP r.r (gRP r.l b).2).2.getD r.conds.length false)
theorem gRP_rest (p:Pt):∀b:List Bool,(gRP p b).2=b.drop (bN p):=by
 induction p using Pt.ind with
 | h p ih =>
  intro b;rw [gRP_iff,bN_iff]
  split
  ·rfl
  ·have : ∀(l:List Pt),(∀q∈l,q∈p.kids)→∀b:List Bool,(gRL l b).2=b.drop (bL l):=by
    intro l
    induction l with
    | nil=>intro _ b;rfl
    | cons q qs ihl=>intro h b;rw [gRL,ih q (h q (by simp)),ihl (fun x hx=>h x (by simp [hx])),List.drop_drop];rfl
   rw [this _ (fun q h=>h),List.drop_drop]
def applF (r:Rl):Bool:=implF r&&decide (r.imms=0)&&supF r.l&&supF r.r&&decide (gR r≤6)&&r.conds.all fun c=>decide (1≤c.kind∧c.kind≤4)
def ltB:List Bool→List Bool→Bool
 | [],[]=>false
 | [],_::_=>true
 | _::_,[]=>false
 | a::xs,b::ys=>if a=b then ltB xs ys else !a
def insB (x:List Bool):List (List Bool)→List (List Bool)
 | []=>[x]
 | y::ys=>if ltB y x then y::insB x ys else if y=x then y::ys else x::y::ys
def sortB (l:List (List Bool)):List (List Bool):=l.foldl (fun a x=>insB x a) []
def succsF (r:Rl) (k:Nat) (b:List Bool):List (List Bool):=(List.range (2 ^ r.vars.toNat)).map fun h=>succF k h.testBit r b
def lvl (r:Rl):Nat→List (List Bool)
 | 0=>sortB (initsF r)
 | k+1=>sortB ((lvl r k).flatMap (succsF r k))
def lvls (r:Rl) (n:Nat):List (Nat×List Bool):=(List.range n).flatMap fun k=>(lvl r k).map fun b=>(k,b)
def autF (r:Rl):Option (List (Nat×List Bool)):=if applF r=true∧(lvls r 65).length≤4096∧(lvl r 64).all (safeF r)=true then some (lvls r 65) else none
def divF (a b:Int):Int:=if b=0 then 0 else if b = -1 then wrap64 (-a) else wrap64 (a.tdiv b)
def bW (b:Bool):Int:=if b then 1 else 0
def unF (op a:Int):Int:=if op=20 then wrap64 (-a) else if op=21 then bits .xor .i64 (-1) a else 0
def shF (b:Int):Nat:=min (IntKind.u64.wrap (bits .and .i64 b 63)).toNat 64
def remF (a b:Int):Int:=if b=0 then 0 else wrap64 (a - wrap64 (divF a b * b))
def binF (op a b:Int):Int :=
 if op=4 then wrap64 (a+b) else if op=5 then wrap64 (a - b) else if op=6 then wrap64 (a * b) else if op=7 then divF a b else if op=8 then remF a b
 else if op=9 then bits .and .i64 a b else if op=10 then bits .or .i64 a b else if op=11 then bits .xor .i64 a b
 else if op=12 then wrap64 (a * 2 ^ shF b) else if op=13 then wrap64 (IntKind.u64.wrap a / 2 ^ shF b) else if op=14 then a / 2 ^ shF b
 else if op=15 then bW (a==b) else if op=16 then bW (a != b) else if op=17 then bW (decide (a<b)) else if op=18 then bW (decide (a≤b)) else if op=19 then bW (decide (IntKind.u64.wrap a<IntKind.u64.wrap b)) else 0
def allS:List (Option Int)→Option (List Int)
 | []=>some []
 | none::_=>none
 | some x::l=>match allS l with
  | none=>none
  | some r=>some (x::r)
theorem allS_snoc:∀(l:List (Option Int)) (x:Option Int),allS (l++[x])=match allS l,x with | some r,some y=>some (r++[y]) | _,_=>none
 | [],none=>rfl
 | [],some _=>rfl
 | none::l,x=>by simp only [List.cons_append,allS]
 | some a::l,x=>by
  simp only [List.cons_append,allS,allS_snoc l x];cases allS l <;> cases x <;> rfl
theorem allS_none:∀{l:List (Option Int)},none∈l→allS l=none
 | none::l,_=>rfl
 | some a::l,h=>by
  have:=allS_none (l:=l) (by simpa using h);simp only [allS,this]
def evOp (op imm iv:Int) (k:List Int):Option Int :=
 if 0<iv then none else if op=1 then some imm else if op=20∨op=21 then some (unF op (k.getD 0 0)) else if 4≤op∧op≤19 then some (binF op (k.getD 0 0) (k.getD 1 0))
 else if op=22 then some (if k.getD 0 0≠0 then k.getD 1 0 else k.getD 2 0) else none
mutual
def evF (ins:List Int):Pt→Option Int
 | .mk v op imm iv kids=>if 0<v then some (ins.getD (v - 1).toNat 0) else match allS (evL ins kids) with | none=>none | some k=>evOp op imm iv k
def evL (ins:List Int):List Pt→List (Option Int)
 | []=>[]
 | k::ks=>evF ins k::evL ins ks
end
theorem evL_eq (ins:List Int):∀l:List Pt,evL ins l=l.map (evF ins)
 | []=>by simp only [evL,List.map_nil]
 | k::ks=>by simp only [evL,evL_eq ins ks,List.map_cons]
theorem evF_eq (ins:List Int) (p:Pt):evF ins p=if 0<p.v then some (ins.getD (p.v - 1).toNat 0) else match allS (p.kids.map (evF ins)) with | none=>none | some k=>evOp p.op p.imm p.iv k:=by
 obtain ⟨v,op,imm,iv,kids⟩:=p;rw [evF,evL_eq];rfl
def evR (o:Option Int):Ending:=.returned (.tuple #[.int .i64 (o.getD 0),.bool o.isSome])
theorem oSorts_len (op:Int):((op=20∨op=21)→(oSortsF op).1.length=1)∧(4≤op∧op≤19→(oSortsF op).1.length=2)∧(op=22→(oSortsF op).1.length=3):=by
 refine ⟨fun h=>?_,fun h=>?_,fun h=>?_⟩
 ·rcases h with rfl | rfl <;> rfl
 ·unfold oSortsF;rw [if_neg (by omega),if_neg (by omega),if_neg (by omega),if_neg (by omega),if_neg (by omega),if_pos (by omega),if_neg (by omega),if_neg (by omega)];rfl
 ·subst h;rfl
def uW (x:Int):Nat:=(BitVec.ofInt 64 x).toNat
theorem uW_eq (x:Int):(uW x:Int)=x % 18446744073709551616:=by
 unfold uW;rw [BitVec.toNat_ofInt];have : (0:Int)≤x % ((2 ^ 64:Nat):Int):=Int.emod_nonneg _ (by decide);rw [Int.toNat_of_nonneg this];rfl
theorem uW_lt (x:Int):uW x<18446744073709551616:=by have:=uW_eq x;omega
theorem bI_eq (x:Int) (k:Nat):bI x k=(uW x).testBit k:=rfl
theorem uW_wrap (x:Int):uW (wrap64 x)=uW x:=by
 have h1:=uW_eq (wrap64 x);have h2:=uW_eq x;have h3:wrap64 x % 18446744073709551616=x % 18446744073709551616:=by unfold wrap64;omega
 omega
theorem wrap64_mod' (x:Int):IntKind.i64.wrap x % 18446744073709551616=x % 18446744073709551616:=by
 show (let m:=x % (2 ^ 64:Int);if true&&m ≥ (2 ^ 63:Int) then m - (2 ^ 64:Int) else m) % _=_;simp only [Bool.true_and,decide_eq_true_eq]
 split <;> omega
theorem uW_inj {x y:Int} (hx:I64 x) (hy:I64 y) (h:uW x=uW y):x=y:=by
 have h1:=uW_eq x;have h2:=uW_eq y;unfold I64 at hx hy;omega
theorem bI_wrap (x:Int) (k:Nat):bI (wrap64 x) k=bI x k:=by rw [bI_eq,bI_eq,uW_wrap]
def lo (x:Int) (k:Nat):Nat:=uW x % 2 ^ k
theorem lo_lt (x:Int) (k:Nat):lo x k<2 ^ k:=Nat.mod_lt _ (Nat.two_pow_pos k)
theorem lo_zero (x:Int):lo x 0=0:=by unfold lo;omega
theorem lo_succ (x:Int) (k:Nat):lo x (k+1)=lo x k+2 ^ k * (bI x k).toNat:=by unfold lo;rw [bI_eq,Nat.mod_pow_succ,Nat.toNat_testBit]
theorem lo_all (x:Int):lo x 64=uW x:=Nat.mod_eq_of_lt (uW_lt x)
theorem lo_add (a b:Int) {k:Nat} (hk:k≤64):lo (a+b) k=(lo a k+lo b k) % 2 ^ k:=by
 unfold lo
 have h1:uW (a+b)=(uW a+uW b) % 2 ^ 64:=by
  have:=uW_eq (a+b);have:=uW_eq a;have:=uW_eq b;omega
 rw [h1,Nat.mod_mod_of_dvd _ (Nat.pow_dvd_pow 2 hk),←Nat.add_mod]
theorem lo_add' (a b:Int) {k:Nat} (hk:k≤64):lo (a+b) k+(if 2 ^ k≤lo a k+lo b k then 2 ^ k else 0)=lo a k+lo b k:=by
 rw [lo_add a b hk];have h1:=lo_lt a k;have h2:=lo_lt b k
 split
 ·rw [Nat.mod_eq_sub_mod (by assumption),Nat.mod_eq_of_lt (by omega)];omega
 ·rw [Nat.mod_eq_of_lt (by omega)];omega
def cyA (a b:Int) (k:Nat):Bool:=decide (2 ^ k≤lo a k+lo b k)
theorem cy_add (a b:Int) {k:Nat} (hk:k<64):bI (a+b) k=((bI a k ^^ bI b k) ^^ cyA a b k)∧cyA a b (k+1)=(bI a k&&bI b k || bI a k&&cyA a b k || bI b k&&cyA a b k):=by
 have h0:=lo_add' a b (Nat.le_of_lt hk);have h1:=lo_add' a b (show k+1≤64 by omega);have l0:=lo_lt a k;have l1:=lo_lt b k;have l2:=lo_lt (a+b) k;unfold cyA;rw [lo_succ,lo_succ a,lo_succ b] at h1;rw [lo_succ a,lo_succ b];rw [Nat.pow_succ] at h1 ⊢;generalize 2 ^ k=P at *;generalize lo a k=A at *;generalize lo b k=B at *;generalize lo (a+b) k=V at *;generalize bI a k=x at *;generalize bI b k=y at *;generalize bI (a+b) k=z at *;cases x <;> cases y <;> cases z <;> by_cases hc:P≤A+B <;> simp only [hc,if_true,if_false,Bool.toNat_true,Bool.toNat_false,Nat.mul_one,Nat.mul_zero,Nat.add_zero,decide_true,decide_false,Bool.xor_false,Bool.xor_true,Bool.not_false,Bool.not_true,Bool.and_true,Bool.and_false,Bool.or_true,Bool.or_false,decide_eq_true_eq,decide_eq_false_iff_not,true_and,false_and,reduceCtorEq] at h0 h1 ⊢ <;> (split at h1 <;> omega)
theorem cy_zero (a b:Int):cyA a b 0=false:=by unfold cyA;rw [lo_zero,lo_zero];rfl
theorem cy_sub (a b:Int) {k:Nat} (hk:k≤64):cyA (a - b) b k=decide (lo a k<lo b k):=by
 have h:=lo_add' (a - b) b hk;rw [show a - b+b=a by omega] at h;have l0:=lo_lt a k;have l1:=lo_lt b k;have l2:=lo_lt (a - b) k;unfold cyA;rw [Bool.eq_iff_iff,decide_eq_true_iff,decide_eq_true_iff]
 split at h <;> omega
theorem bb_sub (a b:Int) {k:Nat} (hk:k<64):bI (a - b) k=((bI a k ^^ bI b k) ^^ decide (lo a k<lo b k)) ∧
  decide (lo a (k+1)<lo b (k+1))=(!bI a k&&bI b k || !(bI a k ^^ bI b k)&&decide (lo a k<lo b k)):=by
 obtain ⟨h1,h2⟩:=cy_add (a - b) b hk;rw [cy_sub a b (Nat.le_of_lt hk)] at h1 h2;rw [cy_sub a b (show k+1≤64 by omega)] at h2;rw [show a - b+b=a by omega] at h1;rw [h2,h1];cases bI (a - b) k <;> cases bI b k <;> cases decide (lo a k<lo b k) <;> decide
theorem bb_neg (a:Int) {k:Nat} (hk:k<64):bI (-a) k=(!bI a k ^^ decide (lo a k=0))∧decide (lo a (k+1)=0)=(!bI a k&&decide (lo a k=0)):=by
 have h1:=(bb_sub 0 a hk).1;rw [show (0:Int) - a = -a by omega] at h1;have z1:bI 0 k=false:=by rw [bI_eq];exact Nat.zero_testBit k
 have z2:lo 0 k=0:=Nat.zero_mod _;rw [z1,z2] at h1;have e:decide (0<lo a k)=!decide (lo a k=0):=by rw [Bool.eq_iff_iff];simp;omega
 refine ⟨by rw [h1,e];cases bI a k <;> cases decide (lo a k=0) <;> rfl,?_⟩;rw [lo_succ];have:=Nat.two_pow_pos k;cases bI a k
 ·simp
 ·simp
theorem bI_bv (v:BitVec 64) (k:Nat):bI (IntKind.i64.wrap v.toNat) k=v.getLsbD k:=by
 have h:uW (IntKind.i64.wrap v.toNat)=v.toNat:=by
  have h1:IntKind.i64.wrap (v.toNat:Int) % 18446744073709551616=(v.toNat:Int) % 18446744073709551616:=wrap64_mod' _;have h2:=uW_eq (IntKind.i64.wrap v.toNat);have h3:=v.isLt;omega
 rw [bI_eq,h];rfl
theorem bb_and (a b:Int) (k:Nat):bI (bits .and .i64 a b) k=(bI a k&&bI b k):=(bI_bv _ k).trans (BitVec.getLsbD_and ..)
theorem bb_or (a b:Int) (k:Nat):bI (bits .or .i64 a b) k=(bI a k || bI b k):=(bI_bv _ k).trans (BitVec.getLsbD_or ..)
theorem bb_xor (a b:Int) (k:Nat):bI (bits .xor .i64 a b) k=(bI a k ^^ bI b k):=(bI_bv _ k).trans (BitVec.getLsbD_xor ..)
theorem bI_m1 {k:Nat} (hk:k<64):bI (-1) k=true:=by
 show (BitVec.ofInt 64 (-1)).getLsbD k=true;rw [show BitVec.ofInt 64 (-1)=BitVec.allOnes 64 from by decide,BitVec.getLsbD_allOnes];exact dT_ hk
theorem bb_not (a:Int) {k:Nat} (hk:k<64):bI (bits .xor .i64 (-1) a) k=!bI a k:=by rw [bb_xor,bI_m1 hk,Bool.true_xor]
theorem bb_shl (a:Int) (c:Nat) {k:Nat} (hk:k<64):bI (wrap64 (a * 2 ^ c)) k=(decide (c≤k)&&bI a (k - c)):=by
 rw [bI_wrap,bI_eq,bI_eq]
 have h:uW (a * 2 ^ c)=(2 ^ c * uW a) % 2 ^ 64:=by
  have h1:=uW_eq (a * 2 ^ c);have h2:=uW_eq a;apply Int.ofNat.inj;show (uW (a * 2 ^ c):Int)=((2 ^ c * uW a % 2 ^ 64:Nat):Int);rw [h1,Int.natCast_emod,Int.natCast_mul,h2,Int.mul_comm a];show _=((2 ^ c:Nat):Int) * (a % 18446744073709551616) % 18446744073709551616;rw [Int.natCast_pow];show _=2 ^ c * (a % 18446744073709551616) % 18446744073709551616;rw [Int.mul_emod (2 ^ c) a,Int.mul_emod (2 ^ c) (a % _),Int.emod_emod]
 rw [h,Nat.testBit_mod_two_pow,Nat.testBit_two_pow_mul];simp [hk]
theorem fl_eq (a b:Int) (k:Nat):decide (lo a (k+1)=lo b (k+1))=(decide (lo a k=lo b k)&&(bI a k==bI b k)):=by
 rw [lo_succ,lo_succ b];have l0:=lo_lt a k;have l1:=lo_lt b k;generalize 2 ^ k=P at *;rw [Bool.eq_iff_iff];cases bI a k <;> cases bI b k <;> simp <;> omega
theorem fl_lt (a b:Int) (k:Nat):decide (lo a (k+1)<lo b (k+1))=ordB (decide (lo a k<lo b k)) (bI a k) (bI b k) false:=by
 rw [lo_succ,lo_succ b];have l0:=lo_lt a k;have l1:=lo_lt b k;generalize 2 ^ k=P at *;unfold ordB;rw [Bool.eq_iff_iff];cases bI a k <;> cases bI b k <;> simp <;> omega
theorem fl_le (a b:Int) (k:Nat):decide (lo a (k+1)≤lo b (k+1))=ordB (decide (lo a k≤lo b k)) (bI a k) (bI b k) false:=by
 rw [lo_succ,lo_succ b];have l0:=lo_lt a k;have l1:=lo_lt b k;generalize 2 ^ k=P at *;unfold ordB;rw [Bool.eq_iff_iff];cases bI a k <;> cases bI b k <;> simp <;> omega
theorem fl_ne0 (a:Int) (k:Nat):decide (lo a (k+1)≠0)=(decide (lo a k≠0) || bI a k):=by
 rw [lo_succ];have:=Nat.two_pow_pos k;cases bI a k <;> simp
theorem i64_sign {x:Int} (h:I64 x):x=(lo x 63:Int) - 9223372036854775808 * ((bI x 63).toNat:Int):=by
 have h1:=lo_succ x 63;have h2:=lo_all x;have h3:=uW_eq x;have h4:=lo_lt x 63;unfold I64 at h;rw [show 63+1=64 from rfl,h2] at h1;rw [show (2:Nat) ^ 63=9223372036854775808 from rfl] at h1 h4;cases hb:bI x 63 <;> rw [hb] at h1 <;> simp only [Bool.toNat_true,Bool.toNat_false] at h1 ⊢ <;> omega
theorem sg_lt {a b:Int} (ha:I64 a) (hb:I64 b):decide (a<b)=ordB (decide (lo a 63<lo b 63)) (bI a 63) (bI b 63) true:=by
 have h1:=i64_sign ha;have h2:=i64_sign hb;have l0:=lo_lt a 63;have l1:=lo_lt b 63;rw [show (2:Nat) ^ 63=9223372036854775808 from rfl] at l0 l1;unfold ordB;rw [Bool.eq_iff_iff];cases hx:bI a 63 <;> cases hy:bI b 63 <;> rw [hx] at h1 <;> rw [hy] at h2 <;> simp at h1 h2 ⊢ <;> omega
theorem sg_le {a b:Int} (ha:I64 a) (hb:I64 b):decide (a≤b)=ordB (decide (lo a 63≤lo b 63)) (bI a 63) (bI b 63) true:=by
 have h1:=i64_sign ha;have h2:=i64_sign hb;have l0:=lo_lt a 63;have l1:=lo_lt b 63;rw [show (2:Nat) ^ 63=9223372036854775808 from rfl] at l0 l1;unfold ordB;rw [Bool.eq_iff_iff];cases hx:bI a 63 <;> cases hy:bI b 63 <;> rw [hx] at h1 <;> rw [hy] at h2 <;> simp at h1 h2 ⊢ <;> omega
def sLt (a b:Int) (k:Nat):Bool:=if k=64 then decide (a<b) else decide (lo a k<lo b k)
def sLe (a b:Int) (k:Nat):Bool:=if k=64 then decide (a≤b) else decide (lo a k≤lo b k)
theorem sLt_succ {a b:Int} (ha:I64 a) (hb:I64 b) {k:Nat} (hk:k<64):sLt a b (k+1)=ordB (sLt a b k) (bI a k) (bI b k) (decide (k=63)):=by
 unfold sLt;rw [if_neg (show ¬k=64 by omega)];by_cases h:k=63
 ·subst h;rw [if_pos rfl];exact sg_lt ha hb
 ·rw [if_neg (by omega),dF_ h];exact fl_lt a b k
theorem sLe_succ {a b:Int} (ha:I64 a) (hb:I64 b) {k:Nat} (hk:k<64):sLe a b (k+1)=ordB (sLe a b k) (bI a k) (bI b k) (decide (k=63)):=by
 unfold sLe;rw [if_neg (show ¬k=64 by omega)];by_cases h:k=63
 ·subst h;rw [if_pos rfl];exact sg_le ha hb
 ·rw [if_neg (by omega),dF_ h];exact fl_le a b k
theorem uW_u64 (x:Int):IntKind.u64.wrap x=(uW x:Int):=by
 rw [uW_eq];show (let m:=x % (2 ^ 64:Int);if false&&m ≥ (2 ^ 63:Int) then m - (2 ^ 64:Int) else m)=_;simp
theorem bI_bool (b:Bool) (k:Nat):bI (bW b) k=(decide (k=0)&&b):=by
 cases b
 ·rw [Bool.and_false];exact Nat.zero_testBit k
 ·rw [Bool.and_true];show (1:Nat).testBit k=_
  cases k with
  | zero=>rfl
  | succ k=>rw [Nat.testBit_succ];exact Nat.zero_testBit k
theorem word_ext {x y:Int} (hx:I64 x) (hy:I64 y) (h:∀k,k<64→bI x k=bI y k):x=y:=by
 refine uW_inj hx hy (Nat.eq_of_testBit_eq fun i=>?_);by_cases hi:i<64
 ·exact h i hi
 ·rw [Nat.testBit_lt_two_pow (Nat.lt_of_lt_of_le (uW_lt x) (Nat.pow_le_pow_right (n:=2) (by decide) (show 64≤i by omega))),Nat.testBit_lt_two_pow (Nat.lt_of_lt_of_le (uW_lt y) (Nat.pow_le_pow_right (n:=2) (by decide) (show 64≤i by omega)))]
def PI (p:Pt):Prop:=∀q∈nodes p,I64 q.imm
structure RlI (R:Rl):Prop where
 l:PI R.l
 r:PI R.r
 c:∀x∈R.conds,I64 x.n
theorem nodes_self (p:Pt):p∈nodes p:=by cases p;simp [nodes]
theorem nodesL_mem {q k:Pt}:∀{ks:List Pt},k∈ks→q∈nodes k→q∈nodesL ks
 | x::ks,hk,hq=>by
  simp only [nodesL,List.mem_append];rcases List.mem_cons.1 hk with rfl | hk
  ·exact .inl hq
  ·exact .inr (nodesL_mem hk hq)
theorem PI.kid {p k:Pt} (h:PI p) (hk:k∈p.kids):PI k:=fun q hq=>h q (by
 cases p
 simp only [nodes,List.mem_cons]
 exact .inr (nodesL_mem hk hq))
abbrev Mon:=List UInt8
abbrev PL:=List (Mon×Int)
def scale (a:Int) (l:PL):PL:=l.map fun t=>(t.1,a * t.2)
def madd (a b:Mon):Mon:=List.zipWith (·+·) a b
def shiftP (j:Mon) (c:Int) (l:PL):PL:=l.map fun t=>(madd j t.1,c * t.2)
def pairs (a b:PL):PL:=a.flatMap fun s=>shiftP s.1 s.2 b
def zeroM (n:Nat):Mon:=List.replicate n 0
def unitM (n k:Nat):Mon:=(List.replicate n 0).set k 1
def combine (n:Nat) (op:Int) (l:List PL):Option PL :=
 if op=4 then some (l.getD 0 []++l.getD 1 [])
 else if op=5 then some (l.getD 0 []++scale (-1) (l.getD 1 []))
 else if op=6 then some (pairs (l.getD 0 []) (l.getD 1 []))
 else if op=20 then some (scale (-1) (l.getD 0 []))
 else if op=21 then some ((zeroM n,-1)::scale (-1) (l.getD 0 []))
 else none
def allSome:List (Option PL)→Option (List PL)
 | []=>some []
 | none::_=>none
 | some x::l=>match allSome l with
  | none=>none
  | some r=>some (x::r)
mutual
def tm (n:Nat):Pt→Option PL
 | .mk v op imm _ kids =>
  if 0<v then some [(unitM n (v - 1).toNat,1)]
  else if op=1 then some [(zeroM n,imm)]
  else if op=12 then
   match (tmL n kids).getD 0 none with
   | none=>none
   | some l=>if (kids.map (·.op)).getD 1 0=1 then some (scale (2 ^ shF ((kids.map (·.imm)).getD 1 0)) l) else none
  else match allSome (tmL n kids) with
   | none=>none
   | some l=>combine n op l
def tmL (n:Nat):List Pt→List (Option PL)
 | []=>[]
 | k::ks=>tm n k::tmL n ks
end
theorem tmL_eq (n:Nat):∀l:List Pt,tmL n l=l.map (tm n)
 | []=>by simp only [tmL,List.map_nil]
 | k::ks=>by simp only [tmL,tmL_eq n ks,List.map_cons]
mutual
def WfP (n:Nat):Pt→Prop
 | .mk v op _ _ kids=>0≤v∧v≤n∧(v=0→kids.length=(oSortsF op).1.length)∧WfL n kids
def WfL (n:Nat):List Pt→Prop
 | []=>True
 | k::ks=>WfP n k∧WfL n ks
end
theorem WfL.iff (n:Nat):∀l:List Pt,WfL n l↔∀k∈l,WfP n k
 | []=>by simp [WfL]
 | k::ks=>by simp [WfL,WfL.iff n ks]
theorem WfP.iff (n:Nat) (p:Pt):WfP n p↔0≤p.v∧p.v≤n∧(p.v=0→p.kids.length=(oSortsF p.op).1.length)∧∀k∈p.kids,WfP n k:=by
 obtain ⟨v,op,imm,iv,kids⟩:=p;rw [WfP,WfL.iff];rfl
theorem wf_of_vPt (p:Pt):∀(s m:Int) (vs:List Int),(vPt p s m vs).1=true→WfP vs.length p:=by
 induction p using Pt.ind with
 | h p ih =>
  intro s m vs h;rw [WfP.iff];by_cases hv:p.v=0
  ·rw [vPt_op hv] at h
   split at h
   ·rename_i hc;refine ⟨by omega,by omega,fun _=>hc.2.1,?_⟩
    suffices ∀(ks:List Pt) (ss:List Int) (us:List Int),us.length=vs.length→(∀k∈ks,k∈p.kids)→(vKids ks ss m us).1=true→∀k∈ks,WfP vs.length k from this _ _ _ rfl (fun k hk=>hk) h
    intro ks
    induction ks with
    | nil=>intro ss us _ _ _ k hk;simp at hk
    | cons k ks ihk =>
     intro ss us hu hm hk;simp only [vKids] at hk
     split at hk
     ·rename_i hk1;intro k' hk';rcases List.mem_cons.1 hk' with rfl | hk'
      ·have:=ih _ (hm _ (by simp)) _ _ _ hk1
       rwa [hu] at this
      ·exact ihk _ _ (by rw [vPt_len];exact hu) (fun x hx=>hm x (by simp [hx])) hk k' hk'
     ·exact absurd hk (by simp)
   ·simp at h
  ·rw [vPt_var hv] at h
   split at h
   ·simp at h
   ·rename_i hc;refine ⟨by omega,by omega,fun e=>absurd e hv,?_⟩;intro k hk;have : 0<p.kids.length:=List.length_pos_of_mem hk;omega
def NoI (p:Pt):Prop:=∀q∈nodes p,q.iv=0∧(q.v≠0→q.op=0)
theorem NoI.kid {p k:Pt} (h:NoI p) (hk:k∈p.kids):NoI k:=fun q hq=>h q (by
 cases p
 simp only [nodes,List.mem_cons]
 exact .inr (nodesL_mem hk hq))
theorem noI_of_vPt (p:Pt):∀(s:Int) (vs:List Int),(vPt p s 0 vs).1=true→NoI p:=by
 induction p using Pt.ind with
 | h p ih =>
  intro s vs h q hq;rw [nodes_eq] at hq;by_cases hv:p.v=0
  ·rw [vPt_op hv] at h
   split at h
   ·rename_i hc;rcases List.mem_cons.1 hq with rfl | hq
    ·have h1:=hc.2.2.2;unfold pImmF at h1;by_cases hi:q.iv=0
     ·exact ⟨hi,fun e=>absurd hv e⟩
     ·rw [if_pos hi,Bool.and_eq_true,decide_eq_true_iff] at h1;omega
    ·suffices ∀(ks:List Pt) (ss:List Int) (us:List Int),(∀k∈ks,k∈p.kids)→(vKids ks ss 0 us).1=true→q∈nodesL ks→q.iv=0∧(q.v≠0→q.op=0) from this _ _ _ (fun k hk=>hk) h hq
     intro ks
     induction ks with
     | nil=>intro ss us _ _ hk;simp [nodesL] at hk
     | cons k ks ihk =>
      intro ss us hm hk hq;simp only [vKids] at hk;simp only [nodesL,List.mem_append] at hq
      split at hk
      ·rename_i hk1;rcases hq with hq | hq
       ·exact ih _ (hm _ (by simp)) _ _ hk1 q hq
       ·exact ihk _ _ (fun x hx=>hm x (by simp [hx])) hk hq
      ·exact absurd hk (by simp)
   ·simp at h
  ·rw [vPt_var hv] at h
   split at h
   ·simp at h
   ·rename_i hc;have hk:p.kids=[]:=List.length_eq_zero_iff.1 (by omega);rw [hk] at hq;simp [nodesL] at hq;subst hq;exact ⟨by omega,fun _=>by omega⟩
structure AOk (n:Nat) (p:Pt):Prop where
 sup:supF p=true
 wf:WfP n p
 im:PI p
 ni:NoI p
theorem AOk.kid {n:Nat} {p k:Pt} (h:AOk n p) (hv:¬0<p.v) (hk:k∈p.kids):AOk n k:=by
 have hs:=h.sup;rw [supF_iff,if_neg hv,Bool.and_eq_true] at hs;exact ⟨List.all_eq_true.1 hs.2 k hk,((WfP.iff n p).1 h.wf).2.2.2 k hk,h.im.kid hk,h.ni.kid hk⟩
theorem AOk.op {n:Nat} {p:Pt} (h:AOk n p) (hv:¬0<p.v):supO p.op p.kids=true∧p.kids.length=(oSortsF p.op).1.length∧p.iv=0∧I64 p.imm:=by
 have hs:=h.sup;rw [supF_iff,if_neg hv,Bool.and_eq_true] at hs;have hw:=(WfP.iff n p).1 h.wf;exact ⟨hs.1,hw.2.2.1 (by omega),(h.ni p (nodes_self p)).1,h.im p (nodes_self p)⟩
theorem I64_wrap' (x:Int):I64 (wrap64 x):=by unfold I64 wrap64;omega
theorem i64_wrapk (x:Int):I64 (IntKind.i64.wrap x):=by rw [IntWalk.i64_left];exact I64_wrap' x
theorem i64_bW (b:Bool):I64 (bW b):=by cases b <;> (unfold I64 bW;simp)
def vof (ins:List Int) (p:Pt):Int:=(evF ins p).getD 0
def valA (op imm a b c:Int):Int:=if op=1 then imm else if op=20∨op=21 then unF op a else if op=22 then (if a≠0 then b else c) else binF op a b
def valO (op imm:Int) (vs:List Int):Int:=valA op imm (vs.getD 0 0) (vs.getD 1 0) (vs.getD 2 0)
theorem supO_ops {op:Int} {kids:List Pt} (h:supO op kids=true):op=1∨op=4∨op=5∨op=9∨op=10∨op=11∨op=12∨op=15∨op=16∨op=17∨op=18∨op=19∨op=20∨op=21∨op=22:=by
 unfold supO at h;have h:=of_decide_eq_true h;omega
theorem i64_getD {vs:List Int} (h:∀x∈vs,I64 x) (j:Nat):I64 (vs.getD j 0):=by
 rw [List.getD_eq_getElem?_getD];by_cases hj:j<vs.length
 ·rw [List.getElem?_eq_getElem hj];exact h _ (List.getElem_mem hj)
 ·rw [List.getElem?_eq_none (by omega)];unfold I64;simp
theorem oS_len0 {op:Int} {kids:List Pt} (h:supO op kids=true) (e:op≠1):0<(oSortsF op).1.length:=by
 rcases supO_ops h with h | h | h | h | h | h | h | h | h | h | h | h | h | h | h <;> subst h <;> first | exact absurd rfl e | decide
theorem oS_len1 {op:Int} {kids:List Pt} (h:supO op kids=true) (e1:op≠1) (e2:op≠20) (e3:op≠21):1<(oSortsF op).1.length:=by
 rcases supO_ops h with h | h | h | h | h | h | h | h | h | h | h | h | h | h | h <;> subst h <;> first | exact absurd rfl e1 | exact absurd rfl e2 | exact absurd rfl e3 | decide
theorem valO_i64 {op imm:Int} {kids:List Pt} (hs:supO op kids=true) (hi:I64 imm) {vs:List Int} (hv:∀x∈vs,I64 x):I64 (valO op imm vs):=by
 have h1:=i64_getD hv 1;have h2:=i64_getD hv 2;unfold valO;generalize vs.getD 0 0=a;rcases supO_ops hs with h | h | h | h | h | h | h | h | h | h | h | h | h | h | h <;> subst h
 ·exact hi
 ·exact I64_wrap' _
 ·exact I64_wrap' _
 ·exact i64_wrapk _
 ·exact i64_wrapk _
 ·exact i64_wrapk _
 ·exact I64_wrap' _
 ·exact i64_bW _
 ·exact i64_bW _
 ·exact i64_bW _
 ·exact i64_bW _
 ·exact i64_bW _
 ·exact I64_wrap' _
 ·exact i64_wrapk _
 ·show I64 (if a≠0 then vs.getD 1 0 else vs.getD 2 0)
  split
  ·exact h1
  ·exact h2
theorem allS_map {α:Type} (f:α→Option Int):∀{l:List α},(∀x∈l,∃v,f x=some v)→allS (l.map f)=some (l.map fun x=>(f x).getD 0)
 | [],_=>rfl
 | x::l,h=>by
  obtain ⟨v,hv⟩:=h x (by simp);have:=allS_map f (l:=l) (fun y hy=>h y (by simp [hy]));simp only [List.map_cons,hv,allS,this,Option.getD_some]
theorem vof_op {ins:List Int} {n:Nat} (p:Pt) (h:AOk n p) (hi:∀x∈ins,I64 x):(∃v,evF ins p=some v∧I64 v)∧(¬0<p.v→vof ins p=valO p.op p.imm (p.kids.map (vof ins))):=by
 induction p using Pt.ind with
 | h p ih =>
  by_cases hv:0<p.v
  ·refine ⟨⟨_,by rw [evF_eq,if_pos hv],i64_getD hi _⟩,fun e=>absurd hv e⟩
  ·obtain ⟨hs,_,hiv,him⟩:=h.op hv;have hk:=allS_map (evF ins) (l:=p.kids) (fun k hk=>by obtain ⟨v,h1,_⟩:=(ih k hk (h.kid hv hk)).1;exact ⟨v,h1⟩)
   have hkv:∀x∈p.kids.map (vof ins),I64 x:=fun x hx=>by
    obtain ⟨k,hk,rfl⟩:=List.mem_map.1 hx;obtain ⟨v,h1,h2⟩:=(ih k hk (h.kid hv hk)).1;unfold vof;rw [h1];exact h2
   have he:evF ins p=some (valO p.op p.imm (p.kids.map (vof ins))):=by
    rw [evF_eq,if_neg hv,hk];show evOp p.op p.imm p.iv (p.kids.map (vof ins))=_;generalize p.kids.map (vof ins)=vs;unfold evOp valO valA;rw [if_neg (by omega)];rcases supO_ops hs with h | h | h | h | h | h | h | h | h | h | h | h | h | h | h <;> rw [h] <;> rfl
   exact ⟨⟨_,he,valO_i64 hs him hkv⟩,fun _=>by unfold vof;rw [he];rfl⟩
theorem vof_i64 {ins:List Int} {n:Nat} {p:Pt} (h:AOk n p) (hi:∀x∈ins,I64 x):I64 (vof ins p):=by
 obtain ⟨v,h1,h2⟩:=(vof_op p h hi).1;unfold vof;rw [h1];exact h2
def smA (k:Nat) (op:Int) (n:Nat) (a b:Int):List Bool :=
 if op=4 then [cyA a b k] else if op=5 then [decide (lo a k<lo b k)] else if op=20 then [decide (lo a k=0)]
 else if op=12 then (List.range n).map fun j=>decide (n≤k+j)&&bI a (k+j - n)
 else if op=22 then [decide (a≠0),decide (lo a k≠0)]
 else if op=15 then [a==b,decide (lo a k=lo b k)]
 else if op=16 then [a != b,decide (lo a k=lo b k)]
 else if op=17 then [decide (a<b),sLt a b k]
 else if op=18 then [decide (a≤b),sLe a b k]
 else if op=19 then [decide (IntKind.u64.wrap a<IntKind.u64.wrap b),decide (lo a k<lo b k)]
 else []
theorem smA_len (k:Nat) {op:Int} {kids:List Pt} (hs:supO op kids=true) (a b:Int):(smA k op (ownN op kids) a b).length=ownN op kids:=by
 rcases supO_ops hs with h | h | h | h | h | h | h | h | h | h | h | h | h | h | h <;> subst h
 case inr.inr.inr.inr.inr.inr.inl =>
  show ((List.range (ownN 12 kids)).map _).length=_;rw [List.length_map,List.length_range]
 all_goals rfl
theorem shF_mod {x:Int}:shF x=(x % 64).toNat:=by
 unfold shF
 have h:IntKind.u64.wrap (bits .and .i64 x 63)=x % 64:=by
  rw [uW_u64]
  have hb:uW (bits .and .i64 x 63)=uW x % 64:=by
   refine Nat.eq_of_testBit_eq fun i=>?_
   rw [←bI_eq,bb_and,bI_eq,bI_eq,show (64:Nat)=2 ^ 6 from rfl,Nat.testBit_mod_two_pow]
   have h63:(uW 63).testBit i=decide (i<6):=by
    rw [show uW 63=2 ^ 6 - 1 from by decide,Nat.testBit_two_pow_sub_one]
   rw [h63];cases (uW x).testBit i <;> simp
  have:=uW_eq x;omega
 rw [h];omega
theorem smA_step {op imm:Int} {kids:List Pt} (hs:supO op kids=true) {a b c:Int} (ia:I64 a) (ib:I64 b) {x y z:Bool} {k:Nat} (hk:k<64) (hx:op≠1→x=bI a k) (hy:op≠1→op≠20→op≠21→op≠12→y=bI b k) (hz:op=22→z=bI c k)
  (hsh:op=12→b=(kid kids 1).imm):opB k op imm (smA k op (ownN op kids) a b) x y z=(bI (valA op imm a b c) k,smA (k+1) op (ownN op kids) a b):=by
 have t:∀{x y:Bool×List Bool},x.1=y.1→x.2=y.2→x=y:=fun h1 h2=>Prod.ext h1 h2
 rcases supO_ops hs with h | h | h | h | h | h | h | h | h | h | h | h | h | h | h <;> subst h
 ·exact t rfl rfl
 ·obtain rfl:=hx (by decide);obtain rfl:=hy (by decide) (by decide) (by decide) (by decide);have:=cy_add a b hk;refine t ?_ ?_
  ·show ((bI a k ^^ bI b k) ^^ cyA a b k)=bI (wrap64 (a+b)) k;rw [bI_wrap,this.1]
  ·show [bI a k&&bI b k || bI a k&&cyA a b k || bI b k&&cyA a b k]=[cyA a b (k+1)];rw [this.2]
 ·obtain rfl:=hx (by decide);obtain rfl:=hy (by decide) (by decide) (by decide) (by decide);have:=bb_sub a b hk;refine t ?_ ?_
  ·show ((bI a k ^^ bI b k) ^^ decide (lo a k<lo b k))=bI (wrap64 (a - b)) k;rw [bI_wrap,this.1]
  ·show [!bI a k&&bI b k || !(bI a k ^^ bI b k)&&decide (lo a k<lo b k)]=[decide (lo a (k+1)<lo b (k+1))];rw [this.2]
 ·obtain rfl:=hx (by decide);obtain rfl:=hy (by decide) (by decide) (by decide) (by decide);exact t (bb_and a b k).symm rfl
 ·obtain rfl:=hx (by decide);obtain rfl:=hy (by decide) (by decide) (by decide) (by decide);exact t (bb_or a b k).symm rfl
 ·obtain rfl:=hx (by decide);obtain rfl:=hy (by decide) (by decide) (by decide) (by decide);exact t (bb_xor a b k).symm rfl
 ·obtain rfl:=hx (by decide);have hb:=hsh rfl;have hn:shF b=ownN 12 kids:=by rw [shF_mod,hb];rfl
  generalize ownN 12 kids=n at *
  have e:smA k 12 n a b++[bI a k]=(List.range (n+1)).map fun j=>decide (n≤k+j)&&bI a (k+j - n):=by
   show ((List.range n).map _)++_=_;rw [List.range_succ,List.map_append,List.map_singleton,dT_ (by omega),Bool.true_and,show k+n - n=k by omega]
  refine t ?_ ?_
  ·show (smA k 12 n a b++[bI a k]).headD false=bI (wrap64 (a * 2 ^ shF b)) k;rw [e,hn,bb_shl a n hk,List.range_succ_eq_map,List.map_cons];rfl
  ·show (smA k 12 n a b++[bI a k]).tail=(List.range n).map _;rw [e,List.range_succ_eq_map,List.map_cons,List.tail_cons,List.map_map];refine List.map_congr_left fun j _=>?_
   show (decide (n≤k+(j+1))&&bI a (k+(j+1) - n))=_;rw [show k+(j+1)=k+1+j by omega]
 ·obtain rfl:=hx (by decide);obtain rfl:=hy (by decide) (by decide) (by decide) (by decide);exact t (bI_bool (a==b) k).symm (by show [_,_]=[_,_];rw [fl_eq];rfl)
 ·obtain rfl:=hx (by decide);obtain rfl:=hy (by decide) (by decide) (by decide) (by decide);exact t (bI_bool (a != b) k).symm (by show [_,_]=[_,_];rw [fl_eq];rfl)
 ·obtain rfl:=hx (by decide);obtain rfl:=hy (by decide) (by decide) (by decide) (by decide)
  exact t (bI_bool (decide (a<b)) k).symm (by
   show [decide (a<b),ordB (sLt a b k) (bI a k) (bI b k) (decide (k=63∧(17:Int)≠19))]=[_,sLt a b (k+1)]
   rw [sLt_succ ia ib hk,show decide (k=63∧(17:Int)≠19)=decide (k=63) by simp])
 ·obtain rfl:=hx (by decide);obtain rfl:=hy (by decide) (by decide) (by decide) (by decide)
  exact t (bI_bool (decide (a≤b)) k).symm (by
   show [decide (a≤b),ordB (sLe a b k) (bI a k) (bI b k) (decide (k=63∧(18:Int)≠19))]=[_,sLe a b (k+1)]
   rw [sLe_succ ia ib hk,show decide (k=63∧(18:Int)≠19)=decide (k=63) by simp])
 ·obtain rfl:=hx (by decide);obtain rfl:=hy (by decide) (by decide) (by decide) (by decide)
  exact t (bI_bool _ k).symm (by
   show [decide (IntKind.u64.wrap a<IntKind.u64.wrap b),ordB (decide (lo a k<lo b k)) (bI a k) (bI b k) (decide (k=63∧(19:Int)≠19))]=[_,decide (lo a (k+1)<lo b (k+1))]
   rw [fl_lt,show decide (k=63∧(19:Int)≠19)=false by simp])
 ·obtain rfl:=hx (by decide);have:=bb_neg a hk;refine t ?_ ?_
  ·show (!bI a k ^^ decide (lo a k=0))=bI (wrap64 (-a)) k;rw [bI_wrap,this.1]
  ·show [!bI a k&&decide (lo a k=0)]=[decide (lo a (k+1)=0)];rw [this.2]
 ·obtain rfl:=hx (by decide);exact t (bb_not a hk).symm rfl
 ·obtain rfl:=hx (by decide);obtain rfl:=hy (by decide) (by decide) (by decide) (by decide);obtain rfl:=hz rfl;refine t ?_ ?_
  ·show (if decide (a≠0) then bI b k else bI c k)=bI (if a≠0 then b else c) k;by_cases h:a≠0
   ·rw [if_pos h,dT_ h];rfl
   ·rw [if_neg h,dF_ h];rfl
  ·show [decide (a≠0),decide (lo a k≠0) || bI a k]=[decide (a≠0),decide (lo a (k+1)≠0)];rw [fl_ne0]
mutual
def smP (ins:List Int) (k:Nat):Pt→List Bool
 | .mk v op _ _ kids=>if 0<v then [] else smA k op (ownN op kids) ((kids.map (vof ins)).getD 0 0) ((kids.map (vof ins)).getD 1 0)++smL ins k kids
def smL (ins:List Int) (k:Nat):List Pt→List Bool
 | []=>[]
 | q::qs=>smP ins k q++smL ins k qs
end
theorem smP_iff (ins:List Int) (k:Nat) (p:Pt):smP ins k p=if 0<p.v then [] else smA k p.op (ownN p.op p.kids) ((p.kids.map (vof ins)).getD 0 0) ((p.kids.map (vof ins)).getD 1 0)++smL ins k p.kids:=by
 obtain ⟨v,op,imm,iv,kids⟩:=p;rw [smP];rfl
def insK (ins:List Int) (k:Nat):Nat→Bool:=fun i=>bI (ins.getD i 0) k
theorem getD_map {α β:Type} (f:α→β) {l:List α} {j:Nat} (hj:j<l.length) (x:α) (y:β):(l.map f).getD j y=f (l.getD j x):=by
 rw [List.getD_eq_getElem?_getD,List.getElem?_map,List.getElem?_eq_getElem hj,List.getD_eq_getElem?_getD,List.getElem?_eq_getElem hj];rfl
theorem bitL_of {ins:List Int} {k:Nat}:∀(l:List Pt),(∀q∈l,∀rest,bitP k (insK ins k) q (smP ins k q++rest)=(bI (vof ins q) k,rest,smP ins (k+1) q)) →
  ∀rest,bitL k (insK ins k) l (smL ins k l++rest)=((l.map (vof ins)).map (fun x=>bI x k),rest,smL ins (k+1) l)
 | [],_,rest=>rfl
 | q::qs,h,rest=>by
  have h1:=h q (by simp) (smL ins k qs++rest);have h2:=bitL_of qs (fun x hx=>h x (by simp [hx])) rest;rw [smL,List.append_assoc];simp only [bitL,h1,h2,smL,List.map_cons]
theorem bitP_sm {ins:List Int} {n:Nat} (hi:∀x∈ins,I64 x) {k:Nat} (hk:k<64) (p:Pt):AOk n p→∀rest,bitP k (insK ins k) p (smP ins k p++rest)=(bI (vof ins p) k,rest,smP ins (k+1) p):=by
 induction p using Pt.ind with
 | h p ih =>
  intro h rest;by_cases hv:0<p.v
  ·rw [bitP_var hv,smP_iff,smP_iff,if_pos hv,if_pos hv];have : vof ins p=ins.getD (p.v - 1).toNat 0:=by unfold vof;rw [evF_eq,if_pos hv];rfl
   rw [this];rfl
  ·obtain ⟨hs,hlen,_,_⟩:=h.op hv;have hl:=smA_len k hs ((p.kids.map (vof ins)).getD 0 0) ((p.kids.map (vof ins)).getD 1 0);have hL:=bitL_of (ins:=ins) (k:=k) p.kids (fun q hq=>ih q hq (h.kid hv hq)) rest;rw [smP_iff,if_neg hv,smP_iff,if_neg hv,List.append_assoc];rw [bitP_op hv k _ _ (r:=((p.kids.map (vof ins)).map (fun x=>bI x k),rest,smL ins (k+1) p.kids)) (by rw [List.drop_append_of_le_length (by omega),List.drop_of_length_le (by omega),List.nil_append];exact hL)]
   rw [List.take_append_of_le_length (by omega),List.take_of_length_le (by omega)]
   have hkv:∀x∈p.kids.map (vof ins),I64 x:=fun x hx=>by
    obtain ⟨q,hq,rfl⟩:=List.mem_map.1 hx;exact vof_i64 (h.kid hv hq) hi
   have hlv:(p.kids.map (vof ins)).length=(oSortsF p.op).1.length:=by rw [List.length_map];exact hlen
   have hsh:p.op=12→(p.kids.map (vof ins)).getD 1 0=(kid p.kids 1).imm:=fun e=>by
    have h2:1<p.kids.length:=by rw [hlen,e];decide
    rw [getD_map (vof ins) h2 (.mk 0 0 0 0 [])];show vof ins (kid p.kids 1)=_
    have hm:kid p.kids 1∈p.kids:=by
     show p.kids.getD 1 _∈_;rw [List.getD_eq_getElem?_getD,List.getElem?_eq_getElem h2];exact List.getElem_mem h2
    have hc:=h.kid hv hm
    have ho:(kid p.kids 1).op=1:=by
     unfold supO at hs;have:=of_decide_eq_true hs;omega
    have hv1:¬0<(kid p.kids 1).v:=fun e=>by
     have:=(hc.ni _ (nodes_self _)).2 (by omega);omega
    rw [(vof_op _ hc hi).2 hv1,ho];rfl
   have hst:=smA_step (imm:=p.imm) hs (a:=(p.kids.map (vof ins)).getD 0 0) (b:=(p.kids.map (vof ins)).getD 1 0) (c:=(p.kids.map (vof ins)).getD 2 0) (i64_getD hkv 0) (i64_getD hkv 1) (k:=k) hk
    (x:=((p.kids.map (vof ins)).map (fun x=>bI x k)).getD 0 false) (y:=((p.kids.map (vof ins)).map (fun x=>bI x k)).getD 1 false) (z:=((p.kids.map (vof ins)).map (fun x=>bI x k)).getD 2 false)
    (fun e=>getD_map _ (by rw [hlv];exact oS_len0 hs e) 0 false) (fun e1 e2 e3 e4=>getD_map _ (by rw [hlv];exact oS_len1 hs e1 e2 e3) 0 false) (fun e=>getD_map _ (by rw [hlv,e];decide) 0 false) hsh
   show ((opB k p.op p.imm _ _ _ _).1,rest,(opB k p.op p.imm _ _ _ _).2++_)=_;rw [hst,(vof_op p h hi).2 hv];rfl
theorem inO_sm {op:Int} {kids:List Pt} (hs:supO op kids=true) (a b:Int) {g:Bool} (hg:isG op=true→g=(smA 0 op (ownN op kids) a b).getD 0 false):inO op (ownN op kids) g=smA 0 op (ownN op kids) a b:=by
 rcases supO_ops hs with h | h | h | h | h | h | h | h | h | h | h | h | h | h | h <;> subst h
 ·rfl
 ·show [false]=[cyA a b 0];rw [cy_zero]
 ·show [false]=[decide (lo a 0<lo b 0)];rw [lo_zero,lo_zero];rfl
 ·rfl
 ·rfl
 ·rfl
 ·show List.replicate (ownN 12 kids) false=(List.range (ownN 12 kids)).map _;refine List.ext_getElem (by simp) fun i h1 h2=>?_
  simp at h1 ⊢;omega
 ·obtain rfl:=hg rfl;show [_,true]=[_,decide (lo a 0=lo b 0)];rw [lo_zero,lo_zero];rfl
 ·obtain rfl:=hg rfl;show [_,true]=[_,decide (lo a 0=lo b 0)];rw [lo_zero,lo_zero];rfl
 ·obtain rfl:=hg rfl;show [_,false]=[_,decide (lo a 0<lo b 0)];rw [lo_zero,lo_zero];rfl
 ·obtain rfl:=hg rfl;show [_,true]=[_,decide (lo a 0≤lo b 0)];rw [lo_zero,lo_zero];rfl
 ·obtain rfl:=hg rfl;show [_,false]=[_,decide (lo a 0<lo b 0)];rw [lo_zero,lo_zero];rfl
 ·show [true]=[decide (lo a 0=0)];rw [lo_zero];rfl
 ·rfl
 ·obtain rfl:=hg rfl;show [_,false]=[_,decide (lo a 0≠0)];rw [lo_zero];rfl
mutual
def gsP (ins:List Int):Pt→List Bool
 | .mk v op _ _ kids=>if 0<v then [] else (if isG op then [(smA 0 op (ownN op kids) ((kids.map (vof ins)).getD 0 0) ((kids.map (vof ins)).getD 1 0)).getD 0 false] else [])++gsL ins kids
def gsL (ins:List Int):List Pt→List Bool
 | []=>[]
 | q::qs=>gsP ins q++gsL ins qs
end
theorem gsP_iff (ins:List Int) (p:Pt):gsP ins p=if 0<p.v then [] else (if isG p.op then [(smA 0 p.op (ownN p.op p.kids) ((p.kids.map (vof ins)).getD 0 0) ((p.kids.map (vof ins)).getD 1 0)).getD 0 false] else [])++gsL ins p.kids:=by
 obtain ⟨v,op,imm,iv,kids⟩:=p;rw [gsP];rfl
theorem gsL_len {ins:List Int}:∀{l:List Pt},(∀q∈l,(gsP ins q).length=gN q)→(gsL ins l).length=gL l
 | [],_=>rfl
 | q::qs,h=>by rw [gsL,List.length_append,h q (by simp),gsL_len (fun x hx=>h x (by simp [hx]))];rfl
theorem gsP_len (ins:List Int) (p:Pt):(gsP ins p).length=gN p:=by
 induction p using Pt.ind with
 | h p ih =>
  rw [gsP_iff,gN_iff]
  split
  ·rfl
  ·rw [List.length_append,gsL_len ih];cases isG p.op <;> rfl
def Says (g:Nat→Bool) (i:Nat) (l:List Bool):Prop:=∀j,j<l.length→g (i+j)=l.getD j false
theorem Says.left {g:Nat→Bool} {i:Nat} {l m:List Bool} (h:Says g i (l++m)):Says g i l:=fun j hj=>by
 rw [h j (by rw [List.length_append];omega),List.getD_eq_getElem?_getD,List.getElem?_append_left hj,List.getD_eq_getElem?_getD]
theorem Says.right {g:Nat→Bool} {i:Nat} {l m:List Bool} (h:Says g i (l++m)):Says g (i+l.length) m:=fun j hj=>by
 rw [Nat.add_assoc,h (l.length+j) (by rw [List.length_append];omega),List.getD_eq_getElem?_getD,List.getElem?_append_right (by omega),Nat.add_sub_cancel_left,List.getD_eq_getElem?_getD]
theorem inL_sm {ins:List Int} {g:Nat→Bool}:∀{l:List Pt},(∀q∈l,∀i,Says g i (gsP ins q)→inP g q i=smP ins 0 q)→∀i,Says g i (gsL ins l)→inL g l i=smL ins 0 l
 | [],_,i,_=>rfl
 | q::qs,h,i,hg=>by
  rw [gsL] at hg;have h2:=hg.right;rw [gsP_len] at h2;rw [inL,smL,h q (by simp) i hg.left,inL_sm (fun x hx=>h x (by simp [hx])) _ h2]
theorem inP_sm {ins:List Int} {n:Nat} {g:Nat→Bool} (p:Pt):AOk n p→∀i,Says g i (gsP ins p)→inP g p i=smP ins 0 p:=by
 induction p using Pt.ind with
 | h p ih =>
  intro h i hg;rw [inP_iff,smP_iff];by_cases hv:0<p.v
  ·rw [if_pos hv,if_pos hv]
  ·rw [if_neg hv,if_neg hv];rw [gsP_iff,if_neg hv] at hg;obtain ⟨hs,_,_,_⟩:=h.op hv;have h2:=hg.right;have e:(if isG p.op=true then [(smA 0 p.op (ownN p.op p.kids) ((p.kids.map (vof ins)).getD 0 0) ((p.kids.map (vof ins)).getD 1 0)).getD 0 false] else []).length=(isG p.op).toNat:=by cases isG p.op <;> rfl
   rw [e] at h2
   rw [inL_sm (fun q hq=>ih q hq (h.kid hv hq)) _ h2,inO_sm hs _ _ (fun eg=>by
    have:=hg.left 0 (by rw [e,eg];decide);rw [if_pos eg] at this
    exact this)]
theorem bits_num:∀l:List Bool,∃h:Nat,h<2 ^ l.length∧∀j,j<l.length→h.testBit j=l.getD j false
 | []=>⟨0,by decide,fun j hj=>absurd hj (Nat.not_lt_zero _)⟩
 | b::l=>by
  obtain ⟨h,h1,h2⟩:=bits_num l;refine ⟨2 * h+b.toNat,by rw [List.length_cons,Nat.pow_succ];cases b <;> simp <;> omega,fun j hj=>?_⟩
  cases j with
  | zero=>cases b <;> simp [Nat.testBit_zero] <;> omega
  | succ j =>
   rw [Nat.testBit_succ,show (2 * h+b.toNat) / 2=h by cases b <;> simp <;> omega];exact h2 j (by simpa using hj)
def cdS (ins:List Int) (k:Nat) (c:Cd):Bool :=
 if c.kind=1 then decide (lo (ins.getD (c.a - 1).toNat 0) k≠0) else if c.kind=4 then decide (lo (ins.getD (c.a - 1).toNat 0) k≠lo (ins.getD (c.b - 1).toNat 0) k)
 else if c.kind=2 then sLe c.n (ins.getD (c.a - 1).toNat 0) k else if c.kind=3 then sLe (ins.getD (c.a - 1).toNat 0) c.n k else false
theorem cd_step {ins:List Int} (hi:∀x∈ins,I64 x) {c:Cd} (hn:I64 c.n) (hk4:1≤c.kind∧c.kind≤4) {k:Nat} (hk:k<64):cdBit k (insK ins k) c (cdS ins k c)=cdS ins (k+1) c:=by
 have ha:=i64_getD hi (c.a - 1).toNat;unfold cdBit cdS insK;generalize ins.getD (c.a - 1).toNat 0=a at *;generalize ins.getD (c.b - 1).toNat 0=b at *;have : c.kind=1∨c.kind=2∨c.kind=3∨c.kind=4:=by omega
 rcases this with h | h | h | h <;> simp only [h,if_true]
 ·rw [fl_ne0]
 ·simp only [show ¬(2:Int)=1 by decide,show ¬(2:Int)=4 by decide,if_false];rw [sLe_succ hn ha hk]
 ·simp only [show ¬(3:Int)=1 by decide,show ¬(3:Int)=4 by decide,show ¬(3:Int)=2 by decide,if_false];rw [sLe_succ ha hn hk]
 ·simp only [show ¬(4:Int)=1 by decide,if_false];have h1:decide (lo a k≠lo b k)=!decide (lo a k=lo b k):=by simp
  have h2:decide (lo a (k+1)≠lo b (k+1))=!decide (lo a (k+1)=lo b (k+1)):=by simp
  rw [h1,h2,fl_eq];cases decide (lo a k=lo b k) <;> cases bI a k <;> cases bI b k <;> rfl
theorem cd_in {ins:List Int} {c:Cd} (hk4:1≤c.kind∧c.kind≤4):cdIn c=cdS ins 0 c:=by
 unfold cdIn cdS sLe;have : c.kind=1∨c.kind=2∨c.kind=3∨c.kind=4:=by omega
 rcases this with h | h | h | h <;> rw [h] <;> simp [lo_zero]
def satC (ins:List Int) (c:Cd):Bool :=
 !(decide (c.kind=1)&&decide (ins.getD (c.a - 1).toNat 0=0) || decide (c.kind=2)&&decide (ins.getD (c.a - 1).toNat 0<c.n) || decide (c.kind=3)&&decide (ins.getD (c.a - 1).toNat 0 > c.n) || decide (c.kind=4)&&decide (ins.getD (c.a - 1).toNat 0=ins.getD (c.b - 1).toNat 0))
theorem lo64_inj {x y:Int} (hx:I64 x) (hy:I64 y):lo x 64=lo y 64↔x=y:=by
 rw [lo_all,lo_all];exact ⟨uW_inj hx hy,fun h=>by rw [h]⟩
theorem i64_zero:I64 0:=by unfold I64;omega
theorem lo64_zero {x:Int} (hx:I64 x):lo x 64=0↔x=0:=by
 rw [←lo64_inj hx i64_zero,show lo 0 64=0 from rfl]
theorem cd_end {ins:List Int} (hi:∀x∈ins,I64 x) {c:Cd} (hk4:1≤c.kind∧c.kind≤4) (h:satC ins c=true):cdS ins 64 c=true:=by
 have ha:=i64_getD hi (c.a - 1).toNat;have hb:=i64_getD hi (c.b - 1).toNat;unfold satC at h;unfold cdS sLe;generalize ins.getD (c.a - 1).toNat 0=a at *;generalize ins.getD (c.b - 1).toNat 0=b at *;have : c.kind=1∨c.kind=2∨c.kind=3∨c.kind=4:=by omega
 rcases this with e | e | e | e <;> rw [e] at h ⊢ <;> simp at h ⊢
 ·rw [lo64_zero ha];exact h
 ·exact h
 ·exact h
 ·rw [lo64_inj ha hb];exact h
def misS (ins:List Int) (r:Rl) (k:Nat):Bool:=(List.range k).any fun j=>bI (vof ins r.l) j ^^ bI (vof ins r.r) j
def stS (ins:List Int) (r:Rl) (k:Nat):List Bool:=smP ins k r.l++(smP ins k r.r++(r.conds.map (cdS ins k)++[misS ins r k]))
structure ROk (n:Nat) (r:Rl):Prop where
 hl:AOk n r.l
 hr:AOk n r.r
 hc:∀c∈r.conds,(1≤c.kind∧c.kind≤4)∧I64 c.n∧1≤c.a∧c.a≤n∧(c.kind=4→1≤c.b∧c.b≤n)
theorem succF_sm {ins:List Int} {n:Nat} {r:Rl} (h:ROk n r) (hi:∀x∈ins,I64 x) {k:Nat} (hk:k<64):succF k (insK ins k) r (stS ins r k)=stS ins r (k+1):=by
 have h1:=bitP_sm hi hk r.l h.hl (smP ins k r.r++(r.conds.map (cdS ins k)++[misS ins r k]));have h2:=bitP_sm hi hk r.r h.hr (r.conds.map (cdS ins k)++[misS ins r k]);unfold succF stS;simp only [h1,h2]
 have h3:List.zipWith (cdBit k (insK ins k)) r.conds (r.conds.map (cdS ins k)++[misS ins r k])=r.conds.map (cdS ins (k+1)):=by
  have : ∀(l:List Cd) (t:List Bool),(∀c∈l,(1≤c.kind∧c.kind≤4)∧I64 c.n∧1≤c.a∧c.a≤n∧(c.kind=4→1≤c.b∧c.b≤n))→List.zipWith (cdBit k (insK ins k)) l (l.map (cdS ins k)++t)=l.map (cdS ins (k+1)):=by
   intro l t
   induction l with
   | nil=>intro _;rfl
   | cons c l ih =>
    intro hc;have hcc:=hc c (by simp);rw [List.map_cons,List.cons_append,List.zipWith_cons_cons,ih (fun x hx=>hc x (by simp [hx])),cd_step hi hcc.2.1 hcc.1 hk];rfl
  exact this _ _ h.hc
 have h4:(r.conds.map (cdS ins k)++[misS ins r k]).getD r.conds.length false=misS ins r k:=by
  rw [List.getD_eq_getElem?_getD,List.getElem?_append_right (by simp)];simp
 have h5:misS ins r (k+1)=(misS ins r k || (bI (vof ins r.l) k ^^ bI (vof ins r.r) k)):=by
  unfold misS;rw [List.range_succ,List.any_append];simp
 rw [h3,h4,h5,List.append_assoc,List.append_assoc]
theorem bitP_congr {k:Nat} {f g:Nat→Bool} {n:Nat} (hfg:∀i,i<n→f i=g i) (p:Pt):WfP n p→∀old,bitP k f p old=bitP k g p old:=by
 induction p using Pt.ind with
 | h p ih =>
  intro h old;rw [WfP.iff] at h;by_cases hv:0<p.v
  ·rw [bitP_var hv,bitP_var hv,hfg _ (by omega)]
  ·have : ∀(l:List Pt),(∀q∈l,q∈p.kids)→∀old,bitL k f l old=bitL k g l old:=by
    intro l
    induction l with
    | nil=>intro _ _;rfl
    | cons q qs ihl =>
     intro hq old;have e1:=ih q (hq q (by simp)) (h.2.2.2 q (hq q (by simp))) old;simp only [bitL,e1,ihl (fun x hx=>hq x (by simp [hx]))]
   rw [bitP_op hv k f old (this _ (fun q h=>h) _),bitP_op hv k g old rfl]
theorem succF_congr {k:Nat} {f g:Nat→Bool} {n:Nat} {r:Rl} (h:ROk n r) (hfg:∀i,i<n→f i=g i) (old:List Bool):succF k f r old=succF k g r old:=by
 have h3:∀(l:List Cd) (t:List Bool),(∀c∈l,(1≤c.kind∧c.kind≤4)∧I64 c.n∧1≤c.a∧c.a≤n∧(c.kind=4→1≤c.b∧c.b≤n))→List.zipWith (cdBit k f) l t=List.zipWith (cdBit k g) l t:=by
  intro l
  induction l with
  | nil=>intro t _;rfl
  | cons c l ih =>
   intro t hc
   cases t with
   | nil=>rfl
   | cons b t =>
    have hcc:=hc c (by simp);rw [List.zipWith_cons_cons,List.zipWith_cons_cons,ih _ (fun x hx=>hc x (by simp [hx]))]
    congr 1
    unfold cdBit;rw [hfg (c.a - 1).toNat (by omega)];by_cases h4:c.kind=4
    ·rw [hfg (c.b - 1).toNat (by have:=hcc.2.2.2.2 h4;omega)]
    ·simp only [h4,if_false]
 unfold succF;rw [bitP_congr hfg r.l h.hl.wf,bitP_congr hfg r.r h.hr.wf,h3 _ _ h.hc]
theorem gOk_sm {op:Int} {kids:List Pt} (hs:supO op kids=true) {a b:Int} (ia:I64 a) (ib:I64 b):gOk op (smA 64 op (ownN op kids) a b)=true:=by
 have h1:=lo64_inj ia ib;have h2:=lo64_zero ia;rcases supO_ops hs with h | h | h | h | h | h | h | h | h | h | h | h | h | h | h <;> subst h <;> try rfl
 ·show ((a==b)==decide (lo a 64=lo b 64))=true;rw [Bool.beq_eq_decide_eq,decide_eq_true_iff,Bool.eq_iff_iff];simp [h1]
 ·show ((a != b) != decide (lo a 64=lo b 64))=true;by_cases e:a=b
  ·simp [e]
  ·simp [h1,e]
 ·show (decide (a<b)==decide (a<b))=true;simp
 ·show (decide (a≤b)==decide (a≤b))=true;simp
 ·show (decide (IntKind.u64.wrap a<IntKind.u64.wrap b)==decide (lo a 64<lo b 64))=true;rw [uW_u64,uW_u64,lo_all,lo_all];simp
 ·show (decide (a≠0)==decide (lo a 64≠0))=true;simp [h2]
theorem gRP_sm {ins:List Int} {n:Nat} (hi:∀x∈ins,I64 x) (p:Pt):AOk n p→∀rest,gRP p (smP ins 64 p++rest)=(true,rest):=by
 induction p using Pt.ind with
 | h p ih =>
  intro h rest;rw [gRP_iff,smP_iff];by_cases hv:0<p.v
  ·rw [if_pos hv,if_pos hv];rfl
  ·obtain ⟨hs,_,_,_⟩:=h.op hv;have hl:=smA_len 64 hs ((p.kids.map (vof ins)).getD 0 0) ((p.kids.map (vof ins)).getD 1 0)
   have hkv:∀x∈p.kids.map (vof ins),I64 x:=fun x hx=>by
    obtain ⟨q,hq,rfl⟩:=List.mem_map.1 hx;exact vof_i64 (h.kid hv hq) hi
   rw [if_neg hv,if_neg hv,List.append_assoc,List.drop_append_of_le_length (by omega),List.drop_of_length_le (by omega),List.nil_append,List.take_append_of_le_length (by omega),List.take_of_length_le (by omega)]
   rw [gOk_sm hs (i64_getD hkv 0) (i64_getD hkv 1)]
   have : ∀(l:List Pt),(∀q∈l,q∈p.kids)→gRL l (smL ins 64 l++rest)=(true,rest):=by
    intro l
    induction l with
    | nil=>intro _;rfl
    | cons q qs ihl =>
     intro hq;rw [gRL,smL,List.append_assoc,ih q (hq q (by simp)) (h.kid hv (hq q (by simp))),ihl (fun x hx=>hq x (by simp [hx]))];rfl
   rw [this _ (fun q h=>h)];rfl
theorem aut_sound {n:Nat} {r:Rl} (h:ROk n r) (hv:n=r.vars.toNat) {ins:List Int} (hi:∀x∈ins,I64 x) (hsat:r.conds.all (satC ins)=true) (L:Nat→List Bool→Prop)
  (h0:∀b∈initsF r,L 0 b) (h1:∀k,k<64→∀b,L k b→∀b'∈succsF r k b,L (k+1) b') (h2:∀b,L 64 b→safeF r b=true) :
  ∃v,evF ins r.l=some v∧evF ins r.r=some v∧I64 v:=by
 have hrun:∀k,k≤64→L k (stS ins r k):=by
  intro k
  induction k with
  | zero =>
   intro _;refine h0 _ ?_;obtain ⟨x,hx,hb⟩:=bits_num (gsP ins r.l++gsP ins r.r);rw [List.length_append,gsP_len,gsP_len] at hx;have hs:Says x.testBit 0 (gsP ins r.l++gsP ins r.r):=fun j hj=>by rw [Nat.zero_add];exact hb j hj
   have hs2:=hs.right;rw [gsP_len,Nat.zero_add] at hs2;refine List.mem_map.2 ⟨x,List.mem_range.2 hx,?_⟩;unfold initF stS;rw [inP_sm r.l h.hl 0 hs.left,inP_sm r.r h.hr _ hs2,List.append_assoc,List.append_assoc]
   congr 3
   ·exact List.map_congr_left fun c hc=>cd_in (h.hc c hc).1
  | succ k ih =>
   intro hk;refine h1 k (by omega) _ (ih (by omega)) _ ?_;obtain ⟨x,hx,hb⟩:=bits_num ((List.range n).map (insK ins k));rw [List.length_map,List.length_range] at hx hb;refine List.mem_map.2 ⟨x,List.mem_range.2 (by rw [←hv];exact hx),?_⟩;rw [←succF_sm h hi (show k<64 by omega)];refine succF_congr h (fun i hin=>?_) _;rw [hb i hin,getD_map _ (by simpa using hin) 0]
   congr 1
   rw [List.getD_eq_getElem?_getD,List.getElem?_range hin];rfl
 have hsafe:=h2 _ (hrun 64 (Nat.le_refl _));obtain ⟨v,e1,i1⟩:=(vof_op r.l h.hl hi).1;obtain ⟨v',e2,i2⟩:=(vof_op r.r h.hr hi).1
 have hm:misS ins r 64=false:=by
  unfold safeF stS at hsafe;rw [gRP_sm hi r.l h.hl] at hsafe;simp only [gRP_sm hi r.r h.hr] at hsafe
  have h3:(r.conds.map (cdS ins 64)++[misS ins r 64]).getD r.conds.length false=misS ins r 64:=by
   rw [List.getD_eq_getElem?_getD,List.getElem?_append_right (by simp)];simp
  have h4:((r.conds.map (cdS ins 64)++[misS ins r 64]).take r.conds.length).all id=true:=by
   rw [List.take_append_of_le_length (by simp),List.take_of_length_le (by simp),List.all_eq_true];intro x hx;obtain ⟨c,hc,rfl⟩:=List.mem_map.1 hx;exact cd_end hi (h.hc c hc).1 (List.all_eq_true.1 hsat c hc)
  rw [h3,h4] at hsafe;simpa using hsafe
 have hvv:v=v':=by
  refine word_ext i1 i2 fun j hj=>?_
  have h5:=List.any_eq_false.1 hm j (List.mem_range.2 hj);have u1:vof ins r.l=v:=by unfold vof;rw [e1];rfl
  have u2:vof ins r.r=v':=by unfold vof;rw [e2];rfl
  rw [u1,u2] at h5;cases h6:bI v j <;> cases h7:bI v' j <;> rw [h6,h7] at h5 <;> first | rfl | exact absurd rfl h5
 exact ⟨v,e1,by rw [e2,hvv],i1⟩
abbrev Bs:=List UInt8
section
variable (T:List (Bs×Nat)) (fin:Nat)
end
theorem rok_of {r:Rl} (h:applF r=true) (hI:RlI r):ROk r.vars.toNat r:=by
 unfold applF at h;simp only [Bool.and_eq_true,decide_eq_true_eq] at h;obtain ⟨⟨⟨⟨⟨h1,h2⟩,h3⟩,h4⟩,_⟩,h6⟩:=h;unfold implF at h1;simp only [Bool.and_eq_true,decide_eq_true_eq] at h1;obtain ⟨⟨⟨⟨⟨_,hl⟩,hr⟩,_⟩,_⟩,hg⟩:=h1;unfold validF at hl hr;rw [Bool.and_eq_true,decide_eq_true_iff,h2] at hl hr;have wl:=wf_of_vPt _ _ _ _ hl.2;have wr:=wf_of_vPt _ _ _ _ hr.2;rw [List.length_replicate] at wl wr;refine ⟨⟨h3,wl,hI.l,noI_of_vPt _ _ _ hl.2⟩,⟨h4,wr,hI.r,noI_of_vPt _ _ _ hr.2⟩,fun c hc=>?_⟩;have hk:=of_decide_eq_true (List.all_eq_true.1 h6 c hc);unfold implG at hg;rw [Bool.and_eq_true] at hg;have hcond:=List.all_eq_true.1 hg.2 c hc;have hss:(colV (occ r.r (rsF r.l.op).2) (colV (occ r.l (rsF r.l.op).2) (List.replicate (r.vars.toNat+1) 0))).length=r.vars.toNat+1:=by rw [colV_len,colV_len,List.length_replicate]
 generalize colV (occ r.r (rsF r.l.op).2) (colV (occ r.l (rsF r.l.op).2) (List.replicate (r.vars.toNat+1) 0))=ss at *
 have hv:∀x,isValF ss x=true→1≤x∧x≤r.vars.toNat:=fun x hx=>by
  have:=of_decide_eq_true hx;omega
 have hkk:c.kind=1∨c.kind=2∨c.kind=3∨c.kind=4:=by omega
 unfold condF at hcond;refine ⟨hk,hI.c c hc,?_⟩;rcases hkk with e | e | e | e <;> simp only [e] at hcond <;> simp at hcond
 ·have:=hv _ hcond.1.1;exact ⟨this.1,this.2,fun q=>by omega⟩
 ·have:=hv _ hcond.1;exact ⟨this.1,this.2,fun q=>by omega⟩
 ·have:=hv _ hcond.1;exact ⟨this.1,this.2,fun q=>by omega⟩
 ·have q1:=hv _ hcond.1.1.1;have q2:=hv _ hcond.1.1.2;exact ⟨q1.1,q1.2,fun _=>q2⟩
theorem ltB_irrefl:∀a:List Bool,ltB a a=false
 | []=>rfl
 | a::xs=>by rw [ltB,if_pos rfl,ltB_irrefl xs]
theorem ltB_trans:∀{a b c:List Bool},ltB a b=true→ltB b c=true→ltB a c=true
 | [],[],_,h,_=>by cases h
 | [],_::_,[],_,h=>by cases h
 | [],_::_,_::_,_,_=>rfl
 | _::_,[],_,h,_=>by cases h
 | _::_,_::_,[],_,h=>by cases h
 | a::xs,b::ys,c::zs,h1,h2=>by
  rw [ltB] at h1 h2 ⊢;have:=@ltB_trans xs ys zs;cases a <;> cases b <;> cases c <;> simp at h1 h2 ⊢ <;> exact this h1 h2
theorem ltB_total:∀(a b:List Bool),ltB a b=true∨a=b∨ltB b a=true
 | [],[]=>.inr (.inl rfl)
 | [],_::_=>.inl rfl
 | _::_,[]=>.inr (.inr rfl)
 | a::xs,b::ys=>by
  rw [ltB,ltB];have:=ltB_total xs ys;cases a <;> cases b <;> simp <;> exact this
def SrtB (l:List (List Bool)):Prop:=l.Pairwise fun a b=>ltB a b=true
theorem mem_insB {x y:List Bool}:∀{l:List (List Bool)},y∈insB x l↔y=x∨y∈l
 | []=>by simp [insB]
 | z::l=>by
  rw [insB]
  split
  ·rw [List.mem_cons,mem_insB,List.mem_cons];constructor
   ·rintro (h | h | h) <;> simp [h]
   ·rintro (h | h | h) <;> simp [h]
  ·split
   ·rename_i h;subst h;simp
   ·simp
theorem srt_insB {x:List Bool}:∀{l:List (List Bool)},SrtB l→SrtB (insB x l)
 | [],_=>List.pairwise_singleton _ _
 | z::l,h=>by
  have h1:=List.pairwise_cons.1 h;rw [insB]
  split
  ·rename_i hz;refine List.pairwise_cons.2 ⟨fun y hy=>?_,srt_insB h1.2⟩;rcases mem_insB.1 hy with rfl | hy
   ·exact hz
   ·exact h1.1 y hy
  ·split
   ·exact h
   ·rename_i h2 h3
    have hxz:ltB x z=true:=by
     rcases ltB_total x z with q | q | q
     ·exact q
     ·exact absurd q.symm h3
     ·exact absurd q h2
    refine List.pairwise_cons.2 ⟨fun y hy=>?_,h⟩;rcases List.mem_cons.1 hy with rfl | hy
    ·exact hxz
    ·exact ltB_trans hxz (h1.1 y hy)
theorem srt_fold:∀(l a:List (List Bool)),SrtB a→SrtB (l.foldl (fun a x=>insB x a) a)
 | [],_,h=>h
 | _::l,_,h=>srt_fold l _ (srt_insB h)
theorem mem_fold {y:List Bool}:∀(l a:List (List Bool)),y∈l.foldl (fun a x=>insB x a) a↔y∈l∨y∈a
 | [],a=>by simp
 | x::l,a=>by
  rw [List.foldl_cons,mem_fold l,mem_insB,List.mem_cons];constructor
  ·rintro (h | h | h) <;> simp [h]
  ·rintro ((h | h) | h) <;> simp [h]
theorem srt_sortB (l:List (List Bool)):SrtB (sortB l):=srt_fold l [] List.Pairwise.nil
theorem mem_sortB {y:List Bool} {l:List (List Bool)}:y∈sortB l↔y∈l:=by unfold sortB;rw [mem_fold];simp
theorem srt_ext:∀{a b:List (List Bool)},SrtB a→SrtB b→(∀x,x∈a↔x∈b)→a=b
 | [],[],_,_,_=>rfl
 | [],y::b,_,_,h=>absurd ((h y).2 (by simp)) (by simp)
 | x::a,[],_,_,h=>absurd ((h x).1 (by simp)) (by simp)
 | x::a,y::b,ha,hb,h=>by
  have ha1:=List.pairwise_cons.1 ha;have hb1:=List.pairwise_cons.1 hb
  have hxy:x=y:=by
   rcases List.mem_cons.1 ((h x).1 (by simp)) with q | q
   ·exact q
   ·rcases List.mem_cons.1 ((h y).2 (by simp)) with q' | q'
    ·exact q'.symm
    ·have:=ltB_trans (ha1.1 y q') (hb1.1 x q);rw [ltB_irrefl] at this;cases this
  subst hxy
  have nx:∀{l:List (List Bool)},(∀z∈l,ltB x z=true)→x ∉ l:=fun hl hm=>by
   have:=hl x hm;rw [ltB_irrefl] at this;cases this
  rw [srt_ext ha1.2 hb1.2 fun z=>?_];constructor
  ·intro hz;rcases List.mem_cons.1 ((h z).1 (by simp [hz])) with q | q
   ·subst q;exact absurd hz (nx ha1.1)
   ·exact q
  ·intro hz;rcases List.mem_cons.1 ((h z).2 (by simp [hz])) with q | q
   ·subst q;exact absurd hz (nx hb1.1)
   ·exact q
theorem srt_nodup {l:List (List Bool)} (h:SrtB l):l.Nodup:=List.Pairwise.imp (fun {a b} hab e=>by subst e;rw [ltB_irrefl] at hab;cases hab) h
theorem lvl_srt (r:Rl):∀k,SrtB (lvl r k)
 | 0=>srt_sortB _
 | _+1=>srt_sortB _
theorem lvl_init {r:Rl} {b:List Bool}:b∈lvl r 0↔b∈initsF r:=mem_sortB
theorem lvl_succ {r:Rl} {k:Nat} {b:List Bool}:b∈lvl r (k+1)↔∃a∈lvl r k,b∈succsF r k a:=by
 show b∈sortB _↔_;rw [mem_sortB,List.mem_flatMap]
theorem lvl_len {r:Rl} (hl:supF r.l=true) (hr:supF r.r=true):∀k b,b∈lvl r k→b.length=stN r
 | 0,b,h=>by
  obtain ⟨x,_,rfl⟩:=List.mem_map.1 (lvl_init.1 h);exact initF_len _ _
 | k+1,b,h=>by
  obtain ⟨a,ha,hb⟩:=lvl_succ.1 h;obtain ⟨x,_,rfl⟩:=List.mem_map.1 hb;exact succF_len hl hr k _ (lvl_len hl hr k a ha)
theorem lvl_ne (r:Rl):∀k,lvl r k≠[]
 | 0,h=>by
  have : initF (Nat.testBit 0) r∈lvl r 0:=lvl_init.2 (List.mem_map.2 ⟨0,List.mem_range.2 (Nat.two_pow_pos _),rfl⟩);rw [h] at this;cases this
 | k+1,h=>by
  obtain ⟨a,ha⟩:=List.exists_mem_of_ne_nil _ (lvl_ne r k);have : succF k (Nat.testBit 0) r a∈lvl r (k+1):=lvl_succ.2 ⟨a,ha,List.mem_map.2 ⟨0,List.mem_range.2 (Nat.two_pow_pos _),rfl⟩⟩;rw [h] at this;cases this
theorem mem_lvls {r:Rl} {n k:Nat} {b:List Bool}:(k,b)∈lvls r n↔k<n∧b∈lvl r k:=by
 unfold lvls;simp only [List.mem_flatMap,List.mem_range,List.mem_map,Prod.mk.injEq];constructor
 ·rintro ⟨k',h1,b',h2,rfl,rfl⟩;exact ⟨h1,h2⟩
 ·rintro ⟨h1,h2⟩;exact ⟨k,h1,b,h2,rfl,rfl⟩
theorem lvls_succ (r:Rl) (n:Nat):lvls r (n+1)=lvls r n++(lvl r n).map fun b=>(n,b):=by unfold lvls;rw [List.range_succ,List.flatMap_append];simp
theorem lvls_mono (r:Rl) {m n:Nat} (h:m≤n):(lvls r m).length≤(lvls r n).length:=by
 induction n with
 | zero =>
  have : m=0:=by omega
  subst this;exact Nat.le_refl _
 | succ n ih =>
  rcases Nat.lt_or_ge n m with q | q
  ·have : m=n+1:=by omega
   subst this;exact Nat.le_refl _
  ·have:=ih q;rw [lvls_succ,List.length_append];omega
structure AS where
 at_:Int
 bits:Bs
deriving DecidableEq
def bbit (b:Bool):UInt8:=if b then 1 else 0
def ubit (x:UInt8):Bool:=x==1
theorem ubit_bbit (b:Bool):ubit (bbit b)=b:=by cases b <;> rfl
theorem bbit_ubit {x:UInt8} (h:x.toNat≤1):bbit (ubit x)=x:=by
 have : x=0∨x=1:=by
  have : x.toNat=0∨x.toNat=1:=by omega
  rcases this with h | h
  ·exact .inl (UInt8.toNat_inj.1 h)
  ·exact .inr (UInt8.toNat_inj.1 h)
 rcases this with h | h <;> subst h <;> rfl
def bbs (l:List Bool):Bs:=l.map bbit
def ubs (l:Bs):List Bool:=l.map ubit
theorem ubs_bbs (l:List Bool):ubs (bbs l)=l:=by unfold ubs bbs;rw [List.map_map];exact (List.map_congr_left fun x _=>ubit_bbit x).trans (List.map_id l)
theorem bbs_inj {a b:List Bool} (h:bbs a=bbs b):a=b:=by rw [←ubs_bbs a,h,ubs_bbs]
theorem bbs_ubs {l:Bs} (h:∀x∈l,x.toNat≤1):bbs (ubs l)=l:=by unfold ubs bbs;rw [List.map_map];exact (List.map_congr_left fun x hx=>bbit_ubit (h x hx)).trans (List.map_id l)
def asE (x:Nat×List Bool):AS:=⟨x.1,bbs x.2⟩
def okS (r:Rl) (s:AS):Bool:=decide (0≤s.at_∧s.at_≤64∧s.bits.length=stN r)&&s.bits.all fun x=>decide (x.toNat≤1)
def nextS (r:Rl) (L:List AS) (s:AS):Bool:=if s.at_=64 then safeF r (ubs s.bits) else (succsF r s.at_.toNat (ubs s.bits)).all fun b=>decide (⟨s.at_+1,bbs b⟩∈L)
def chF (r:Rl) (L:List AS):Bool:=applF r&&decide (L.length≤4096)&&L.all (okS r)&&((initsF r).all fun b=>decide (⟨0,bbs b⟩∈L))&&L.all (nextS r L)
theorem chF_iff {r:Rl} {L:List AS}:chF r L=true↔applF r=true∧L.length≤4096∧(∀s∈L,okS r s=true)∧(∀b∈initsF r,(⟨0,bbs b⟩:AS)∈L)∧∀s∈L,nextS r L s=true:=by
 unfold chF;simp only [Bool.and_eq_true,decide_eq_true_eq,List.all_eq_true];constructor
 ·rintro ⟨⟨⟨⟨h1,h2⟩,h3⟩,h4⟩,h5⟩;exact ⟨h1,h2,h3,h4,h5⟩
 ·rintro ⟨h1,h2,h3,h4,h5⟩;exact ⟨⟨⟨⟨h1,h2⟩,h3⟩,h4⟩,h5⟩
theorem nextS_lt {r:Rl} {L:List AS} {k:Nat} (hk:k<64) {b:List Bool}:nextS r L ⟨k,bbs b⟩=true↔∀b'∈succsF r k b,(⟨(k:Int)+1,bbs b'⟩:AS)∈L:=by
 unfold nextS;rw [if_neg (by show ¬(k:Int)=64;omega),List.all_eq_true];simp only [decide_eq_true_eq,ubs_bbs,Int.toNat_natCast]
theorem nextS_end {r:Rl} {L:List AS} {b:List Bool}:nextS r L ⟨64,bbs b⟩=safeF r b:=by
 unfold nextS;rw [if_pos rfl,ubs_bbs]
theorem ch_sound {r:Rl} {L:List AS} (h:chF r L=true) (hI:RlI r) {ins:List Int} (hi:∀x∈ins,I64 x) (hsat:r.conds.all (satC ins)=true):∃v,evF ins r.l=some v∧evF ins r.r=some v∧I64 v:=by
 obtain ⟨h1,_,_,h4,h5⟩:=chF_iff.1 h;refine aut_sound (rok_of h1 hI) rfl hi hsat (fun k b=>(⟨k,bbs b⟩:AS)∈L) h4 (fun k hk b hb b' hb'=>?_) (fun b hb=>?_)
 ·have:=(nextS_lt hk).1 (h5 _ hb) b' hb';exact this
 ·rw [←h5 _ hb];exact nextS_end.symm
theorem autF_some {r:Rl} {l:List (Nat×List Bool)}:autF r=some l↔applF r=true∧(lvls r 65).length≤4096∧(∀b∈lvl r 64,safeF r b=true)∧l=lvls r 65:=by
 unfold autF;rw [←List.all_eq_true];constructor
 ·intro h
  split at h
  ·rename_i hc;injection h with h
   exact ⟨hc.1,hc.2.1,hc.2.2,h.symm⟩
  ·cases h
 ·rintro ⟨h1,h2,h3,rfl⟩;rw [if_pos ⟨h1,h2,h3⟩]
theorem aut_sound2 {r:Rl} {l:List (Nat×List Bool)} (h:autF r=some l) (hI:RlI r) {ins:List Int} (hi:∀x∈ins,I64 x) (hsat:r.conds.all (satC ins)=true):∃v,evF ins r.l=some v∧evF ins r.r=some v∧I64 v:=by
 obtain ⟨h1,_,h3,_⟩:=autF_some.1 h;exact aut_sound (rok_of h1 hI) rfl hi hsat (fun k b=>b∈lvl r k) (fun b hb=>lvl_init.2 hb) (fun k _ b hb b' hb'=>lvl_succ.2 ⟨b,hb,hb'⟩) h3
theorem applF_sup {r:Rl} (h:applF r=true):supF r.l=true∧supF r.r=true:=by
 unfold applF at h;simp only [Bool.and_eq_true,decide_eq_true_eq] at h;exact ⟨h.1.1.1.2,h.1.1.2⟩
theorem ch_aut {r:Rl} {l:List (Nat×List Bool)} (h:autF r=some l) {M:List (Nat×List Bool)} (hM:∀x,x∈M↔x∈l) (hlen:M.length≤4096):chF r (M.map asE)=true:=by
 obtain ⟨h1,_,h3,rfl⟩:=autF_some.1 h;obtain ⟨s1,s2⟩:=applF_sup h1;have hin:∀k b,k<65→b∈lvl r k→(⟨(k:Int),bbs b⟩:AS)∈M.map asE:=fun k b hk hb=>List.mem_map.2 ⟨(k,b),(hM _).2 (mem_lvls.2 ⟨hk,hb⟩),rfl⟩
 have hout:∀s∈M.map asE,∃k b,k<65∧b∈lvl r k∧s=⟨(k:Int),bbs b⟩:=fun s hs=>by
  obtain ⟨⟨k,b⟩,hx,rfl⟩:=List.mem_map.1 hs;obtain ⟨q1,q2⟩:=mem_lvls.1 ((hM _).1 hx);exact ⟨k,b,q1,q2,rfl⟩
 refine chF_iff.2 ⟨h1,by rw [List.length_map];exact hlen,fun s hs=>?_,fun b hb=>hin 0 b (by decide) (lvl_init.2 hb),fun s hs=>?_⟩
 ·obtain ⟨k,b,hk,hb,rfl⟩:=hout s hs;unfold okS;rw [Bool.and_eq_true,decide_eq_true_iff,List.all_eq_true];refine ⟨⟨by show (0:Int)≤k;omega,by show (k:Int)≤64;omega,by show (bbs b).length=_;unfold bbs;rw [List.length_map];exact lvl_len s1 s2 k b hb⟩,fun x hx=>?_⟩
  obtain ⟨y,_,rfl⟩:=List.mem_map.1 hx;cases y <;> rfl
 ·obtain ⟨k,b,hk,hb,rfl⟩:=hout s hs;rcases Nat.lt_or_ge k 64 with hk2 | hk2
  ·exact (nextS_lt hk2).2 fun b' hb'=>hin (k+1) b' (by omega) (lvl_succ.2 ⟨b,hb,hb'⟩)
  ·obtain rfl:k=64:=by omega
   exact nextS_end.trans (h3 b hb)
end Go.Proofs.YtifhejahbbnkiaaGreat
namespace Go.Proofs.YtifhejahbbnkiaaGreat
def Mild {α:Type}:Sem α→Prop
 | .pure _=>True
 | .load _ _ k=>∀v,Mild (k v)
 | .store ..=>False
 | .new _ k=>∀r,Mild (k r)
 | .shape _ k=>∀s,Mild (k s)
 | .freeze ..=>False
 | .frozen _ k=>∀b,Mild (k b)
 | .getObj _ k=>∀o,Mild (k o)
 | .setObj ..=>False
 | .choose _ k=>∀n,Mild (k n)
 | .sys ..=>False
 | .program k=>∀p,Mild (k p)
 | .mark _ k=>Mild k
 | .halt _=>True
theorem Mild.bind_ {α β:Type} {f:α→Sem β} (hf:∀a,Mild (f a)):∀(s:Sem α),Mild s→Mild (s.bind f)
 | .pure a,_=>hf a
 | .load _ _ k,h=>fun v=>Mild.bind_ hf (k v) (h v)
 | .new _ k,h=>fun v=>Mild.bind_ hf (k v) (h v)
 | .shape _ k,h=>fun v=>Mild.bind_ hf (k v) (h v)
 | .frozen _ k,h=>fun v=>Mild.bind_ hf (k v) (h v)
 | .getObj _ k,h=>fun v=>Mild.bind_ hf (k v) (h v)
 | .choose _ k,h=>fun v=>Mild.bind_ hf (k v) (h v)
 | .program k,h=>fun v=>Mild.bind_ hf (k v) (h v)
 | .mark _ k,h=>Mild.bind_ hf k h
 | .halt _,_=>trivial
 | .store ..,h=>h.elim
 | .freeze ..,h=>h.elim
 | .setObj ..,h=>h.elim
 | .sys ..,h=>h.elim
theorem Mild.bind {α β:Type} {s:Sem α} {f:α→Sem β} (hs:Mild s) (hf:∀a,Mild (f a)):Mild (s >>= f):=Mild.bind_ hf s hs
structure Calmly (R:World→Prop):Prop where
 alloc:∀w o,R w→R (w.alloc o)
 draw:∀w:World,R w→R { w with drawn:=w.drawn+1 }
theorem Mild.run {α:Type} {P:Program} {R:World→Prop} (hR:Calmly R):∀(s:Sem α) (w:World),Mild s→R w→∀a w',s.run P w=.ok a w'→R w'
 | .pure _,w,_,h,a,w',e=>by simp only [Sem.run] at e;cases e;exact h
 | .load m p k,w,hm,h,a,w',e=>by
  simp only [Sem.run] at e
  split at e
  ·exact Mild.run hR _ w (hm _) h a w' e
  ·split at e
   ·exact Mild.run hR _ w (hm _) h a w' e
   ·cases e
 | .new o k,w,hm,h,a,w',e=>by
  simp only [Sem.run] at e;exact Mild.run hR (k w.heap.size) _ (hm _) (hR.alloc w o h) a w' e
 | .shape r k,w,hm,h,a,w',e=>by simp only [Sem.run] at e;exact Mild.run hR _ w (hm _) h a w' e
 | .frozen r k,w,hm,h,a,w',e=>by simp only [Sem.run] at e;exact Mild.run hR _ w (hm _) h a w' e
 | .getObj r k,w,hm,h,a,w',e=>by
  simp only [Sem.run] at e
  split at e
  ·cases e
  ·exact Mild.run hR _ w (hm _) h a w' e
  ·cases e
 | .choose q k,w,hm,h,a,w',e=>by
  simp only [Sem.run] at e
  split at e
  ·exact Mild.run hR _ w (hm _) h a w' e
  ·exact Mild.run hR _ _ (hm _) (hR.draw w h) a w' e
 | .program k,w,hm,h,a,w',e=>by simp only [Sem.run] at e;exact Mild.run hR _ w (hm _) h a w' e
 | .mark _ k,w,hm,h,a,w',e=>by simp only [Sem.run] at e;exact Mild.run hR k w hm h a w' e
 | .halt _,w,_,h,a,w',e=>by simp only [Sem.run] at e;cases e
 | .store ..,_,h,_,_,_,_=>h.elim
 | .freeze ..,_,h,_,_,_,_=>h.elim
 | .setObj ..,_,h,_,_,_,_=>h.elim
 | .sys ..,_,h,_,_,_,_=>h.elim
theorem Mild.underlying (t:TypeId):Mild (Go.underlying t):=by unfold Go.underlying;exact Mild.bind (fun _=>trivial) (fun _=>by split <;> trivial)
theorem Mild.typeInfo (t:TypeId):Mild (Go.typeInfo t):=by unfold Go.typeInfo;exact Mild.bind (fun _=>trivial) (fun _=>by split <;> trivial)
theorem Mild.sizeOf (t:TypeId):Mild (Go.sizeOf t):=by unfold Go.sizeOf;exact Mild.bind (Mild.typeInfo t) (fun _=>trivial)
theorem Mild.isAgg (t:TypeId):Mild (Go.isAgg t):=by unfold Go.isAgg;exact Mild.bind (Mild.underlying t) (fun _=>by split <;> trivial)
theorem Mild.load (a:Addr):Mild (load a):=fun _=>trivial
theorem Mild.loadCellsFrom (a:Addr):∀(n i:Nat) (acc:Array Value),Mild (loadCellsFrom a i n acc)
 | 0,_,_=>trivial
 | n+1,i,acc=>by unfold Go.loadCellsFrom;exact Mild.bind (Mild.load _) (fun _=>Mild.loadCellsFrom a n _ _)
theorem Mild.loadVar (t:TypeId) (a:Addr):Mild (loadVar t a):=by
 unfold Go.loadVar;refine Mild.bind (Mild.isAgg t) (fun b=>?_)
 cases b with
 | true=>exact Mild.bind (Mild.sizeOf t) (fun _=>Mild.bind (Mild.loadCellsFrom _ _ _ _) (fun _=>trivial))
 | false=>exact Mild.load a
theorem Mild.sureAddr (v:Value):Mild (Instr.sureAddr v):=by unfold Instr.sureAddr;split <;> trivial
theorem Mild.loadAt (t:TypeId) (v:Value):Mild (Instr.loadAt t v):=by unfold Instr.loadAt;exact Mild.bind (Mild.sureAddr v) (fun _=>Mild.loadVar t _)
theorem Mild.choose (q:Question):Mild (Go.choose q):=fun _=>trivial
theorem Mild.map {α β:Type} {f:α→β} {s:Sem α} (h:Mild s):Mild (f <$> s):=by
 show Mild (s.bind (fun a=>Sem.pure (f a)));exact Mild.bind_ (f:=fun a=>Sem.pure (f a)) (fun _=>True.intro) s h
theorem Mild.runtimePanic {α:Type} (e:RuntimeError):Mild (Go.runtimePanic (α:=α) e):=by
 unfold Go.runtimePanic;refine Mild.bind (fun _=>trivial) (fun _=>?_);dsimp only
 repeat' (first | exact trivial | exact (fun _=>trivial) | refine Mild.bind ?_ (fun _=>?_) | split)
theorem Mild.boundsPanic {α:Type} (k:IntKind) (x y:Int) (c:BoundsCode):Mild (Go.boundsPanic (α:=α) k x y c):=by
 unfold Go.boundsPanic;dsimp only
 split
 ·exact Mild.bind (Mild.map (Mild.choose _)) (fun _=>Mild.runtimePanic _)
 ·exact Mild.bind (s:=pure _) trivial (fun _=>Mild.runtimePanic _)
theorem Mild.asIntOf (v:Value):Mild (Go.asIntOf v):=by unfold Go.asIntOf;split <;> trivial
theorem Mild.asBool (v:Value):Mild (Go.asBool v):=by unfold Go.asBool;split <;> trivial
theorem Mild.asAddr (v:Value):Mild (Go.asAddr v):=by unfold Go.asAddr;split <;> first | trivial | exact Mild.runtimePanic _
theorem Mild.sliceBound (x:Value) (y:Nat) (c:BoundsCode):Mild (Instr.sliceBound x y c):=by
 unfold Instr.sliceBound;refine Mild.bind (Mild.asIntOf x) (fun _=>?_);dsimp only
 split
 ·exact trivial
 ·exact Mild.boundsPanic _ _ _ _
theorem Mild.sliceBounds (b:Bool) (l c:Nat) (x y z:Option Value):Mild (Instr.sliceBounds b l c x y z):=by
 unfold Instr.sliceBounds
 repeat' (first | exact trivial | exact Mild.sliceBound _ _ _ | refine Mild.bind ?_ (fun _=>?_) | split)
theorem Mild.slice (t:TypeId) (v:Value) (x y z:Option Value):Mild (Instr.slice t v x y z):=by
 unfold Instr.slice
 repeat' (first | exact trivial | exact Mild.underlying _ | exact Mild.sizeOf _ | exact Mild.asAddr _ | exact Mild.sliceBounds _ _ _ _ _ _ | refine Mild.bind ?_ (fun _=>?_) | split)
theorem Mild.sliceAt (t:TypeId) (v:Value) (x y z:Option Value):Mild (Instr.sliceAt t v x y z):=by
 unfold Instr.sliceAt
 repeat' (first | exact trivial | exact Mild.underlying _ | exact Mild.sizeOf _ | exact Mild.sureAddr _ | exact Mild.sliceBounds _ _ _ _ _ _ | exact Mild.slice _ _ _ _ _ | refine Mild.bind ?_ (fun _=>?_) | split)
theorem Mild.len_ (a:Array TypeId) (t:TypeId) (args:Array Value):Mild (Builtin.len_ a t args):=by
 unfold Builtin.len_
 repeat' (first | exact trivial | exact Mild.underlying _ | exact (fun _=>trivial) | refine Mild.bind ?_ (fun _=>?_) | split)
theorem Mild.stringOp (o:BinOp) (x y:ByteArray):Mild (Op.stringOp o x y):=by
 unfold Op.stringOp;dsimp only
 repeat' (first | exact trivial | split)
theorem Mild.min2 (x y:Value):Mild (Builtin.min2 x y):=by
 unfold Builtin.min2
 repeat' (first | exact trivial | exact Mild.choose _ | exact Mild.stringOp _ _ _ | exact Mild.asBool _ | refine Mild.bind ?_ (fun _=>?_) | split)
theorem Mild.foldlM {α β:Type} {f:β→α→Sem β} (h:∀b a,Mild (f b a)):∀(l:List α) (b:β),Mild (l.foldlM f b)
 | [],_=>trivial
 | a::l,b=>by rw [List.foldlM_cons];exact Mild.bind (h b a) (fun c=>Mild.foldlM h l c)
theorem Mild.min_ (a:Array TypeId) (t:TypeId) (args:Array Value):Mild (Builtin.min_ a t args):=by
 unfold Builtin.min_
 split
 ·exact trivial
 ·exact Mild.foldlM (fun _ _=>Mild.min2 _ _) _ _
theorem Mild.indexAt (t:TypeId) (x v:Value):Mild (Instr.indexAt t x v):=by
 unfold Instr.indexAt
 repeat' (first | exact trivial | exact Mild.underlying _ | exact Mild.sizeOf _ | exact Mild.asIntOf _ | exact Mild.sureAddr _ | exact Mild.boundsPanic _ _ _ _ | refine Mild.bind ?_ (fun _=>?_) | split | dsimp only)
theorem Mild.zeroValue (t:TypeId):Mild (Go.zeroValue t):=by unfold Go.zeroValue;exact Mild.bind (Mild.typeInfo t) (fun _=>by split <;> trivial)
theorem Mild.newRow (t:TypeId) (cs:Array Value):Mild (Go.newRow t cs):=Mild.bind (fun _=>trivial) (fun _=>trivial)
theorem Mild.box (t:TypeId) (v:Value):Mild (Instr.box t v):=Mild.bind (Mild.newRow _ _) (fun _=>trivial)
theorem Mild.alloc (t:TypeId):Mild (Instr.alloc t true (.tuple #[])):=Mild.bind (Mild.zeroValue t) (fun _=>Mild.bind (Mild.newRow _ _) (fun _=>trivial))
theorem Mild.buildSlice (t:TypeId) (n:Nat) (ps:Array (Nat×Value)):Mild (Instr.buildSlice t n ps):=by
 unfold Instr.buildSlice
 repeat' (first | exact trivial | exact Mild.underlying _ | exact Mild.sizeOf _ | exact Mild.zeroValue _ | exact Mild.newRow _ _ | refine Mild.bind ?_ (fun _=>?_) | split | dsimp only)
def MildOp (o:Oper):Prop:=∀ev,∃s:Sem Value,Mild s∧execOp ev o=s.bind (fun a=>.pure (.value a))
def mildB:Op→Bool
 | .move _=>true
 | .assign _=>true
 | .load ..=>true
 | .slice ..=>true
 | .indexAddr ..=>true
 | .buildSlice ..=>true
 | .box ..=>true
 | .alloc ..=>true
 | .call { callee:=.builtin .len,.. }=>true
 | .call { callee:=.builtin .min,.. }=>true
 | _=>false
theorem mildB_spec {o:Oper} (h:mildB o.op=true):MildOp o:=by
 obtain ⟨d,op,_,_,_,_⟩:=o;intro ev;dsimp only at h
 cases op with
 | move x=>exact ⟨.pure (ev x),trivial,rfl⟩
 | assign x=>exact ⟨.pure (ev x),trivial,rfl⟩
 | load t a=>exact ⟨_,Mild.loadAt t (ev a),rfl⟩
 | slice t x lo hi mx=>exact ⟨_,Mild.sliceAt _ _ _ _ _,rfl⟩
 | indexAddr t x i=>exact ⟨_,Mild.indexAt _ _ _,rfl⟩
 | buildSlice t n ps=>exact ⟨_,Mild.buildSlice _ _ _,rfl⟩
 | box t x=>exact ⟨_,Mild.box _ _,rfl⟩
 | alloc t=>exact ⟨_,Mild.alloc _,rfl⟩
 | call c =>
  obtain ⟨cl,ar,ty⟩:=c
  cases cl with
  | builtin b=>cases b with
   | len=>exact ⟨_,Mild.len_ _ _ _,rfl⟩
   | min=>exact ⟨_,Mild.min_ _ _ _,rfl⟩
   | _=>cases h
  | _=>cases h
 | _=>cases h
section
variable {P:Program} {ops:Array Oper} {Q:Exit→Act→World→Prop} {md:Region.Mode} {S R:World→Prop}
theorem wpOp_mild (hR:Calmly R) {j:Nat} {oj:Oper} (hj:ops[j]?=some oj) (hm:MildOp oj) {K:Act→World→Prop} {a:Act} {w:World} (hRw:R w) (h:wpOp P ops Q j K a w):wpOp P ops Q j (fun a' w'=>R w'∧K a' w') a w:=by
 unfold wpOp at *;simp only [hj] at *
 split
 ·rename_i hw;simp only [hw,if_true] at h;rcases h with h | h
  ·left
   unfold Oper.wp at *;obtain ⟨s,hs,he⟩:=hm a.eval;have hr:(execOp a.eval oj).run P w=(s.run P w).andThen (fun v w'=>.ok (.value v) w'):=by rw [he];exact Sem.run_bind P w s _
   rw [hr] at h ⊢
   cases e:s.run P w with
   | ok v w'=>rw [e] at h;exact ⟨Mild.run hR s w hs hRw v w' e,h⟩
   | halt x w'=>rw [e] at h;cases x <;> exact h
  ·exact .inr h
 ·rename_i hw;simp only [hw] at h;exact ⟨hRw,h⟩
def keptB (md:Region.Mode) (ops:Array Oper) (listed:Array Bool) (i:Nat) (B:List Nat):Bool :=
 (B.all fun j=>!listed.getD j true&&!(j==i))&&(List.range ops.size).all fun j=>j==i || listed.getD j true || match ops[j]? with
  | some o=>if B.contains j then o.after.any (fun e=>Region.binds md e&&(e.on==i || B.contains e.on)) else mildB o.op
  | none=>true
theorem first_mild (hR:Calmly R) {B:List Nat} {i:Nat} {oi:Oper} {v:Value} (hi:ops[i]?=some oi) (hsel:∀(j:Nat) (o:Oper) cs b,ops[j]?=some o→o.op≠.select cs b)
  (hQ:∀c a w,Q (.panic c) (a.put oi.dst v) w→Q (.panic c) a w) (hB2:∀j∈B,∀oj,ops[j]?=some oj→∃e∈oj.after,Region.binds md e=true∧(e.on=i∨e.on∈B)) :
  ∀(fuel:Nat) (listed:Array Bool) (a:Act) (w:World),
   (∀j oj,ops[j]?=some oj→j≠i→listed.getD j true=false→(∀e∈oj.after,Region.binds md e=true→e.on≠i)→oi.apart ops oj=true) →
   (∀j oj,ops[j]?=some oj→j≠i→listed.getD j true=false→j ∉ B→MildOp oj)→(∀j∈B,listed.getD j true=false) →
   i∈Region.ready md ops listed→YieldsIf P ops R oi v a→R w→S w →
   wpAnyH P md ops Q S fuel (listed.setIfInBounds i true) (a.put oi.dst v) w→wpAnyH P md ops Q S (fuel+1) listed a w:=by
 intro fuel
 induction fuel with
 | zero =>
  intro listed a w _ _ _ hr hy hRw hS H;refine ⟨fun h=>(by rw [h] at hr;cases hr),fun j hj=>?_⟩;by_cases hji:j=i
  ·subst hji;exact hy.wpOp hi hRw ⟨hS,H⟩
  ·have:=ready_mono hj hji;rw [H.1] at this;cases this
 | succ fuel ih =>
  intro listed a w hfree hmild hB1 hr hy hRw hS H;refine ⟨fun h=>(by rw [h] at hr;cases hr),fun j hj=>?_⟩;by_cases hji:j=i
  ·subst hji;exact hy.wpOp hi hRw ⟨hS,H⟩
  ·have h1:=H.2 j (ready_mono hj hji);obtain ⟨hjun,oj,hoj,hall⟩:=mem_ready.1 hj;have hi0:=(mem_ready.1 hr).1
   have hoff:∀k,listed.getD k true=false→listed.getD k false=true→False:=fun k h0 h1=>by
    rcases Nat.lt_or_ge k listed.size with q | q
    ·simp [q] at h0 h1;rw [h0] at h1;cases h1
    ·simp [Array.getElem?_eq_none q] at h1
   have hnot:∀e∈oj.after,Region.binds md e=true→e.on≠i:=fun e he hb heq=>hoff i hi0 (by rw [←heq];exact hall e he hb)
   have hjB:j ∉ B:=fun hB=>by
    obtain ⟨e,he,hb,q | q⟩:=hB2 j hB oj hoj
    ·exact hnot e he hb q
    ·exact hoff _ (hB1 _ q) (hall e he hb)
   have h2:=wpOp_mild hR hoj (hmild j oj hoj hji hjun hjB) hRw (wpOp_putIf hoj (hfree j oj hoj hji hjun hnot) (fun cs b=>hsel i oi cs b hi) (fun cs b=>hsel j oj cs b hoj) hQ hy h1)
   have un:∀k,k≠i→(listed.setIfInBounds j true).getD k true=false→listed.getD k true=false:=fun k _ hun=>by
    by_cases hjk:j=k
    ·subst hjk;exact hjun
    ·rw [getD_set_ne true hjk] at hun;exact hun
   refine wpOp_mono (fun a' w' h3=>⟨h3.2.2.1,ih (listed.setIfInBounds j true) a' w' (fun k ok hk hki hun hno=>hfree k ok hk hki (un k hki hun) hno) (fun k ok hk hki hun hkB=>hmild k ok hk hki (un k hki hun) hkB) (fun k hk=>?_) (ready_mono hr (Ne.symm hji)) h3.2.1 h3.1 h3.2.2.1 ?_⟩) h2
   ·rw [getD_set_ne true (fun e=>hjB (by rw [e];exact hk))];exact hB1 k hk
   ·rw [Array.setIfInBounds_comm _ _ hji];exact h3.2.2.2
theorem wpAnyH_takeM (R:World→Prop) (hR:Calmly R) (B:List Nat) {i:Nat} {oi:Oper} {v:Value} {fuel:Nat} {listed:Array Bool} {a:Act} {w:World} (hi:ops[i]?=some oi)
  (hs:Region.noSelect ops=true) (hf:Region.free md ops listed i=true) (hb:keptB md ops listed i B=true) (hr:(Region.ready md ops listed).contains i=true)
  (hQ:∀c a w,Q (.panic c) (a.put oi.dst v) w→Q (.panic c) a w) (hy:YieldsIf P ops R oi v a) (hRw:R w) (hS:S w)
  (h:wpAnyH P md ops Q S fuel (listed.setIfInBounds i true) (a.put oi.dst v) w):wpAnyH P md ops Q S (fuel+1) listed a w:=by
 simp only [keptB,Bool.and_eq_true,List.all_eq_true,Bool.not_eq_true',List.mem_range,beq_eq_false_iff_ne] at hb;obtain ⟨b0,b2⟩:=hb;have b1:∀j∈B,listed.getD j true=false:=fun j hj=>(b0 j hj).1
 refine first_mild hR hi (Region.noSelect_spec hs) hQ (fun j hj oj hoj=>?_) fuel listed a w (Region.free_spec hi hf) (fun j oj hoj hji hun hjB=>?_) b1 (by simpa using hr) hy hRw hS h
 ·have:=b2 j (Array.getElem?_eq_some_iff.1 hoj).1;rw [hoj,b1 j hj] at this;simp only [Bool.or_false,Bool.or_eq_true,beq_iff_eq,(b0 j hj).2,false_or] at this;rw [if_pos (by simpa using hj)] at this;obtain ⟨e,he,hb⟩:=Array.any_eq_true'.1 this;simp only [Bool.and_eq_true,Bool.or_eq_true,beq_iff_eq] at hb;exact ⟨e,he,hb.1,hb.2.imp id (fun q=>by simpa using q)⟩
 ·have:=b2 j (Array.getElem?_eq_some_iff.1 hoj).1;rw [hoj,hun] at this;simp only [Bool.or_false,Bool.or_eq_true,beq_iff_eq,hji,false_or] at this;rw [if_neg (by simpa using hjB)] at this;exact mildB_spec this
end
theorem calm_cell (p:Addr) (v:Value):Calmly (fun w=>w.cell? p=some v) :=
 ⟨fun w o h=>by rw [World.cell?_alloc_lt _ _ _ (World.block_lt_of_cell? w p h)];exact h,fun _ h=>h⟩
end Go.Proofs.YtifhejahbbnkiaaGreat
namespace Go.Proofs.YtifhejahbbnkiaaGreat
open Go.RowKit
theorem aIsGuess_c (op:Int) (w:World):Calls Tryz.prog 172 #[.int .i64 op] w fun e w'=>e=.returned (.bool (isG op))∧w'=w:=by
 go_enter Tryz.func172,Tryz.ntmps172
 go_wp2
 all_goals
  go_ret;refine ⟨?_,rfl⟩;show Ending.returned (Value.bool _)=_
  congr 2
  unfold isG
  (try simp only [beq_iff_eq,beq_eq_false_iff_ne,ne_eq] at *)
  rw [Bool.eq_iff_iff];simp;omega
theorem bit_u8 (n:Int) (k:Nat) (hk:k<64):bits .and .i64 (n / 2 ^ k) 1 % 256=bW (bI n k):=by
 have h1:bits .and .i64 (n / 2 ^ k) 1=bW (bI n k):=by
  refine word_ext (i64_wrapk _) (i64_bW _) fun j hj=>?_
  rw [bb_and,bI_bool];have e1:bI 1 j=decide (j=0):=by have:=bI_bool true j;rw [Bool.and_true] at this;exact this
  rw [e1];by_cases h0:j=0
  ·subst h0;rw [Bool.and_comm]
   congr 1
   rw [bI_eq,bI_eq];have a:=uW_eq (n / 2 ^ k);have b:=uW_eq n;rw [Nat.testBit_zero,Nat.testBit_eq_decide_div_mod_eq]
   congr 1
   apply propext
   have hq:(uW n:Int) / 2 ^ k % 2=n / 2 ^ k % 2:=by
    rw [b]
    have hp:(18446744073709551616:Int)=2 ^ k * (2 * 2 ^ (63 - k)):=by
     rw [show (18446744073709551616:Int)=2 ^ 64 from rfl,←Int.mul_assoc,Int.mul_comm (2 ^ k) 2,Int.mul_assoc,←Int.pow_add,←Int.pow_succ']
     congr 1
     omega
    have hpos:(2:Int) ^ k≠0:=Int.pow_ne_zero (by decide);have hn:=Int.emod_add_mul_ediv n 18446744073709551616;rw [hp] at hn ⊢;generalize n % (2 ^ k * (2 * 2 ^ (63 - k)))=r at *;generalize n / (2 ^ k * (2 * 2 ^ (63 - k)))=q at *;rw [←hn,Int.mul_assoc,Int.mul_assoc,Int.add_mul_ediv_left _ _ hpos];omega
   have c:((uW n / 2 ^ k:Nat):Int)=(uW n:Int) / 2 ^ k:=by rw [Int.natCast_ediv,Int.natCast_pow];rfl
   omega
  ·rw [dF_ h0];simp
 rw [h1];cases bI n k <;> rfl
theorem aBit_c (n:Int) (k:Nat) (hk:k<64) (w:World):Calls Tryz.prog 135 #[.int .i64 n,.int .i64 k] w fun e w'=>e=.returned (.int .u8 (bW (bI n k)))∧w'=w:=by
 have hb:=bit_u8 n k hk;have HB:=h_ hb;clear hb;go_enter Tryz.func135,Tryz.ntmps135
 go_wp2
 go_ret;exact ⟨by rw [←HB.out];rfl,rfl⟩
theorem aOrderFlag_c (m a b:Bool) (sign:Bool) (w:World):Calls Tryz.prog 134 #[.int .u8 (bW m),.int .u8 (bW a),.int .u8 (bW b),.bool sign] w fun e w'=>e=.returned (.int .u8 (bW (ordB m a b sign)))∧w'=w:=by
 cases m <;> cases a <;> cases b <;> cases sign
 all_goals
  go_enter Tryz.func134,Tryz.ntmps134;unfold bW
  go_wp2
  go_ret;exact ⟨rfl,rfl⟩
theorem and63 (x:Int):bits .and .i64 x 63=((x % 64).toNat:Int):=by
 have h1:uW (bits .and .i64 x 63)=uW x % 64:=by
  refine Nat.eq_of_testBit_eq fun i=>?_
  rw [←bI_eq,bb_and,bI_eq,bI_eq,show (64:Nat)=2 ^ 6 from rfl,Nat.testBit_mod_two_pow,show uW 63=2 ^ 6 - 1 from by decide,Nat.testBit_two_pow_sub_one]
  cases (uW x).testBit i <;> simp
 refine uW_inj (i64_wrapk _) (by unfold I64;omega) ?_;have a:=uW_eq x;have b:=uW_eq ((x % 64).toNat:Int);omega
theorem supF_var {p:Pt} (h:0<p.v):supF p=true:=by rw [supF_iff,if_pos h]
theorem supF_op {p:Pt} (h:¬0<p.v):supF p=(supO p.op p.kids&&p.kids.all supF):=by rw [supF_iff,if_neg h]
set_option maxRecDepth 100000 in
set_option maxHeartbeats 16000000 in
theorem aSupported_c (m:Nat) (p:Pt):∀(w:World) (F:Nat→Prop) (KA:Option Addr) (kc:Nat),PtK w F p KA kc→WfP m p→p.size≤1000000000000 →
  Calls Tryz.prog 121 #[pv p KA kc] w fun e w'=>e=.returned (.bool (supF p))∧Upd Non w w':=by
 induction p using Pt.ind with
 | h p ih =>
  intro w F KA kc hp hw hs;rw [WfP.iff] at hw;have hle:=Pt.len_le p.kids;have hse:=Pt.size_eq p;have hn12:p.kids.length≤1000000000000:=by omega
  have HI:=h_ ih;obtain ⟨W,HW⟩:=nm (w.alloc (.cells #[.int .i64 p.v,.int .i64 p.op,.int .i64 p.imm,.int .i64 p.iv,.slice KA p.kids.length kc] 38));have hU:Upd Non w W:=by rw [←HW.out];exact Upd.refl.alloc _
  have hb:Blk W w.heap.size 38 #[.int .i64 p.v,.int .i64 p.op,.int .i64 p.imm,.int .i64 p.iv,.slice KA p.kids.length kc]:=by rw [←HW.out];exact Blk.new _ _ _
  have e0:=HW.out;have c0:=hb.cell 0;have c1:=hb.cell 1;have c4:=hb.cell 4;have hpW:=PtK.upd hU (fun _ _ _ f=>f) p KA kc hp;have HS:=h_ hse;have HWF:=h_ hw.2.2.2;have HAR:=h_ hw.2.2.1;have hv0:=hw.1;unfold pv;clear ih hse hp hw hle;by_cases hv:0<p.v
  ·have t0:decide (p.v > 0)=true:=dT_ hv;have HR:Hid (supF p=true):=supF_var hv;go_enter Tryz.func121,Tryz.ntmps121;go_wp2_with fail
   go_ret;exact ⟨by rw [HR.out];rfl,hU⟩
  ·have t0:decide (p.v > 0)=false:=dF_ hv;have HR:Hid (supF p=(supO p.op p.kids&&p.kids.all supF)):=supF_op hv;have har:Hid (p.kids.length=(oSortsF p.op).1.length):=HAR.out (by omega);clear HAR hv;by_cases hop:p.op=1∨p.op=4∨p.op=5∨p.op=9∨p.op=10∨p.op=11∨p.op=20∨p.op=21∨p.op=15∨p.op=16∨p.op=17∨p.op=18∨p.op=19∨p.op=22
   ·have HR:Hid (supF p=p.kids.all supF):=by
     show _=_;rw [HR.out,show supO p.op p.kids=true by unfold supO;exact dT_ (by omega)];rfl
    obtain ⟨n,Hn⟩:=nm p.kids.length;rw [Hn.out] at c4 e0 hn12;obtain ⟨op,Hop⟩:=nm p.op;rw [Hop.out] at c1 e0 hop;rw [Hn.out,Hop.out];clear har Hop;rcases hop with h | h | h | h | h | h | h | h | h | h | h | h | h | h
    all_goals
     subst h;go_enter Tryz.func121,Tryz.ntmps121;go_wp2_with fail
     go_loopg [4,52] n (fun g _ i wr=>∃k:Nat,Hid (g=n - k)∧k≤n∧i=.int .i64 k∧Hid ((p.kids.take k).all supF=true)∧Upd Non W wr)
     case atStart=>exact ⟨0,rfl,by omega,rfl,rfl,Upd.refl⟩
     case round =>
      obtain ⟨k,Hg,hk,rfl,HT,hu⟩:=hrel;by_cases hlt:k<n
      ·have hkl:k<p.kids.length:=by rw [Hn.out];exact hlt
       obtain ⟨b,o,rfl,hF,hbw,KB,kd,h0,h1,h2,h3,h4,h5⟩:=(PtK.upd hu (fun _ _ _ f=>f) p KA kc hpW).at_ hkl;have hks:p.kids[k].size≤1000000000000:=by have:=Pt.kids_lt (List.getElem_mem hkl);omega
       have hmem:=List.getElem_mem hkl;have HT2:Hid (supF p.kids[k]=true→(p.kids.take (k+1)).all supF=true):=fun e=>by rw [List.take_succ_eq_append_getElem hkl,List.all_append,HT.out];simp [e]
       have HF2:Hid (supF p.kids[k]=false→p.kids.all supF=false):=fun e=>by
        rw [Bool.eq_false_iff];intro q;rw [List.all_eq_true] at q;rw [q _ hmem] at e;cases e
       generalize p.kids[k]=q at *;obtain ⟨W3,HW3⟩:=nm (wr.alloc (.cells #[.int .i64 q.v,.int .i64 q.op,.int .i64 q.imm,.int .i64 q.iv,.slice KB q.kids.length kd] 38));have hq:=PtK.upd (Upd.refl.alloc (S:=Non) (.cells #[.int .i64 q.v,.int .i64 q.op,.int .i64 q.imm,.int .i64 q.iv,.slice KB q.kids.length kd] 38)) (fun _ _ _ f=>f) q KB kd h5
       have C1:=h_ (HI.out q hmem _ F KB kd hq (HWF.out q hmem) hks);unfold pv at C1;clear h5 hq hmem
       cases hsq:supF q with
       | false =>
        rw [hsq] at C1;have HF3:=h_ (HF2.out hsq);clear hsq HT2 HF2;go_wp2_with fail
        refine C1.out.mono ?_;rintro e w4 ⟨rfl,hu4⟩;go_wp2_with fail
        go_ret;exact ⟨by rw [HR.out,HF3.out];rfl,hU.then_non ((hu.alloc _).then_non hu4)⟩
       | true =>
        rw [hsq] at C1;have HT3:=h_ (HT2.out hsq);clear hsq HT2 HF2;go_wp2_with fail
        refine C1.out.mono ?_;rintro e w4 ⟨rfl,hu4⟩;go_wp2_with fail
        go_roundg (n - (k+1))
        case measure=>rw [Hg.out];omega
        case rel=>exact ⟨k+1,rfl,by omega,by go_num,HT3.out,(hu.alloc _).then_non hu4⟩
      ·obtain rfl:n=k:=by omega
       have HA:Hid (p.kids.all supF=true):=by have:=HT.out;rw [List.take_of_length_le (by rw [Hn.out];omega)] at this;exact this
       go_wp2_with fail
       go_ret;exact ⟨by rw [HR.out,HA.out];rfl,hU.then_non hu⟩
   ·by_cases h12:p.op=12
    ·have hlen:Hid (p.kids.length=2):=by have:=har.out;rw [h12] at this;exact this
     obtain ⟨k0,k1,ek⟩:∃k0 k1,p.kids=[k0,k1]:=by
      match p.kids,hlen.out with
      | [x,y],_=>exact ⟨x,y,rfl⟩
     have HR:Hid (supF p=(decide (k1.op=1)&&(decide ((k1.imm % 64).toNat≤8)&&supF k0))):=by
      show _=_;rw [HR.out,ek,h12];have w1:=HWF.out k1 (by rw [ek];simp);rw [WfP.iff] at w1
      have e1:supO 12 [k0,k1]=(decide (k1.op=1)&&decide ((k1.imm % 64).toNat≤8)):=by
       unfold supO;rw [Bool.eq_iff_iff];simp [kid]
      have e2:k1.op=1→supF k1=true:=fun e=>by
       by_cases hv1:0<k1.v
       ·exact supF_var hv1
       ·have : k1.kids=[]:=List.length_eq_zero_iff.1 (by rw [w1.2.2.1 (by omega),e];rfl);rw [supF_op hv1,this,e];rfl
      rw [e1];by_cases h1:k1.op=1
      ·rw [dT_ h1,List.all_cons,List.all_cons,e2 h1];simp
      ·rw [dF_ h1];rfl
     have hA:=hpW.at_ (i:=1) (by rw [hlen.out];decide);obtain ⟨b,o,rfl,hF,hbw,KB,kd,h0,h1,h2,h3,h4,h5⟩:=hpW.at_ (i:=0) (by rw [hlen.out];decide);obtain ⟨b',o',eb,_,_,KB',kd',g0,g1,g2,g3,g4,g5⟩:=hA;injection eb with eb
     injection eb with eb1 eb2
     subst eb1 eb2;have q0:p.kids[0]'(by rw [hlen.out];decide)=k0:=by simp [ek]
     have q1:p.kids[1]'(by rw [hlen.out];decide)=k1:=by simp [ek]
     rw [q0] at h0 h1 h2 h3 h4 h5;simp only [Nat.zero_mul,Nat.add_zero] at h0 h1 h2 h3 h4;rw [q1] at g0 g1 g2 g3 g4 g5;have hm0:k0∈p.kids:=by rw [ek];simp
     have hks:k0.size≤1000000000000:=by have:=Pt.kids_lt hm0;omega
     have C1:=h_ (HI.out k0 hm0 W F KB kd h5 (HWF.out k0 hm0) hks);unfold pv at C1;rw [hlen.out] at c4 e0;rw [h12] at c1 e0;rw [hlen.out,h12];clear h5 g5 hm0 hks har ek q0 q1 hn12 hop g3 g4;have ha:=and63 k1.imm;obtain ⟨m,Hm⟩:=nm (k1.imm % 64).toNat;rw [Hm.out] at ha HR;clear Hm;by_cases h1:k1.op=1
     ·have t1:(k1.op==1)=true:=by simpa using h1
      by_cases h8:m≤8
      ·have t8:decide ((m:Int)≤8)=true:=dT_ (by omega);have HR2:Hid (supF p=supF k0):=by show _=_;rw [HR.out,dT_ h1,dT_ h8];rfl
       clear h1;go_enter Tryz.func121,Tryz.ntmps121;go_wp2_with fail
       refine C1.out.mono ?_;rintro e w4 ⟨rfl,hu4⟩;go_wp2_with fail
       go_ret;exact ⟨by rw [HR2.out];rfl,hU.then_non hu4⟩
      ·have t8:decide ((m:Int)≤8)=false:=dF_ (by omega);have HR2:Hid (supF p=false):=by show _=_;rw [HR.out,dT_ h1,dF_ h8];rfl
       clear h1;go_enter Tryz.func121,Tryz.ntmps121;go_wp2_with fail
       go_ret;exact ⟨by rw [HR2.out];rfl,hU⟩
     ·have t1:(k1.op==1)=false:=by simpa using h1
      have HR2:Hid (supF p=false):=by show _=_;rw [HR.out,dF_ h1];rfl
      clear h1;go_enter Tryz.func121,Tryz.ntmps121;go_wp2_with fail
      go_ret;exact ⟨by rw [HR2.out];rfl,hU⟩
    ·have HR:Hid (supF p=false):=by
      show _=_;rw [HR.out,show supO p.op p.kids=false by unfold supO;exact dF_ (by omega)];rfl
     clear har hn12;obtain ⟨op,Hop⟩:=nm p.op;rw [Hop.out] at c1 e0 hop h12;rw [Hop.out];clear Hop;obtain ⟨a1,a2,a3,a4,a5,a6,a7,a8,a9,a10,a11,a12,a13,a14⟩:(op==1)=false∧(op==4)=false∧(op==5)=false∧(op==9)=false∧(op==10)=false∧(op==11)=false∧(op==20)=false∧(op==21)=false∧(op==15)=false∧(op==16)=false∧(op==17)=false∧(op==18)=false∧(op==19)=false∧(op==22)=false:=by simp;omega
     have a15:(op==12)=false:=by simpa using h12
     clear hop h12;go_enter Tryz.func121,Tryz.ntmps121;go_wp2_with fail
     go_ret;exact ⟨by rw [HR.out];rfl,hU⟩
theorem T_u8s:SlT Tryz.prog 84 5 1 1:=by
 obtain ⟨i,h1,h2,h3,h4⟩:=info_parts (show (Tryz.prog.info? 5).map (fun i=>(i.zero,i.size,i.bytes))=some (some (.int .u8 0),1,1) from by kernel_rfl)
 exact ⟨Tryz.underlying84,⟨i,_,h1,h2,h3,h4,rfl⟩,by omega⟩
theorem zero_u8:(Tryz.prog.info? 5).bind (·.zero)=some (.int .u8 0):=by kernel_rfl
def u8s (l:List UInt8):List Value:=l.map fun x=>Value.int .u8 (x.toNat:Int)
def kstr (l:List UInt8):ByteArray:=⟨l.toArray⟩
theorem kx_kstr (l:List UInt8):kx (kstr l)=l:=kx_mk l
theorem bstr_u8 (l:List UInt8):bstr (l.map fun x=>(x.toNat:Int))=kstr l:=by
 unfold bstr kstr
 congr 2
 rw [List.map_map]
 conv=>rhs;rw [←List.map_id l]
 refine List.map_congr_left fun x _=>?_
 simp
theorem kstr_inj {a b:List UInt8}:kstr a=kstr b↔a=b:=⟨fun h=>by have:=congrArg kx h;simpa [kx_kstr] using this,fun h=>by rw [h]⟩
structure ElOk {α:Type} (El:World→(Nat→Prop)→List Value→α→Prop) (k:Nat):Prop where
 len:∀{w:World} {K:Nat→Prop} {cs:List Value} {x:α},El w K cs x→cs.length=k
 upd:∀{w w':World} {K K' S:Nat→Prop} {cs:List Value} {x:α},El w K cs x→Upd S w w'→(∀i,i<w.heap.size→K i→¬S i)→(∀i,i<w.heap.size→K i→K' i)→El w' K' cs x
section
variable {α:Type} {El:World→(Nat→Prop)→List Value→α→Prop} {k:Nat} {w w':World} {F G G' K K' S:Nat→Prop} {A:Option Addr} {L:List α} {n c:Nat} {e:TypeId} {cs:List Value}
def ElCells (El:World→(Nat→Prop)→List Value→α→Prop) (k:Nat) (w:World) (K:Nat→Prop) (cs:List Value) (L:List α):Prop :=
 cs.length=k * L.length∧∀i (h:i<L.length),El w K ((cs.drop (k * i)).take k) L[i]
theorem ElCells.nil:ElCells El k w K [] ([]:List α):=⟨rfl,fun _ h=>absurd h (Nat.not_lt_zero _)⟩
theorem ElCells.mono (O:ElOk El k) (h:ElCells El k w K cs L) (u:Upd S w w') (d:∀i,i<w.heap.size→K i→¬S i) (hK:∀i,i<w.heap.size→K i→K' i):ElCells El k w' K' cs L :=
 ⟨h.1,fun i hi=>O.upd (h.2 i hi) u d hK⟩
theorem ElCells.snoc (O:ElOk El k) (h:ElCells El k w K cs L) {x:α} {new:List Value} (hx:El w K new x):ElCells El k w K (cs++new) (L++[x]):=by
 have hl:=h.1;have hn:=O.len hx;refine ⟨by rw [List.length_append,List.length_append,hl,hn,List.length_singleton,Nat.mul_add,Nat.mul_one],fun i hi=>?_⟩;by_cases hlt:i<L.length
 ·have h1:=h.2 i hlt;have h2:k * (i+1)≤k * L.length:=Nat.mul_le_mul_left k hlt;rw [Nat.mul_add,Nat.mul_one] at h2;rw [List.getElem_append_left hlt,List.drop_append_of_le_length (by omega),List.take_append_of_le_length (by rw [List.length_drop];omega)];exact h1
 ·have he:i=L.length:=by simp at hi;omega
  subst he;have : (L++[x])[L.length]=x:=by simp
  rw [this,←hl,List.drop_append_of_le_length (by omega),List.drop_length,List.nil_append,List.take_of_length_le (by omega)];exact hx
theorem ElCells.get (h:ElCells El k w K cs L) {i:Nat} (hi:i<L.length):∃el,(∀j,j<k→cs[k * i+j]?=el[j]?)∧El w K el L[i] :=
 ⟨_,fun j hj=>by rw [List.getElem?_take,if_pos hj,List.getElem?_drop],h.2 i hi⟩
theorem ElCells.take (h:ElCells El k w K cs L) (m:Nat):ElCells El k w K (cs.take (k * m)) (L.take m):=by
 refine ⟨?_,fun i hi=>?_⟩
 ·rw [List.length_take,List.length_take,h.1,Nat.mul_min_mul_left]
 ·have hi2:i<m∧i<L.length:=by rw [List.length_take] at hi;omega
  rw [List.getElem_take];have h1:=h.2 i hi2.2;have h2:k * (i+1)≤k * m:=Nat.mul_le_mul_left k hi2.1;rw [Nat.mul_add,Nat.mul_one] at h2;rw [List.drop_take,List.take_take,Nat.min_eq_left (by omega)];exact h1
def ElV (El:World→(Nat→Prop)→List Value→α→Prop) (k:Nat) (w:World) (F:Nat→Prop) (A:Option Addr) (L:List α):Prop:=∃cs,Sl w F A cs∧ElCells El k w F cs L
theorem ElV.nil:ElV El k w F A ([]:List α):=⟨[],Sl.nil,ElCells.nil⟩
theorem ElV.upd (O:ElOk El k) (h:ElV El k w F A L) (u:Upd S w w') (d:∀i,i<w.heap.size→F i→¬S i):ElV El k w' F A L:=by
 obtain ⟨cs,h1,h2⟩:=h;exact ⟨cs,h1.upd u d,h2.mono O u d (fun _ _ h=>h)⟩
theorem ElV.mono (O:ElOk El k) (h:ElV El k w F A L) (d:∀i,i<w.heap.size→F i→G i):ElV El k w G A L:=by
 obtain ⟨cs,h1,h2⟩:=h;exact ⟨cs,h1.mono d,h2.mono O (Upd.refl (S:=Non)) (fun _ _ _ f=>f) d⟩
theorem ElV.at_ (hk:0<k) (h:ElV El k w F A L) {i:Nat} (hi:i<L.length):∃b off el,A=some ⟨b,off,none⟩∧F b∧b<w.heap.size∧(∀j,j<k→w.cell? ⟨b,off+(i * k+j),none⟩=el[j]?)∧El w F el L[i]:=by
 obtain ⟨cs,h1,h2⟩:=h;obtain ⟨el,he,hx⟩:=h2.get hi;have hl:=h2.1;have hle:k * (i+1)≤k * L.length:=Nat.mul_le_mul_left k hi;rw [Nat.mul_add,Nat.mul_one] at hle;obtain ⟨b,off,hA,hF,hb,_⟩:=h1.at_ (k:=k * i) (by omega);refine ⟨b,off,el,hA,hF,hb,fun j hj=>?_,hx⟩;obtain ⟨b',off',hA',_,_,hc⟩:=h1.at_ (k:=k * i+j) (by omega);rw [hA] at hA';injection hA' with hA'
 injection hA' with e1 e2
 subst e1 e2;rw [←he j hj,Nat.mul_comm i k,List.getElem?_eq_getElem (by omega)];exact hc
def ElO (El:World→(Nat→Prop)→List Value→α→Prop) (k:Nat) (e:TypeId) (w:World) (G:Nat→Prop) (A:Option Addr) (n c:Nat) (L:List α):Prop :=
 n=L.length∧∃cs,Own w e k A n c cs∧ElCells El k w (fun i=>G i∧¬At A i) cs L
theorem ElO.none_:ElO El k e w G none 0 0 ([]:List α):=⟨rfl,[],Own.none_,ElCells.nil⟩
theorem ElO.upd (O:ElOk El k) (h:ElO El k e w G A n c L) (u:Upd S w w') (dA:∀i,At A i→¬S i) (dG:∀i,i<w.heap.size→G i→¬S i):ElO El k e w' G A n c L:=by
 obtain ⟨h1,cs,h2,h3⟩:=h;exact ⟨h1,cs,h2.upd u dA,h3.mono O u (fun i hi hg=>dG i hi hg.1) (fun _ _ h=>h)⟩
theorem ElO.mono (O:ElOk El k) (h:ElO El k e w G A n c L) (hG:∀i,i<w.heap.size→G i→G' i):ElO El k e w G' A n c L:=by
 obtain ⟨h1,cs,h2,h3⟩:=h;exact ⟨h1,cs,h2,h3.mono O (Upd.refl (S:=Non)) (fun _ _ _ f=>f) (fun i hi hg=>⟨hG i hi hg.1,hg.2⟩)⟩
theorem ElO.lt (h:ElO El k e w G A n c L) {i:Nat} (hi:At A i):i<w.heap.size:=by obtain ⟨_,_,h2,_⟩:=h;exact h2.lt hi
theorem ElO.view (O:ElOk El k) (h:ElO El k e w G A n c L) (hA:∀i,At A i→F i) (hG:∀i,i<w.heap.size→G i→F i):ElV El k w F A L:=by
 obtain ⟨_,cs,h2,h3⟩:=h;exact ⟨cs,h2.sl.mono fun i _ hi=>hA i hi,h3.mono O (Upd.refl (S:=Non)) (fun _ _ _ f=>f) (fun i hi hg=>hG i hi hg.1)⟩
theorem ElO.snoc (O:ElOk El k) {A':Option Addr} {c' m:Nat} {x:α} {new:List Value} (hL:n=L.length) (h:ElCells El k w (fun i=>G i∧¬At A i) cs L) (hx:El w (fun i=>G i∧¬At A i) new x) (ho:Own w' e k A' m c' (cs++new)) (hm:m=n+1)
  (u:Upd (At A) w w') (hA:∀i,At A' i→At A i∨w.heap.size≤i) (hG:∀i,i<w.heap.size→G i→G' i):ElO El k e w' G' A' m c' (L++[x]):=by
 refine ⟨by rw [hm,hL,List.length_append,List.length_singleton],_,ho,(h.snoc O hx).mono O u (fun i _ hg=>hg.2) (fun i hi hg=>⟨hG i hi hg.1,fun q=>?_⟩)⟩
 rcases hA i q with q | q
 ·exact hg.2 q
 ·omega
end
def ElRow (w:World) (K:Nat→Prop) (cs:List Value) (x:List UInt8):Prop:=∃RA rc,cs=[.slice RA x.length rc]∧x.length≤rc∧Sl w K RA (u8s x)
theorem elRow:ElOk ElRow 1 where
 len:=fun ⟨_,_,h,_⟩=>by rw [h];rfl
 upd:=fun ⟨RA,rc,h1,h2,h3⟩ u d hK=>⟨RA,rc,h1,h2,(h3.mono (G:=fun i=>_∧_) (fun i hi h=>⟨hK i hi h,d i hi h⟩)).upd u (fun _ _ h=>h.2) |>.mono (fun _ _ h=>h.1)⟩
def b8 (b:Bool):Value:=.int .u8 (bW b)
def b8s (l:List Bool):List Value:=l.map b8
theorem b8_u8 (b:Bool):b8 b=.int .u8 ((bbit b).toNat:Int):=by cases b <;> rfl
theorem b8s_u8s (l:List Bool):b8s l=u8s (bbs l):=by unfold b8s u8s bbs;rw [List.map_map];exact List.map_congr_left fun b _=>b8_u8 b
theorem b8s_len (l:List Bool):(b8s l).length=l.length:=List.length_map _
theorem b8s_get {l:List Bool} {i:Nat} (h:i<l.length):(b8s l)[i]?=some (b8 (l.getD i false)):=by
 unfold b8s;rw [List.getElem?_map,List.getElem?_eq_getElem h,List.getD_eq_getElem?_getD,List.getElem?_eq_getElem h];rfl
theorem b8s_set (l:List Bool) (i:Nat) (b:Bool):(b8s l).set i (b8 b)=b8s (l.set i b):=by unfold b8s;rw [List.map_set]
def spl (N:List Bool) (a:Nat) (m:List Bool):List Bool:=N.take a++(m++N.drop (a+m.length))
theorem spl_len {N:List Bool} {a:Nat} {m:List Bool} (h:a+m.length≤N.length):(spl N a m).length=N.length:=by
 unfold spl;simp only [List.length_append,List.length_take,List.length_drop];omega
theorem spl_nil (N:List Bool) (a:Nat):spl N a []=N:=by unfold spl;rw [List.nil_append,List.length_nil,Nat.add_zero,List.take_append_drop]
theorem spl_get {N:List Bool} {a:Nat} {m:List Bool} (h:a+m.length≤N.length) (i:Nat):(spl N a m)[i]?=if a≤i∧i<a+m.length then m[i - a]? else N[i]?:=by
 unfold spl;by_cases h1:i<a
 ·rw [List.getElem?_append_left (by rw [List.length_take];omega),if_neg (by omega),List.getElem?_take,if_pos h1]
 ·rw [List.getElem?_append_right (by rw [List.length_take];omega),List.length_take,Nat.min_eq_left (by omega)];by_cases h2:i<a+m.length
  ·rw [List.getElem?_append_left (by omega),if_pos (by omega)]
  ·rw [List.getElem?_append_right (by omega),if_neg (by omega),List.getElem?_drop]
   congr 1
   omega
theorem spl_spl {N:List Bool} {a:Nat} {m1 m2:List Bool} (h:a+m1.length+m2.length≤N.length):spl (spl N a m1) (a+m1.length) m2=spl N a (m1++m2):=by
 refine List.ext_getElem? fun i=>?_
 have l1:=spl_len (N:=N) (a:=a) (m:=m1) (by omega);rw [spl_get (by rw [l1];omega),spl_get (by omega),spl_get (by rw [List.length_append];omega),List.length_append];by_cases h1:a+m1.length≤i∧i<a+m1.length+m2.length
 ·rw [if_pos h1,if_pos (by omega),List.getElem?_append_right (by omega)]
  congr 1
  omega
 ·rw [if_neg h1];by_cases h2:a≤i∧i<a+m1.length
  ·rw [if_pos h2,if_pos (by omega),List.getElem?_append_left (by omega)]
  ·rw [if_neg h2,if_neg (by omega)]
theorem spl_pre {N:List Bool} {a:Nat} {m1 m2:List Bool} (h:a+m1.length+m2.length≤N.length):spl (spl N (a+m1.length) m2) a m1=spl N a (m1++m2):=by
 refine List.ext_getElem? fun i=>?_
 have l1:=spl_len (N:=N) (a:=a+m1.length) (m:=m2) (by omega);rw [spl_get (by rw [l1];omega),spl_get (by omega),spl_get (by rw [List.length_append];omega),List.length_append];by_cases h1:a+m1.length≤i∧i<a+m1.length+m2.length
 ·rw [if_neg (by omega),if_pos h1,if_pos (by omega),List.getElem?_append_right (by omega)]
  congr 1
  omega
 ·by_cases h2:a≤i∧i<a+m1.length
  ·rw [if_pos h2,if_pos (by omega),List.getElem?_append_left (by omega)]
  ·rw [if_neg h2,if_neg h1,if_neg (by omega)]
theorem spl_one {N:List Bool} {a:Nat} (b:Bool) (h:a<N.length):N.set a b=spl N a [b]:=by
 refine List.ext_getElem? fun i=>?_
 rw [spl_get (by simp;omega),List.getElem?_set];by_cases h1:a=i
 ·subst h1;rw [if_pos rfl,if_pos h,if_pos (by simp),Nat.sub_self];rfl
 ·rw [if_neg h1,if_neg (by simp;omega)]
theorem spl_at {N:List Bool} {a:Nat} {m:List Bool} (h:a+m.length≤N.length) {i:Nat} (hi:i<a∨a+m.length≤i):(spl N a m).getD i false=N.getD i false:=by
 rw [List.getD_eq_getElem?_getD,List.getD_eq_getElem?_getD,spl_get h,if_neg (by omega)]
def vP (k:Nat) (ins:Nat→Bool) (O:List Bool) (p:Pt) (a:Nat):Bool:=(bitP k ins p (O.drop a)).1
def nP (k:Nat) (ins:Nat→Bool) (O:List Bool) (p:Pt) (a:Nat):List Bool:=(bitP k ins p (O.drop a)).2.2
def vL (k:Nat) (ins:Nat→Bool) (O:List Bool):List Pt→Nat→List Bool
 | [],_=>[]
 | q::qs,a=>vP k ins O q a::vL k ins O qs (a+bN q)
def nL (k:Nat) (ins:Nat→Bool) (O:List Bool):List Pt→Nat→List Bool
 | [],_=>[]
 | q::qs,a=>nP k ins O q a++nL k ins O qs (a+bN q)
theorem bitP_pos {k:Nat} {ins:Nat→Bool} {O:List Bool} {p:Pt} (hs:supF p=true) {a:Nat} (h:a+bN p≤O.length):bitP k ins p (O.drop a)=(vP k ins O p a,O.drop (a+bN p),nP k ins O p a)∧(nP k ins O p a).length=bN p:=by
 obtain ⟨b,now,hn,hb⟩:=bitP_app k ins p hs ((O.drop a).take (bN p)) (by rw [List.length_take,List.length_drop];omega);have h1:=hb ((O.drop a).drop (bN p));rw [List.take_append_drop,List.drop_drop] at h1;unfold vP nP;rw [h1];exact ⟨rfl,hn⟩
theorem bitL_pos {k:Nat} {ins:Nat→Bool} {O:List Bool}:∀{l:List Pt},(∀q∈l,supF q=true)→∀{a:Nat},a+bL l≤O.length→bitL k ins l (O.drop a)=(vL k ins O l a,O.drop (a+bL l),nL k ins O l a)∧(nL k ins O l a).length=bL l
 | [],_,a,_=>⟨rfl,rfl⟩
 | q::qs,hs,a,h=>by
  simp only [bL] at h;obtain ⟨h1,h2⟩:=bitP_pos (k:=k) (ins:=ins) (O:=O) (hs q (by simp)) (a:=a) (by omega);obtain ⟨h3,h4⟩:=bitL_pos (k:=k) (ins:=ins) (O:=O) (l:=qs) (fun x hx=>hs x (by simp [hx])) (a:=a+bN q) (by omega);refine ⟨?_,by rw [nL,List.length_append,h2,h4];rfl⟩;simp only [bitL,h1,h3,vL,nL,bL,Nat.add_assoc]
theorem vL_len {k:Nat} {ins:Nat→Bool} {O:List Bool}:∀{l:List Pt} {a:Nat},(vL k ins O l a).length=l.length
 | [],_=>rfl
 | q::qs,a=>by rw [vL,List.length_cons,vL_len];rfl
theorem bL_app:∀(l m:List Pt),bL (l++m)=bL l+bL m
 | [],m=>by simp [bL]
 | q::qs,m=>by rw [List.cons_append,bL,bL,bL_app qs m];omega
theorem vL_app {k:Nat} {ins:Nat→Bool} {O:List Bool}:∀(l m:List Pt) (a:Nat),vL k ins O (l++m) a=vL k ins O l a++vL k ins O m (a+bL l)
 | [],m,a=>rfl
 | q::qs,m,a=>by rw [List.cons_append,vL,vL,vL_app qs m,bL,Nat.add_assoc];rfl
theorem nL_app {k:Nat} {ins:Nat→Bool} {O:List Bool}:∀(l m:List Pt) (a:Nat),nL k ins O (l++m) a=nL k ins O l a++nL k ins O m (a+bL l)
 | [],m,a=>rfl
 | q::qs,m,a=>by rw [List.cons_append,nL,nL,nL_app qs m,bL,List.append_assoc,Nat.add_assoc]
theorem bL_take {l:List Pt} {i:Nat} (h:i<l.length):bL (l.take (i+1))=bL (l.take i)+bN l[i]:=by rw [List.take_succ_eq_append_getElem h,bL_app];simp [bL]
theorem bL_take_le (l:List Pt) (i:Nat):bL (l.take i)≤bL l:=by
 have:=bL_app (l.take i) (l.drop i);rw [List.take_append_drop] at this;omega
def pp (g:Nat):Value:=.pointer (some ⟨g,0,none⟩)
def osN (v op:Int) (n:Nat):Nat:=if 0<v then 0 else if op=12 then min 1 n else n
def osOwn (v op:Int) (kids:List Pt):Nat:=if 0<v then 0 else ownN op kids
mutual
def OsT (w:World) (F:Nat→Prop):Pt→Nat→Nat→Prop
 | .mk v op imm iv kids,a,g=>F g∧∃(KA:Option Addr) (kc:Nat) (CA:Option Addr) (cc:Nat) (gs:List Nat),
   Blk w g 183 #[.int .i64 v,.int .i64 op,.int .i64 imm,.int .i64 iv,.slice KA kids.length kc,.slice CA gs.length cc,.int .i64 (a:Int),.int .i64 (osOwn v op kids:Int)] ∧
   gs.length=osN v op kids.length∧Sl w F CA (gs.map pp)∧OsL w F kids (a+osOwn v op kids) gs
def OsL (w:World) (F:Nat→Prop):List Pt→Nat→List Nat→Prop
 | [],_,_=>True
 | _::_,_,[]=>True
 | q::qs,a,g::gs=>OsT w F q a g∧OsL w F qs (a+bN q) gs
end
section
variable {w w':World} {F G S:Nat→Prop}
theorem OsT.iff {p:Pt} {a g:Nat}:OsT w F p a g↔F g∧∃(KA:Option Addr) (kc:Nat) (CA:Option Addr) (cc:Nat) (gs:List Nat),
   Blk w g 183 #[.int .i64 p.v,.int .i64 p.op,.int .i64 p.imm,.int .i64 p.iv,.slice KA p.kids.length kc,.slice CA gs.length cc,.int .i64 (a:Int),.int .i64 (osOwn p.v p.op p.kids:Int)] ∧
   gs.length=osN p.v p.op p.kids.length∧Sl w F CA (gs.map pp)∧OsL w F p.kids (a+osOwn p.v p.op p.kids) gs:=by
 obtain ⟨v,op,imm,iv,kids⟩:=p;rw [OsT];rfl
theorem OsL.at_:∀{l:List Pt} {a:Nat} {gs:List Nat},OsL w F l a gs→∀{i:Nat} (h1:i<l.length) (h2:i<gs.length),OsT w F l[i] (a+bL (l.take i)) gs[i]
 | [],_,_,_,i,h1,_=>absurd h1 (Nat.not_lt_zero _)
 | _::_,_,[],_,i,_,h2=>absurd h2 (Nat.not_lt_zero _)
 | q::qs,a,g::gs,h,i,h1,h2=>by
  rw [OsL] at h
  cases i with
  | zero=>exact h.1
  | succ i =>
   have:=OsL.at_ h.2 (i:=i) (by simpa using h1) (by simpa using h2);simp only [List.take_succ_cons,bL,List.getElem_cons_succ];rw [←Nat.add_assoc];exact this
theorem OsL.of:∀{l:List Pt} {a:Nat} {gs:List Nat},(∀(i:Nat) (h1:i<l.length) (h2:i<gs.length),OsT w F l[i] (a+bL (l.take i)) gs[i])→OsL w F l a gs
 | [],_,_,_=>by rw [OsL];trivial
 | _::_,_,[],_=>by rw [OsL];trivial
 | q::qs,a,g::gs,h=>by
  rw [OsL];refine ⟨h 0 (by simp) (by simp),OsL.of fun i h1 h2=>?_⟩;have:=h (i+1) (by simpa using h1) (by simpa using h2);simp only [List.take_succ_cons,bL,List.getElem_cons_succ] at this;rw [←Nat.add_assoc] at this;exact this
theorem OsT.upd (u:Upd S w w') (d:∀i,i<w.heap.size→F i→¬S i) (hG:∀i,i<w.heap.size→F i→G i) (p:Pt):∀(a g:Nat),OsT w F p a g→OsT w' G p a g:=by
 induction p using Pt.ind with
 | h p ih =>
  intro a g h;rw [OsT.iff] at h ⊢;obtain ⟨hF,KA,kc,CA,cc,gs,hb,hn,hs,hl⟩:=h;refine ⟨hG g hb.lt hF,KA,kc,CA,cc,gs,hb.upd u (d g hb.lt hF),hn,((hs.mono (G:=fun i=>G i∧F i) (fun i hi q=>⟨hG i hi q,q⟩)).upd u (fun i hi q=>d i hi q.2)).mono (fun _ _ q=>q.1),OsL.of fun i h1 h2=>ih _ (List.getElem_mem h1) _ _ (hl.at_ h1 h2)⟩
end
structure TrS (w:World) (F:Nat→Prop) (s k h:Nat) (OA:Option Addr) (oc g nc:Nat) (O N:List Bool):Prop where
 blk:Blk w s 186 #[.int .i64 (k:Int),.int .i64 (h:Int),.slice OA O.length oc,.slice (some ⟨g,0,none⟩) N.length nc]
 old:Sl w F OA (b8s O)
 own:Own w 5 1 (some ⟨g,0,none⟩) N.length nc (b8s N)
 len:N.length=O.length
 far:∀i,F i→i≠g
 cap:O.length≤oc
theorem TrS.ne {w:World} {F:Nat→Prop} {s k h:Nat} {OA:Option Addr} {oc g nc:Nat} {O N:List Bool} (T:TrS w F s k h OA oc g nc O N):s≠g:=fun e=>by
 subst e;exact T.own.ne_blk T.blk (by decide) (At.some_.2 rfl)
theorem TrS.set {w:World} {F:Nat→Prop} {s k h:Nat} {OA:Option Addr} {oc g nc:Nat} {O N:List Bool} (T:TrS w F s k h OA oc g nc O N) (i:Nat) (b:Bool):TrS (w.setCell ⟨g,i,none⟩ (b8 b)) F s k h OA oc g nc O (N.set i b):=by
 have u:=updCell w g i (b8 b);refine ⟨?_,T.old.upd u (fun j _ hj=>T.far j hj),?_,by rw [List.length_set];exact T.len,T.far,T.cap⟩
 ·rw [List.length_set];exact T.blk.upd u T.ne
 ·rw [List.length_set,←b8s_set];exact T.own.set_ i _
theorem upd_setCells (g:Nat):∀(vs:List Value) (o:Nat) (w:World),Upd (·=g) w (w.setCells g o vs)
 | [],_,_=>Upd.refl
 | v::r,o,w=>(updCell w g o v).trans (upd_setCells g r (o+1) _) (fun _ _ h=>h)
theorem TrS.sets {F:Nat→Prop} {s k h:Nat} {OA:Option Addr} {oc g nc:Nat} {O:List Bool}:∀(m:List Bool) (a:Nat) (w:World) (N:List Bool),TrS w F s k h OA oc g nc O N→a+m.length≤N.length→TrS (w.setCells g a (b8s m)) F s k h OA oc g nc O (spl N a m)
 | [],a,w,N,T,_=>by rw [spl_nil];exact T
 | b::m,a,w,N,T,hl=>by
  rw [List.length_cons] at hl;have h1:=TrS.sets m (a+1) _ _ (T.set a b) (by rw [List.length_set];omega);rw [spl_one b (by omega)] at h1;have h2:=spl_spl (N:=N) (a:=a) (m1:=[b]) (m2:=m) (by simp;omega);rw [List.length_singleton] at h2;rw [h2] at h1;exact h1
theorem TrS.upd {w w':World} {F S:Nat→Prop} {s k h:Nat} {OA:Option Addr} {oc g nc:Nat} {O N:List Bool} (T:TrS w F s k h OA oc g nc O N) (u:Upd S w w') (hs:¬S s) (hg:¬S g) (hF:∀i,i<w.heap.size→F i→¬S i):TrS w' F s k h OA oc g nc O N :=
 ⟨T.blk.upd u hs,T.old.upd u (fun j hj0 hj=>hF j hj0 hj),T.own.upd u (fun i hi=>by rw [At.some_] at hi;subst hi;exact hg),T.len,T.far,T.cap⟩
def vpad (l:List Bool):Array Value:=#[b8 (l.getD 0 false),b8 (l.getD 1 false),b8 (l.getD 2 false)]
theorem vpad_set {l:List Bool} (b:Bool) (h:l.length<3):(vpad l).setIfInBounds l.length (b8 b)=vpad (l++[b]):=by
 match l,h with
 | [],_=>rfl
 | [_],_=>rfl
 | [_,_],_=>rfl
theorem and8 (a b:Bool):bits .and .u8 (bW a) (bW b)=bW (a&&b):=by cases a <;> cases b <;> decide
theorem or8 (a b:Bool):bits .or .u8 (bW a) (bW b)=bW (a || b):=by cases a <;> cases b <;> decide
theorem xor8 (a b:Bool):bits .xor .u8 (bW a) (bW b)=bW (a ^^ b):=by cases a <;> cases b <;> decide
theorem not8 (a:Bool):(1 - bW a) % 256=bW (!a):=by cases a <;> rfl
theorem not8w (a:Bool):IntKind.u8.wrap (1 - bW a)=bW (!a):=by cases a <;> rfl
theorem and80 (a:Bool):bits .and .u8 (bW a) 0=0:=by cases a <;> decide
theorem and80' (a:Bool):bits .and .u8 0 (bW a)=0:=by cases a <;> decide
theorem xor80 (a:Bool):bits .xor .u8 (bW a) 0=bW a:=by cases a <;> decide
theorem or80 (a:Bool):bits .or .u8 0 (bW a)=bW a:=by cases a <;> decide
theorem or80' (a:Bool):bits .or .u8 (bW a) 0=bW a:=by cases a <;> decide
theorem drop_one {O:List Bool} {a:Nat} (h:a<O.length):(O.drop a).take 1=[O.getD a false]:=by
 rw [List.drop_eq_getElem_cons h,List.getD_eq_getElem?_getD,List.getElem?_eq_getElem h];rfl
structure OpX (w:World) (x:Nat) (op:Int) (a n:Nat):Prop where
 blk:∃v imm iv K C,Blk w x 183 #[.int .i64 v,.int .i64 op,.int .i64 imm,.int .i64 iv,K,C,.int .i64 (a:Int),.int .i64 (n:Int)]
set_option maxRecDepth 100000 in
set_option maxHeartbeats 8000000 in
theorem aArith_c {w:World} {F:Nat→Prop} {s k h:Nat} {OA:Option Addr} {oc g nc:Nat} {O N:List Bool} (T:TrS w F s k h OA oc g nc O N) {x:Nat} {op:Int} {a n:Nat} (hx:OpX w x op a n) (hxg:x≠g) (ha:a<O.length)
  (hop:op=4∨op=5∨op=20) (imm:Int) (b0 b1 b2:Bool) :
  Calls Tryz.prog 184 #[pp s,pp x,.agg #[b8 b0,b8 b1,b8 b2]] w fun e w'=>e=.returned (b8 (opB k op imm ((O.drop a).take 1) b0 b1 b2).1)∧TrS w' F s k h OA oc g nc O (spl N a (opB k op imm ((O.drop a).take 1) b0 b1 b2).2)∧Upd (·=g) w w':=by
 rw [drop_one ha];obtain ⟨v,imm',iv,KK,CC,hxb⟩:=hx.blk;obtain ⟨ob,oo,rfl,hFo,hob,hoc⟩:=T.old.at_ (k:=a) (by rw [b8s_len];exact ha)
 have hcell:w.cell? ⟨ob,oo+a,none⟩=some (b8 (O.getD a false)):=by
  rw [hoc];have:=b8s_get ha;rw [List.getElem?_eq_getElem (by rw [b8s_len];exact ha)] at this;exact this
 have hN:a<N.length:=by rw [T.len];exact ha
 have HNL:=h_ hN;have hNc:=T.own.cell_ (i:=a) (by rw [b8s_len];exact hN);have hNf:=T.own.frozen_ a;have hsz:=T.blk.lt;obtain ⟨W,HW⟩:=nm (w.alloc (.cells #[b8 b0,b8 b1,b8 b2] 231));have u1:Upd Non w W:=by rw [←HW.out];exact Upd.refl.alloc _
 have hv:Blk W w.heap.size 231 #[b8 b0,b8 b1,b8 b2]:=by rw [←HW.out];exact Blk.new _ _ _
 have e0:=HW.out;have hsb:=T.blk.upd u1 (fun f=>f);have hxw:=hxb.upd u1 (fun f=>f);have x2:=hsb.cell 2;have x3:=hsb.cell 3;have y1:=hxw.cell 1;have y6:=hxw.cell 6;have z0:=hv.cell 0;have z1:=hv.cell 1;have hc2:=u_ hcell u1 (fun f=>f);have hNl:=T.len;obtain ⟨o,Ho⟩:=nm (O.getD a false);rw [Ho.out] at hc2 ⊢;have hNW:=u_ hNc u1 (fun f=>f);have hNu:=T.own.upd u1 (fun _ _ f=>f);have hNfW:=hNu.frozen_ a;have TW:=h_ (T.upd u1 (fun f=>f) (fun f=>f) (fun _ _ _ f=>f));have hob2:ob<W.heap.size:=Nat.lt_of_lt_of_le hob u1.size;have hne:s≠g:=T.ne;obtain ⟨L,HL⟩:=nm O.length;rw [HL.out] at hNl ha x2;rw [hNl] at x3;have ai0:(0:Int)≤(a:Int):=by omega
 have ai1:(a:Int)<(L:Int):=by omega
 unfold b8 at hc2 z0 z1 e0;clear hcell hNc hNf hoc hxb hsb hv hNl HW hNu hob hsz;have A8:=and8;have O8:=or8;have X8:=xor8;have N8:=not8;have N9:=not8w;have Z1:=and80;have Z2:=and80';have Z3:=xor80;have Z4:=or80;have Z5:=or80';rcases hop with rfl | rfl | rfl
 ·obtain ⟨cc,hcc⟩:∃c,(b0&&b1 || b0&&o || b1&&o)=c:=⟨_,rfl⟩;have HR1:Hid ((opB k 4 imm [o] b0 b1 b2).1=((b0 ^^ b1) ^^ o)):=rfl;have HR2:Hid ((opB k 4 imm [o] b0 b1 b2).2=[cc]):=by rw [←hcc];rfl
  go_enter Tryz.func184,Tryz.ntmps184;unfold pp b8;go_wp2_with fail
  refine wp_region_held_drew (S:=fun w'=>w'.cell? ⟨s,2,none⟩=some (.slice (some ⟨ob,oo,none⟩) L oc)∧w'.cell? ⟨x,6,none⟩=some (.int .i64 (a:Int))∧w'.cell? ⟨ob,oo+a,none⟩=some (.int .u8 (bW o))) (by kernel_rfl) ⟨x2,y6,hc2⟩ (fun hHeld=>?_)
  refine wpT 0 ?_;(try simp only [y_,z_]);refine wpT 1 ?_;(try simp only [y_,z_]);refine wpT 2 ?_;(try simp only [y_,z_]);refine wpT 3 ?_;(try simp only [y_,z_]);refine wpT 4 ?_;(try simp only [y_,z_]);refine wpT 5 ?_;(try simp only [y_,z_]);refine wpT 6 ?_;(try simp only [y_,z_]);refine wpT 7 ?_;(try simp only [y_,z_]);refine wpT 8 ?_;(try simp only [y_,z_]);refine wpT 9 ?_;(try simp only [y_,z_]);refine wpT 10 ?_;(try simp only [y_,z_]);refine aD_ (by kernel_rfl) ?_ _;go_wp2_with fail
  refine wp_region_held_drew (S:=fun w'=>w'.cell? ⟨w.heap.size,0,none⟩=some (.int .u8 (bW b0))∧w'.cell? ⟨w.heap.size,1,none⟩=some (.int .u8 (bW b1))) (by kernel_rfl) ⟨z0,z1⟩ (fun hHeld=>?_)
  refine wpT 0 ?_;(try simp only [y_,z_]);refine wpT 1 ?_;(try simp only [y_,z_]);refine wpT 2 ?_;(try simp only [y_,z_]);refine wpT 3 ?_;(try simp only [y_,z_]);refine wpT 4 ?_;(try simp only [y_,z_]);refine wpT 5 ?_;(try simp only [y_,z_]);refine aD_ (by kernel_rfl) ?_ _;go_wp2_with fail
  refine wp_region_held_drew (S:=fun w'=>w'.cell? ⟨s,3,none⟩=some (.slice (some ⟨g,0,none⟩) L nc)∧w'.cell? ⟨x,6,none⟩=some (.int .i64 (a:Int))) (by kernel_rfl) ⟨x3,y6⟩ (fun hHeld=>?_)
  refine wpT 0 ?_;(try simp only [y_,z_]);refine wpT 1 ?_;(try simp only [y_,z_]);refine wpT 2 ?_;(try simp only [y_,z_]);refine wpT 3 ?_;(try simp only [y_,z_]);refine wpT 4 ?_;(try simp only [y_,z_]);refine wpT 5 ?_;(try simp only [y_,z_]);refine wpT 6 ?_;(try simp only [y_,z_]);refine wpT 7 ?_;(try simp only [y_,z_]);refine wpT 8 ?_;(try simp only [y_,z_]);refine wpT 9 ?_;(try simp only [y_,z_]);refine wpT 10 ?_;(try simp only [y_,z_]);refine wpT 11 ?_;(try simp only [y_,z_]);refine wpT 12 ?_;(try simp only [y_,z_]);refine wpT 13 ?_;(try simp only [y_,z_]);refine wpT 14 ?_;(try simp only [y_,z_]);refine wpT 15 ?_;(try simp only [y_,z_]);refine wpT 16 ?_;(try simp only [y_,z_]);refine wpT 17 ?_;(try simp only [y_,z_]);refine wpT 18 ?_;(try simp only [y_,z_]);refine wpT 19 ?_;(try simp only [y_,z_]);refine aR_ (rs:=[20]) (by kernel_rfl) (by simp) ?_;refine aC_ rfl (fun K hK=>?_) aN_;go_simp;refine hK.out _ _ ?_ (fun hHeld=>?_)
  ·exact ⟨u_ (S:=(·=g)) x3 ((updCell W g a (b8 cc)).drewN 3) hne,u_ (S:=(·=g)) y6 ((updCell W g a (b8 cc)).drewN 3) hxg⟩
  clear hK K;(try simp only [y_,z_]);refine aD_ (by kernel_rfl) ?_ _;go_wp2_with fail
  go_ret;refine ⟨by rw [HR1.out];show Ending.returned (Value.int .u8 (bW _))=Ending.returned (Value.int .u8 (bW _));congr 3;cases b0 <;> cases b1 <;> cases o <;> rfl,by rw [HR2.out,←spl_one cc HNL.out];exact (TW.out.set a cc).upd (S:=Non) (Upd.refl.drewN 3) (fun f=>f) (fun f=>f) (fun _ _ _ f=>f),u1.mono (fun _ _ f=>f.elim) |>.trans ((updCell W g a (b8 cc)).drewN 3) (fun i _ h=>h)⟩
 ·obtain ⟨cc,hcc⟩:∃c,(!b0&&b1 || !(b0 ^^ b1)&&o)=c:=⟨_,rfl⟩;have HR1:Hid ((opB k 5 imm [o] b0 b1 b2).1=((b0 ^^ b1) ^^ o)):=rfl;have HR2:Hid ((opB k 5 imm [o] b0 b1 b2).2=[cc]):=by rw [←hcc];rfl
  go_enter Tryz.func184,Tryz.ntmps184;unfold pp b8;go_wp2_with fail
  refine wp_region_held_drew (S:=fun w'=>w'.cell? ⟨s,2,none⟩=some (.slice (some ⟨ob,oo,none⟩) L oc)∧w'.cell? ⟨x,6,none⟩=some (.int .i64 (a:Int))∧w'.cell? ⟨ob,oo+a,none⟩=some (.int .u8 (bW o))) (by kernel_rfl) ⟨x2,y6,hc2⟩ (fun hHeld=>?_)
  refine wpT 0 ?_;(try simp only [y_,z_]);refine wpT 1 ?_;(try simp only [y_,z_]);refine wpT 2 ?_;(try simp only [y_,z_]);refine wpT 3 ?_;(try simp only [y_,z_]);refine wpT 4 ?_;(try simp only [y_,z_]);refine wpT 5 ?_;(try simp only [y_,z_]);refine wpT 6 ?_;(try simp only [y_,z_]);refine wpT 7 ?_;(try simp only [y_,z_]);refine wpT 8 ?_;(try simp only [y_,z_]);refine wpT 9 ?_;(try simp only [y_,z_]);refine wpT 10 ?_;(try simp only [y_,z_]);refine aD_ (by kernel_rfl) ?_ _;go_wp2_with fail
  refine wp_region_held_drew (S:=fun w'=>w'.cell? ⟨w.heap.size,0,none⟩=some (.int .u8 (bW b0))∧w'.cell? ⟨w.heap.size,1,none⟩=some (.int .u8 (bW b1))) (by kernel_rfl) ⟨z0,z1⟩ (fun hHeld=>?_)
  refine wpT 0 ?_;(try simp only [y_,z_]);refine wpT 1 ?_;(try simp only [y_,z_]);refine wpT 2 ?_;(try simp only [y_,z_]);refine wpT 3 ?_;(try simp only [y_,z_]);refine wpT 4 ?_;(try simp only [y_,z_]);refine wpT 5 ?_;(try simp only [y_,z_]);refine aD_ (by kernel_rfl) ?_ _;go_wp2_with fail
  refine wp_region_held_drew (S:=fun w'=>w'.cell? ⟨s,3,none⟩=some (.slice (some ⟨g,0,none⟩) L nc)∧w'.cell? ⟨x,6,none⟩=some (.int .i64 (a:Int))) (by kernel_rfl) ⟨x3,y6⟩ (fun hHeld=>?_)
  refine wpT 0 ?_;(try simp only [y_,z_]);refine wpT 1 ?_;(try simp only [y_,z_]);refine wpT 2 ?_;(try simp only [y_,z_]);refine wpT 3 ?_;(try simp only [y_,z_]);refine wpT 4 ?_;(try simp only [y_,z_]);refine wpT 5 ?_;(try simp only [y_,z_]);refine wpT 6 ?_;(try simp only [y_,z_]);refine wpT 7 ?_;(try simp only [y_,z_]);refine wpT 8 ?_;(try simp only [y_,z_]);refine wpT 9 ?_;(try simp only [y_,z_]);refine wpT 10 ?_;(try simp only [y_,z_]);refine wpT 11 ?_;(try simp only [y_,z_]);refine wpT 12 ?_;(try simp only [y_,z_]);refine wpT 13 ?_;(try simp only [y_,z_]);refine wpT 14 ?_;(try simp only [y_,z_]);refine wpT 15 ?_;(try simp only [y_,z_]);refine wpT 16 ?_;(try simp only [y_,z_]);refine wpT 17 ?_;(try simp only [y_,z_]);refine wpT 18 ?_;(try simp only [y_,z_]);refine wpT 19 ?_;(try simp only [y_,z_]);refine aR_ (rs:=[20]) (by kernel_rfl) (by simp) ?_;refine aC_ rfl (fun K hK=>?_) aN_;go_simp;refine hK.out _ _ ?_ (fun hHeld=>?_)
  ·exact ⟨u_ (S:=(·=g)) x3 ((updCell W g a (b8 cc)).drewN 3) hne,u_ (S:=(·=g)) y6 ((updCell W g a (b8 cc)).drewN 3) hxg⟩
  clear hK K;(try simp only [y_,z_]);refine aD_ (by kernel_rfl) ?_ _;go_wp2_with fail
  go_ret;refine ⟨by rw [HR1.out];show Ending.returned (Value.int .u8 (bW _))=Ending.returned (Value.int .u8 (bW _));congr 3;cases b0 <;> cases b1 <;> cases o <;> rfl,by rw [HR2.out,←spl_one cc HNL.out];exact (TW.out.set a cc).upd (S:=Non) (Upd.refl.drewN 3) (fun f=>f) (fun f=>f) (fun _ _ _ f=>f),u1.mono (fun _ _ f=>f.elim) |>.trans ((updCell W g a (b8 cc)).drewN 3) (fun i _ h=>h)⟩
 ·obtain ⟨cc,hcc⟩:∃c,(!b0&&o)=c:=⟨_,rfl⟩;have HR1:Hid ((opB k 20 imm [o] b0 b1 b2).1=(!b0 ^^ o)):=rfl;have HR2:Hid ((opB k 20 imm [o] b0 b1 b2).2=[cc]):=by rw [←hcc];rfl
  go_enter Tryz.func184,Tryz.ntmps184;unfold pp b8;go_wp2_with fail
  refine wp_region_held_drew (S:=fun w'=>w'.cell? ⟨s,2,none⟩=some (.slice (some ⟨ob,oo,none⟩) L oc)∧w'.cell? ⟨x,6,none⟩=some (.int .i64 (a:Int))∧w'.cell? ⟨ob,oo+a,none⟩=some (.int .u8 (bW o))) (by kernel_rfl) ⟨x2,y6,hc2⟩ (fun hHeld=>?_)
  refine wpT 0 ?_;(try simp only [y_,z_]);refine wpT 1 ?_;(try simp only [y_,z_]);refine wpT 2 ?_;(try simp only [y_,z_]);refine wpT 3 ?_;(try simp only [y_,z_]);refine wpT 4 ?_;(try simp only [y_,z_]);refine wpT 5 ?_;(try simp only [y_,z_]);refine wpT 6 ?_;(try simp only [y_,z_]);refine wpT 7 ?_;(try simp only [y_,z_]);refine wpT 8 ?_;(try simp only [y_,z_]);refine wpT 9 ?_;(try simp only [y_,z_]);refine wpT 10 ?_;(try simp only [y_,z_]);refine aD_ (by kernel_rfl) ?_ _;go_wp2_with fail
  refine wp_region_held_drew (S:=fun w'=>w'.cell? ⟨w.heap.size,0,none⟩=some (.int .u8 (bW b0))∧w'.cell? ⟨w.heap.size,1,none⟩=some (.int .u8 (bW b1))) (by kernel_rfl) ⟨z0,z1⟩ (fun hHeld=>?_)
  refine wpT 0 ?_;(try simp only [y_,z_]);refine wpT 1 ?_;(try simp only [y_,z_]);refine wpT 2 ?_;(try simp only [y_,z_]);refine wpT 3 ?_;(try simp only [y_,z_]);refine wpT 4 ?_;(try simp only [y_,z_]);refine wpT 5 ?_;(try simp only [y_,z_]);refine aD_ (by kernel_rfl) ?_ _;go_wp2_with fail
  refine wp_region_held_drew (S:=fun w'=>w'.cell? ⟨s,3,none⟩=some (.slice (some ⟨g,0,none⟩) L nc)∧w'.cell? ⟨x,6,none⟩=some (.int .i64 (a:Int))) (by kernel_rfl) ⟨x3,y6⟩ (fun hHeld=>?_)
  refine wpT 0 ?_;(try simp only [y_,z_]);refine wpT 1 ?_;(try simp only [y_,z_]);refine wpT 2 ?_;(try simp only [y_,z_]);refine wpT 3 ?_;(try simp only [y_,z_]);refine wpT 4 ?_;(try simp only [y_,z_]);refine wpT 5 ?_;(try simp only [y_,z_]);refine wpT 6 ?_;(try simp only [y_,z_]);refine wpT 7 ?_;(try simp only [y_,z_]);refine wpT 8 ?_;(try simp only [y_,z_]);refine wpT 9 ?_;(try simp only [y_,z_]);refine wpT 10 ?_;(try simp only [y_,z_]);refine wpT 11 ?_;(try simp only [y_,z_]);refine wpT 12 ?_;(try simp only [y_,z_]);refine wpT 13 ?_;(try simp only [y_,z_]);refine wpT 14 ?_;(try simp only [y_,z_]);refine wpT 15 ?_;(try simp only [y_,z_]);refine wpT 16 ?_;(try simp only [y_,z_]);refine wpT 17 ?_;(try simp only [y_,z_]);refine wpT 18 ?_;(try simp only [y_,z_]);refine wpT 19 ?_;(try simp only [y_,z_]);refine aR_ (rs:=[20]) (by kernel_rfl) (by simp) ?_;refine aC_ rfl (fun K hK=>?_) aN_;go_simp;refine hK.out _ _ ?_ (fun hHeld=>?_)
  ·exact ⟨u_ (S:=(·=g)) x3 ((updCell W g a (b8 cc)).drewN 3) hne,u_ (S:=(·=g)) y6 ((updCell W g a (b8 cc)).drewN 3) hxg⟩
  clear hK K;(try simp only [y_,z_]);refine aD_ (by kernel_rfl) ?_ _;go_wp2_with fail
  go_ret;refine ⟨by rw [HR1.out];show Ending.returned (Value.int .u8 (bW _))=Ending.returned (Value.int .u8 (bW _));congr 3;cases b0 <;> cases b1 <;> cases o <;> rfl,by rw [HR2.out,←spl_one cc HNL.out];exact (TW.out.set a cc).upd (S:=Non) (Upd.refl.drewN 3) (fun f=>f) (fun f=>f) (fun _ _ _ f=>f),u1.mono (fun _ _ f=>f.elim) |>.trans ((updCell W g a (b8 cc)).drewN 3) (fun i _ h=>h)⟩
theorem addr_add (b o j:Nat):(⟨b,o,none⟩:Addr).add j=⟨b,o+j,none⟩:=by unfold Addr.add;split <;> simp_all
theorem step_copy {P:Program} {ops:Array Oper} {o:Oper} {a:Act} {w:World} {K:Act→World→Prop} {Q:Exit→Act→World→Prop} {E:Prop}
  (hg:o.guard=none) (d x:Operand) (dT sT:TypeId) (hop:o.op=Op.call { callee:=Callee.builtin Builtin.copy,args:=#[d,x],argTypes:=#[dT,sT] })
  (v u:Value) (hd:a.eval d=v) (hx:a.eval x=u) {v':Value} {w':World} (hr:(Builtin.copy_ #[dT,sT] o.type #[v,u]).run P w=.ok v' w') (hK:K (a.put o.dst v') w') :
  if Region.wanted o (yielded ops a.tmps)=true then Oper.wp P o a w K Q else E:=by
 have hw:Region.wanted o (yielded ops a.tmps)=true:=by simp [Region.wanted,hg]
 rw [if_pos hw];unfold Oper.wp;simp [execOp,hop,resolve,invoke,builtin,hd,hx,hr,Result.andThen];exact hK
set_option maxRecDepth 100000 in
set_option maxHeartbeats 8000000 in
theorem aShiftB_c {w:World} {F:Nat→Prop} {s k h:Nat} {OA:Option Addr} {oc g nc:Nat} {O N:List Bool} (T:TrS w F s k h OA oc g nc O N) {x:Nat} {a n:Nat} (hx:OpX w x 12 a n) (hxg:x≠g) (ha:a+n<O.length)
  (hl:O.length≤1000000) (imm:Int) (b0 b1 b2:Bool) :
  Calls Tryz.prog 185 #[pp s,pp x,b8 b0] w fun e w'=>e=.returned (b8 (opB k 12 imm ((O.drop a).take n) b0 b1 b2).1)∧TrS w' F s k h OA oc g nc O (spl N a (opB k 12 imm ((O.drop a).take n) b0 b1 b2).2)∧Upd (·=g) w w':=by
 obtain ⟨v,imm',iv,KK,CC,hxb⟩:=hx.blk;have y7:=hxb.cell 7;by_cases h0:n=0
 ·subst h0;have HR:Hid (opB k 12 imm ((O.drop a).take 0) b0 b1 b2=(b0,[])):=rfl;have t0:(((0:Nat):Int)==0)=true:=rfl;unfold pp b8;go_enter Tryz.func185,Tryz.ntmps185;go_wp2_with fail
  go_ret;refine ⟨by rw [HR.out];rfl,?_,Upd.refl⟩;rw [HR.out,spl_nil];exact T
 ·have t0:((n:Int)==0)=false:=by simpa using h0
  have hn1:1≤n:=by omega
  obtain ⟨mt,hmt⟩:∃m,(O.drop (a+1)).take (n - 1)=m:=⟨_,rfl⟩
  have hmine:(O.drop a).take n=O.getD a false::mt:=by
   have ha':a<O.length:=by omega
   obtain ⟨m1,hm1⟩:∃m1,n=m1+1:=⟨n - 1,by omega⟩;rw [show n - 1=m1 by omega] at hmt;rw [List.drop_eq_getElem_cons ha',hm1,List.take_succ_cons,hmt,List.getD_eq_getElem?_getD,List.getElem?_eq_getElem ha'];rfl
  have hml:mt.length=n - 1:=by rw [←hmt,List.length_take,List.length_drop];omega
  have HR1:Hid ((opB k 12 imm ((O.drop a).take n) b0 b1 b2).1=O.getD a false):=by show _=_;rw [hmine];rfl
  have HR2:Hid ((opB k 12 imm ((O.drop a).take n) b0 b1 b2).2=mt++[b0]):=by show _=_;rw [hmine];rfl
  obtain ⟨ob,oo,rfl,hFo,hob,hoc⟩:=T.old.at_ (k:=a) (by rw [b8s_len];omega)
  have hcell:w.cell? ⟨ob,oo+a,none⟩=some (b8 (O.getD a false)):=by
   rw [hoc];have:=b8s_get (l:=O) (i:=a) (by omega);rw [List.getElem?_eq_getElem (by rw [b8s_len];omega)] at this;exact this
  have hsrc:∀j v,(b8s mt)[j]?=some v→w.cell? ((⟨ob,oo+(a+1),none⟩:Addr).add j)=some v:=fun j v hj=>by
   have hjl:j<mt.length:=by have:=(List.getElem?_eq_some_iff.1 hj).1;rwa [b8s_len] at this
   obtain ⟨b',off',e',_,_,hc⟩:=T.old.at_ (k:=a+1+j) (by rw [b8s_len];omega);injection e' with e'
   injection e' with e1 e2
   subst e1 e2;rw [addr_add,Nat.add_assoc,hc];have h1:=b8s_get (l:=O) (i:=a+1+j) (by omega);rw [List.getElem?_eq_getElem (by rw [b8s_len];omega)] at h1;rw [h1,←hj,b8s_get hjl,←hmt]
   congr 2
   rw [List.getD_eq_getElem?_getD,List.getD_eq_getElem?_getD,List.getElem?_take,if_pos (by omega),List.getElem?_drop]
  have hNl:=T.len;have hcap:=T.cap;have hncap:=T.own.le
  have hdst:∀j,j<(b8s mt).length→(w.cell? ⟨g,a+j,none⟩).isSome=true:=fun j hj=>by
   rw [b8s_len] at hj;rw [T.own.cell_ (i:=a+j) (by rw [b8s_len];omega)];rfl
  have hfrz:∀j,j<(b8s mt).length→w.frozen? ⟨g,a+j,none⟩=false:=fun j _=>T.own.frozen_ _
  have hone:∀v∈b8s mt,v.oneCell'=true:=fun v hv=>by
   unfold b8s at hv;obtain ⟨b,_,rfl⟩:=List.mem_map.1 hv;rfl
  have HT1:=h_ (TrS.sets mt a w.drew N (T.upd (S:=Non) Upd.refl.drew (fun f=>f) (fun f=>f) (fun _ _ _ f=>f)) (by omega));have u1:=(Upd.refl.drew (S:=(·=g)) (w:=w)).trans (upd_setCells g (b8s mt) a w.drew) (fun _ _ h=>h);obtain ⟨o,Ho⟩:=nm (O.getD a false);rw [Ho.out] at hcell HR1;have hsb:=T.blk;have x2:=hsb.cell 2;have x3:=hsb.cell 3;have y6:=hxb.cell 6;have hne:=T.ne;have hfo:ob≠g:=T.far ob hFo;have HCP:=h_ (run_copy_cells (P:=Tryz.prog) w.drew 84 84 3 5 g a n (nc - a) ⟨ob,oo+(a+1),none⟩ (a+n - (a+1)) (oc - (a+1)) (b8s mt) Tryz.underlying84 (by kernel_rfl) (by rw [b8s_len,hml];show n - 1=min (a+n - (a+1)) n;omega) hsrc hdst hfrz hone)
  have hHL:=h_ hNl;have hHN:a+n≤N.length:=by omega
  obtain ⟨L,HL⟩:=nm O.length;rw [HL.out] at hNl ha hl x2 hcap;rw [hNl] at x3 hncap hHN;have ai0:(0:Int)≤(a:Int):=by omega
  have ai1:(a:Int)<(L:Int):=by omega
  have q1:IntKind.i64.wrap ((a:Int)+(n:Int))=(a:Int)+(n:Int):=i64w_of (by unfold I64;omega);have q2:(0:Int)≤(a:Int)+(n:Int):=by omega
  have q3:(a:Int)+(n:Int)≤(nc:Int):=by omega
  have q4:((a:Int)+(n:Int)).toNat=a+n:=by omega
  have q5:¬nc=a:=by omega
  have r1:IntKind.i64.wrap ((a:Int)+1)=(a:Int)+1:=i64w_of (by unfold I64;omega);have r2:(0:Int)≤(a:Int)+1:=by omega
  have r3:(a:Int)+(n:Int)≤(oc:Int):=by omega
  have r4:((a:Int)+1).toNat=a+1:=by omega
  have r5:¬oc=a+1:=by omega
  have r6:a+1≤a+n:=by omega
  have r7:(1:Int)≤(n:Int):=by omega
  have X2:=h_ (u_ (S:=(·=g)) x2 u1 hne);have X3:=h_ (u_ (S:=(·=g)) x3 u1 hne);have Y6:=h_ (u_ (S:=(·=g)) y6 u1 hxg);have Y7:=h_ (u_ (S:=(·=g)) y7 u1 hxg);have OC:=h_ (u_ (S:=(·=g)) hcell u1 hfo);have U1:=h_ u1;obtain ⟨w2,Hw2⟩:=nm (w.drew.setCells g a (b8s mt));have HT2:=HT1;have U2:=U1;have OC2:=OC;rw [Hw2.out] at HT2 U2 OC2;have hcN:=HT2.out.own.cell_ (i:=a+n - 1) (by rw [b8s_len,spl_len (by omega)];omega);have hfN:=HT2.out.own.frozen_ (a+n - 1);have r8:IntKind.i64.wrap ((a:Int)+(n:Int) - 1)=(a:Int)+(n:Int) - 1:=i64w_of (by unfold I64;omega);have r9:(0:Int)≤(a:Int)+(n:Int) - 1:=by omega
  have s1:(a:Int)+(n:Int) - 1<(L:Int):=by omega
  have s2:((a:Int)+(n:Int) - 1).toNat=a+n - 1:=by omega
  have s3:(1:Int)≤(a:Int)+(n:Int):=by omega
  clear u1;unfold pp b8;unfold b8 at hcell;clear hsrc hdst hfrz hone hsb hxb hoc hmine hob;go_enter Tryz.func185,Tryz.ntmps185;go_wp2_with fail
  refine wp_region_held_drew (S:=fun w'=>w'.cell? ⟨s,2,none⟩=some (.slice (some ⟨ob,oo,none⟩) L oc)∧w'.cell? ⟨s,3,none⟩=some (.slice (some ⟨g,0,none⟩) L nc)∧w'.cell? ⟨x,6,none⟩=some (.int .i64 (a:Int))∧w'.cell? ⟨x,7,none⟩=some (.int .i64 (n:Int))) (by kernel_rfl) ⟨x2,x3,y6,y7⟩ (fun hHeld=>?_)
  refine wpT 0 ?_;(try simp only [y_,z_]);refine wpT 1 ?_;(try simp only [y_,z_]);refine wpT 2 ?_;(try simp only [y_,z_]);refine wpT 3 ?_;(try simp only [y_,z_]);refine wpT 4 ?_;(try simp only [y_,z_]);refine wpT 5 ?_;(try simp only [y_,z_]);refine wpT 6 ?_;(try simp only [y_,z_]);refine wpT 7 ?_;(try simp only [y_,z_]);refine wpT 8 ?_;(try simp only [y_,z_]);refine wpT 9 ?_;(try simp only [y_,z_]);refine wpT 10 ?_;(try simp only [y_,z_]);refine wpT 11 ?_;(try simp only [y_,z_]);refine wpT 12 ?_;(try simp only [y_,z_]);refine wpT 13 ?_;(try simp only [y_,z_]);refine wpT 14 ?_;(try simp only [y_,z_]);refine wpT 15 ?_;(try simp only [y_,z_]);refine wpT 16 ?_;(try simp only [y_,z_]);refine wpT 17 ?_;(try simp only [y_,z_]);refine wpT 18 ?_;(try simp only [y_,z_]);refine wpT 19 ?_;(try simp only [y_,z_]);refine wpT 20 ?_;(try simp only [y_,z_]);refine wpT 21 ?_;(try simp only [y_,z_]);refine wpT 22 ?_;(try simp only [y_,z_]);refine wpT 23 ?_;(try simp only [y_,z_]);refine wpT 24 ?_;(try simp only [y_,z_])
  refine wpT 25 ?_;(try simp only [y_,z_]);refine wpT 26 ?_;(try simp only [y_,z_]);refine wpT 27 ?_;(try simp only [y_,z_]);refine wpT 28 ?_;(try simp only [y_,z_]);refine wpT 29 ?_;(try simp only [y_,z_]);refine wpT 30 ?_;(try simp only [y_,z_]);refine wpT 31 ?_;(try simp only [y_,z_]);refine wpT 32 ?_;(try simp only [y_,z_]);refine wpT 33 ?_;(try simp only [y_,z_]);refine wpT 34 ?_;(try simp only [y_,z_]);refine wpT 35 ?_;(try simp only [y_,z_]);refine wpT 36 ?_;(try simp only [y_,z_]);refine aR_ (rs:=[37]) (by kernel_rfl) (by simp) ?_;refine aC_ rfl (fun K hK=>?_) aN_;refine step_copy rfl (.tmp 30) (.tmp 49) 84 84 rfl _ _ rfl rfl HCP.out ?_;(try simp only [y_,z_]);refine hK.out _ _ ?_ (fun hHeld=>?_)
  ·exact ⟨X2.out,X3.out,Y6.out,Y7.out⟩
  clear hK K;(try simp only [y_,z_]);refine aD_ (by kernel_rfl) ?_ _;rw [Hw2.out];have x3:=X3.out;have x2:=X2.out;have y6:=Y6.out;have y7:=Y7.out;rw [Hw2.out] at x3 x2 y6 y7;go_wp2_with fail
  refine wp_region_held_drew (S:=fun w'=>w'.cell? ⟨s,3,none⟩=some (.slice (some ⟨g,0,none⟩) L nc)∧w'.cell? ⟨x,6,none⟩=some (.int .i64 (a:Int))∧w'.cell? ⟨x,7,none⟩=some (.int .i64 (n:Int))) (by kernel_rfl) ⟨x3,y6,y7⟩ (fun hHeld=>?_)
  refine wpT 0 ?_;(try simp only [y_,z_]);refine wpT 1 ?_;(try simp only [y_,z_]);refine wpT 2 ?_;(try simp only [y_,z_]);refine wpT 3 ?_;(try simp only [y_,z_]);refine wpT 4 ?_;(try simp only [y_,z_]);refine wpT 5 ?_;(try simp only [y_,z_]);refine wpT 6 ?_;(try simp only [y_,z_]);refine wpT 7 ?_;(try simp only [y_,z_]);refine wpT 8 ?_;(try simp only [y_,z_]);refine wpT 9 ?_;(try simp only [y_,z_]);refine wpT 10 ?_;(try simp only [y_,z_]);refine wpT 11 ?_;(try simp only [y_,z_]);refine wpT 12 ?_;(try simp only [y_,z_]);refine wpT 13 ?_;(try simp only [y_,z_]);refine wpT 14 ?_;(try simp only [y_,z_]);refine wpT 15 ?_;(try simp only [y_,z_]);refine aR_ (rs:=[16]) (by kernel_rfl) (by simp) ?_;refine aC_ rfl (fun K hK=>?_) aN_;go_simp;refine hK.out _ _ ?_ (fun hHeld=>?_)
  ·exact ⟨u_ (S:=(·=g)) x3 ((updCell w2 g (a+n - 1) (b8 b0)).drewN 1) hne,u_ (S:=(·=g)) y6 ((updCell w2 g (a+n - 1) (b8 b0)).drewN 1) hxg,u_ (S:=(·=g)) y7 ((updCell w2 g (a+n - 1) (b8 b0)).drewN 1) hxg⟩
  clear hK K;(try simp only [y_,z_]);refine aD_ (by kernel_rfl) ?_ _;have uS:=(updCell w2 g (a+n - 1) (b8 b0)).drewN 1;have US:=h_ uS;obtain ⟨w3,Hw3⟩:=nm ((w2.setCell ⟨g,a+n - 1,none⟩ (b8 b0)).drewN 1);have x2':=u_ (S:=(·=g)) x2 uS hne;have y6':=u_ (S:=(·=g)) y6 uS hxg;have oc':=u_ (S:=(·=g)) OC2.out uS hfo;have HT3:=h_ ((HT2.out.set (a+n - 1) b0).upd (S:=Non) (Upd.refl.drewN 1) (fun f=>f) (fun f=>f) (fun _ _ _ f=>f));rw [Hw3.out] at x2' y6' oc' US HT3;rw [show (w2.setCell ⟨g,a+n - 1,none⟩ (.int .u8 (bW b0))).drew=w3 from Hw3.out];clear hHeld;go_wp2_with fail
  refine wp_region_held_drew (S:=fun w'=>w'.cell? ⟨s,2,none⟩=some (.slice (some ⟨ob,oo,none⟩) L oc)∧w'.cell? ⟨x,6,none⟩=some (.int .i64 (a:Int))∧w'.cell? ⟨ob,oo+a,none⟩=some (.int .u8 (bW o))) (by kernel_rfl) ⟨x2',y6',oc'⟩ (fun hHeld=>?_)
  refine wpT 0 ?_;(try simp only [y_,z_]);refine wpT 1 ?_;(try simp only [y_,z_]);refine wpT 2 ?_;(try simp only [y_,z_]);refine wpT 3 ?_;(try simp only [y_,z_]);refine wpT 4 ?_;(try simp only [y_,z_]);refine wpT 5 ?_;(try simp only [y_,z_]);refine wpT 6 ?_;(try simp only [y_,z_]);refine wpT 7 ?_;(try simp only [y_,z_]);refine wpT 8 ?_;(try simp only [y_,z_]);refine wpT 9 ?_;(try simp only [y_,z_]);refine wpT 10 ?_;(try simp only [y_,z_]);refine aD_ (by kernel_rfl) ?_ _;go_wp2_with fail
  go_ret
  have e1:spl N a (mt++[b0])=(spl N a mt).set (a+n - 1) b0:=by
   rw [←spl_spl (by rw [List.length_singleton];omega),hml,show a+(n - 1)=a+n - 1 by omega,←spl_one b0 (by rw [spl_len (by omega)];omega)]
  refine ⟨by rw [HR1.out];rfl,?_,((U2.out.trans US.out (fun _ _ h=>h)).drewN 1)⟩;rw [HR2.out,e1];exact HT3.out.upd (S:=Non) (Upd.refl.drewN 1) (fun f=>f) (fun f=>f) (fun _ _ _ f=>f)
end Go.Proofs.YtifhejahbbnkiaaGreat
