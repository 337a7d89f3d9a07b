/-
  Lemmas and walks that the claim rests on, part 1 (packed by a program).
-/
import Derived.WalkKit
import Derived.WalkSpells
import Derived.WalkLawsBesides
import Derived.Lib.Hide
import Derived.Maps.AppendAt
import Derived.Deep.Draws
import Derived.Laws.MakeOwn
import Derived.Deep.LoopGhost
import Derived.Deep.QuietTactic
import Derived.BigQuiet
import Derived.Deep.DeepCutAuto
import Derived.OrdersHeld
import Derived.Test.YtifhejahbbnkiaaGreatProg
import Derived.Deep.CutBlock
import Derived.Deep.RegionHeld3
import Derived.IntWalk
import Derived.Laws.AppendOwn
import Derived.StillTailTactics
import Derived.OwnWalk
import Derived.Laws.ResultCell
import Derived.Laws.Rows
namespace Go.Proofs.YtifhejahbbnkiaaGreat
open Go.RowKit
theorem h_ {p:Prop} (h:p):Hid p:=h
theorem dT_ {p:Prop} [Decidable p] (h:p):decide p=true:=decide_eq_true h
theorem dF_ {p:Prop} [Decidable p] (h:¬p):decide p=false:=decide_eq_false h
section
variable {P:Program} {ops:Array Oper} {Q:Exit→Act→World→Prop} {md:Region.Mode} {S:World→Prop} {fuel:Nat} {listed:Array Bool} {a:Act} {w:World} {rs:List Nat}
theorem aN_:AllReadyH P md ops Q S fuel listed a w []:=.nil
theorem aC_ {i:Nat} {o:Oper} (ho:ops[i]?=some o) (h:∀K':Act→World→Prop,Shut (∀a w,S w→(S w→wpAnyH P md ops Q S fuel (listed.setIfInBounds i true) a w)→K' a w)→if Region.wanted o (yielded ops a.tmps)=true then Oper.wp P o a w K' Q else K' (a.put o.dst undef) w) (hs:AllReadyH P md ops Q S fuel listed a w rs):AllReadyH P md ops Q S fuel listed a w (i::rs):=.cons ho h hs
theorem aR_ (hr:Region.ready md ops listed=rs) (hne:rs≠[]) (h:AllReadyH P md ops Q S fuel listed a w rs):wpAnyH P md ops Q S (fuel+1) listed a w:=wpAnyH_ready hr hne h
theorem aD_ (hr:Region.ready md ops listed=[]) (h:Q .normal a w):∀fuel,wpAnyH P md ops Q S fuel listed a w:=wpAnyH_done hr h
end
structure Upd (S:Nat→Prop) (w w':World):Prop where
 os:w'.os=w.os
 tape:w'.tape=w.tape
 output:w'.output=w.output
 size:w.heap.size≤w'.heap.size
 block:∀k,k<w.heap.size→¬S k→w'.heap[k]?=w.heap[k]?
def Non:Nat→Prop:=fun _=>False
theorem Upd.refl {S:Nat→Prop} {w:World}:Upd S w w:=⟨rfl,rfl,rfl,Nat.le_refl _,fun _ _ _=>rfl⟩
theorem Upd.trans {S T:Nat→Prop} {a b c:World} (h:Upd S a b) (k:Upd T b c) (hT:∀i,i<a.heap.size→T i→S i):Upd S a c :=
 ⟨k.os.trans h.os,k.tape.trans h.tape,k.output.trans h.output,Nat.le_trans h.size k.size,fun i hi hn=>(k.block i (Nat.lt_of_lt_of_le hi h.size) (fun t=>hn (hT i hi t))).trans (h.block i hi hn)⟩
theorem Upd.mono {S T:Nat→Prop} {a b:World} (h:Upd S a b) (hT:∀i,i<a.heap.size→S i→T i):Upd T a b :=
 ⟨h.os,h.tape,h.output,h.size,fun i hi hn=>h.block i hi (fun s=>hn (hT i hi s))⟩
theorem Upd.then_non {S:Nat→Prop} {a b c:World} (h:Upd S a b) (k:Upd Non b c):Upd S a c:=h.trans k (fun _ _ f=>f.elim)
theorem Upd.alloc {S:Nat→Prop} {a w:World} (h:Upd S a w) (o:Obj):Upd S a (w.alloc o) :=
 ⟨h.os,h.tape,h.output,Nat.le_trans h.size (by simp),fun i hi hn=>(Below.heap_alloc w o i (Nat.lt_of_lt_of_le hi h.size)).trans (h.block i hi hn)⟩
theorem Upd.setCell {S:Nat→Prop} {a w:World} (h:Upd S a w) {p:Addr} (hp:S p.block∨a.heap.size≤p.block) (u:Value):Upd S a (w.setCell p u) :=
 ⟨h.os,h.tape,h.output,by simpa [World.setCell] using h.size,fun k hk hn=>(Below.heap_setCell w p u k (by rintro rfl;rcases hp with hp | hp;exact hn hp;omega)).trans (h.block k hk hn)⟩
theorem Upd.drew {S:Nat→Prop} {a w:World} (h:Upd S a w):Upd S a w.drew:=⟨h.os,h.tape,h.output,h.size,h.block⟩
theorem Upd.drewN {S:Nat→Prop} {a w:World} (h:Upd S a w) (n:Nat):Upd S a (w.drewN n):=⟨h.os,h.tape,h.output,h.size,h.block⟩
theorem Upd.of_grown {w w':World} {row:Option Nat} (hg:w.grownBy w' row):Upd (fun k=>some k=row) w w':=⟨hg.os,hg.tape,hg.output,hg.size,hg.block⟩
theorem Upd.toBelow {w w':World} (h:Upd Non w w'):Below w.heap.size w w':=⟨h.os,h.tape,h.output,h.size,fun k hk=>h.block k hk (fun f=>f)⟩
def Blk (w:World) (g:Nat) (t:TypeId) (cs:Array Value):Prop:=w.heap[g]?=some (.cells cs t (0,0))
section
variable {w w':World} {g:Nat} {t:TypeId} {cs:Array Value}
theorem lt_of_heap {o:Obj} (h:w.heap[g]?=some o):g<w.heap.size:=by
 rcases Nat.lt_or_ge g w.heap.size with hlt | hge
 ·exact hlt
 ·rw [Array.getElem?_eq_none hge] at h;cases h
theorem Blk.lt (h:Blk w g t cs):g<w.heap.size:=lt_of_heap h
theorem Blk.cell (h:Blk w g t cs) (i:Nat):w.cell? ⟨g,i,none⟩=cs[i]?:=cell_of_row w g i cs t (0,0) h
theorem Blk.frozen (h:Blk w g t cs) (i:Nat):w.frozen? ⟨g,i,none⟩=false:=by
 unfold Blk at h;simp [World.frozen?,h]
theorem Blk.new (w:World) (t:TypeId) (cs:Array Value):Blk (w.alloc (.cells cs t)) w.heap.size t cs:=heap_alloc_new w _
theorem Blk.alloc (h:Blk w g t cs) (o:Obj):Blk (w.alloc o) g t cs:=(Below.heap_alloc w o g h.lt).trans h
theorem Blk.set_ (h:Blk w g t cs) (i:Nat) (u:Value):Blk (w.setCell ⟨g,i,none⟩ u) g t (cs.setIfInBounds i u):=by
 unfold Blk at h ⊢;simp [World.setCell,Array.getElem?_modify,h]
theorem Blk.far (h:Blk w g t cs) {p:Addr} (hp:g≠p.block) (u:Value):Blk (w.setCell p u) g t cs:=(Below.heap_setCell w p u g hp).trans h
theorem Blk.upd {S:Nat→Prop} (h:Blk w g t cs) (u:Upd S w w') (hS:¬S g):Blk w' g t cs:=(u.block g h.lt hS).trans h
theorem Blk.ne_ {g':Nat} {t':TypeId} {cs':Array Value} (h:Blk w g t cs) (h':Blk w g' t' cs') (hne:t≠t'):g≠g':=by
 rintro rfl;unfold Blk at h h';rw [h] at h';injection h' with h'
 injection h' with _ ht
 exact hne ht
end
def Sl (w:World) (F:Nat→Prop) (A:Option Addr) (cs:List Value):Prop :=
 cs=[]∨∃b off,A=some ⟨b,off,none⟩∧F b∧∀j (h:j<cs.length),w.cell? ⟨b,off+j,none⟩=some cs[j]
section
variable {w w':World} {F G S:Nat→Prop} {A:Option Addr} {cs:List Value}
theorem Sl.nil:Sl w F A []:=.inl rfl
theorem Sl.mono (h:Sl w F A cs) (hFG:∀k,k<w.heap.size→F k→G k):Sl w G A cs:=by
 rcases h with h | ⟨b,off,e,hF,hc⟩
 ·exact .inl h
 ·by_cases hn:cs=[]
  ·exact .inl hn
  ·have h0:0<cs.length:=List.length_pos_iff.2 hn;exact .inr ⟨b,off,e,hFG b (World.block_lt_of_cell? w _ (hc 0 h0)) hF,hc⟩
theorem Sl.upd (h:Sl w F A cs) (u:Upd S w w') (d:∀k,k<w.heap.size→F k→¬S k):Sl w' F A cs:=by
 rcases h with h | ⟨b,off,e,hF,hc⟩
 ·exact .inl h
 ·refine .inr ⟨b,off,e,hF,fun j hj=>?_⟩;have hlt:b<w.heap.size:=World.block_lt_of_cell? w _ (hc j hj);rw [World.cell?_of_block (w:=w) (u.block b hlt (d b hlt hF))];exact hc j hj
theorem Sl.at_ {k:Nat} (h:Sl w F A cs) (hk:k<cs.length):∃b off,A=some ⟨b,off,none⟩∧F b∧b<w.heap.size∧w.cell? ⟨b,off+k,none⟩=some cs[k]:=by
 rcases h with h | ⟨b,off,e,hF,hc⟩
 ·subst h;simp at hk
 ·exact ⟨b,off,e,hF,World.block_lt_of_cell? w _ (hc k hk),hc k hk⟩
theorem Sl.of_blk {g:Nat} {t:TypeId} {cur:Array Value} (hF:F g) (h:Blk w g t cur) (n:Nat):Sl w F (some ⟨g,0,none⟩) (cur.toList.take n) :=
 .inr ⟨g,0,rfl,hF,fun j hj=>by rw [h.cell];simp at hj ⊢⟩
end
def At (A:Option Addr) (k:Nat):Prop:=∃o s,A=some ⟨k,o,s⟩
theorem At.none_ {k:Nat}:¬At none k:=fun ⟨_,_,h⟩=>by cases h
theorem At.some_ {g k o:Nat} {s:Option Nat}:At (some ⟨g,o,s⟩) k↔k=g:=⟨fun ⟨_,_,h⟩=>by injection h with h;injection h with h;exact h.symm,fun h=>⟨o,s,by rw [h]⟩⟩
def Own (w:World) (e:TypeId) (size:Nat) (A:Option Addr) (n c:Nat) (cs:List Value):Prop:=w.ownsRow 0 e size (.slice A n c) n cs
structure SlT (P:Program) (t e:TypeId) (size bytes:Nat):Prop where
 und:P.underlying t=some (.slice e)
 info:∃i z,P.info? e=some i∧i.zero=some z∧i.size=size∧i.bytes=bytes∧z.cells.size=size
 pos:0<size
section
variable {w w':World} {e:TypeId} {size:Nat} {A:Option Addr} {n c:Nat} {cs:List Value} {S:Nat→Prop}
theorem Own.none_:Own w e size none 0 0 []:=⟨by simp,.inl ⟨rfl,rfl⟩⟩
theorem Own.len (h:Own w e size A n c cs):cs.length=n * size:=h.1
theorem Own.cases (h:Own w e size A n c cs):(A=none∧n=0∧c=0∧cs=[])∨∃g cur,A=some ⟨g,0,none⟩∧Blk w g e cur∧n≤c∧c≤maxLen∧cur.size=c * size∧cur.toList.take (n * size)=cs:=by
 obtain ⟨h1,h2⟩:=h;rcases h2 with ⟨hv,h0⟩ | ⟨g,cap,cur,hv,_,hg,hn,hm,hs,ht⟩
 ·left
  injection hv with a b d
  subst h0;exact ⟨a,rfl,d,List.eq_nil_of_length_eq_zero (by simpa using h1)⟩
 ·right
  injection hv with a b d
  subst a;subst d;exact ⟨g,cur,rfl,hg,hn,hm,hs,ht⟩
theorem Own.mk_ {g:Nat} {cur:Array Value} (hb:Blk w g e cur) (hn:n≤c) (hm:c≤maxLen) (hs:cur.size=c * size) (ht:cur.toList.take (n * size)=cs):Own w e size (some ⟨g,0,none⟩) n c cs:=by
 refine ⟨?_,.inr ⟨g,c,cur,rfl,Nat.zero_le _,hb,hn,hm,hs,ht⟩⟩;rw [←ht,List.length_take,Array.length_toList,hs];exact Nat.min_eq_left (Nat.mul_le_mul_right _ hn)
theorem Own.lt (h:Own w e size A n c cs) {k:Nat} (hk:At A k):k<w.heap.size:=by
 rcases h.cases with ⟨rfl,_⟩ | ⟨g,cur,rfl,hb,_⟩
 ·exact (At.none_ hk).elim
 ·rw [At.some_] at hk;subst hk;exact hb.lt
theorem Own.sl (h:Own w e size A n c cs):Sl w (At A) A cs:=by
 rcases h.cases with ⟨_,_,_,h0⟩ | ⟨g,cur,rfl,hb,_,_,_,ht⟩
 ·exact .inl h0
 ·rw [←ht];exact Sl.of_blk (At.some_.2 rfl) hb _
theorem Own.upd (h:Own w e size A n c cs) (u:Upd S w w') (d:∀k,At A k→¬S k):Own w' e size A n c cs:=by
 rcases h.cases with ⟨rfl,rfl,rfl,rfl⟩ | ⟨g,cur,rfl,hb,hn,hm,hs,ht⟩
 ·exact Own.none_
 ·exact Own.mk_ (hb.upd u (d g (At.some_.2 rfl))) hn hm hs ht
theorem Own.alloc (h:Own w e size A n c cs) (o:Obj):Own (w.alloc o) e size A n c cs:=h.upd (Upd.refl.alloc o (S:=Non)) (fun _ _ f=>f)
theorem Own.drewN (h:Own w e size A n c cs) (k:Nat):Own (w.drewN k) e size A n c cs:=h
theorem Own.ne_type {e':TypeId} {size' n' c':Nat} {A':Option Addr} {cs':List Value} (h:Own w e size A n c cs) (h':Own w e' size' A' n' c' cs') (hne:e≠e') {k:Nat} (hk:At A k):¬At A' k:=by
 rcases h.cases with ⟨rfl,_⟩ | ⟨g,cur,rfl,hb,_⟩
 ·exact (At.none_ hk).elim
 ·rcases h'.cases with ⟨rfl,_⟩ | ⟨g',cur',rfl,hb',_⟩
  ·exact At.none_
  ·rw [At.some_] at hk ⊢;subst hk;exact hb.ne_ hb' hne
theorem Own.ne_blk {g:Nat} {t:TypeId} {cur:Array Value} (h:Own w e size A n c cs) (h':Blk w g t cur) (hne:e≠t):¬At A g:=by
 rcases h.cases with ⟨rfl,_⟩ | ⟨g',cur',rfl,hb,_⟩
 ·exact At.none_
 ·rw [At.some_];exact (hb.ne_ h' hne).symm
end
theorem run_app {P:Program} {w:World} {F:Nat→Prop} {t ty e:TypeId} {size bytes:Nat} (T:SlT P t e size bytes) {A:Option Addr} {n c:Nat} {cs:List Value} (h:Own w e size A n c cs)
  {A2:Option Addr} {m c2:Nat} {news:List Value} (hr:Sl w F A2 news) (hl:news.length=m * size) (h1:∀u∈news,u.oneCell'=true) (h63:n+m≤maxLen) (hb:(n+m) * bytes≤140737488355328) :
  ∃A' c' w',(Builtin.append_ #[t,t] ty #[.slice A n c,.slice A2 m c2]).run P w=.ok (.slice A' (n+m) c') w'∧Own w' e size A' (n+m) c' (cs++news)∧Upd (At A) w w'∧(∀k,At A' k→At A k∨k=w.heap.size):=by
 obtain ⟨ht,⟨i,z,hi,hz,hsz,hby,hzs⟩,hpos⟩:=T;by_cases hm:m=0
 ·subst hm;have hn:news=[]:=List.eq_nil_of_length_eq_zero (by simpa using hl);subst hn;refine ⟨A,c,w,?_,by simpa using h,Upd.refl,fun k hk=>.inl hk⟩;rcases h.cases with ⟨rfl,rfl,rfl,rfl⟩ | ⟨g,cur,rfl,hb,hn,hm,hs,ht'⟩
  ·cases A2 <;> simp [Builtin.append_,run_underlying ht,sizeOf,typeInfo,hi,Builtin.lenOf,Builtin.firstCells,loadCells,loadCellsFrom]
  ·cases A2 <;> simp [Builtin.append_,run_underlying ht,sizeOf,typeInfo,hi,Builtin.lenOf,Builtin.firstCells,hn,storeCells,loadCells,loadCellsFrom]
 ·rcases hr with hr | ⟨b,off,rfl,_,hc⟩
  ·subst hr;have : m * size=0:=by simpa using hl.symm
   rcases Nat.mul_eq_zero.1 this with h0 | h0 <;> omega
  ·have hnews:∀j u,news[j]?=some u→w.cell? ((⟨b,off,none⟩:Addr).add j)=some u:=by
    intro j u hu;obtain ⟨hj,rfl⟩:=List.getElem?_eq_some_iff.1 hu;rw [Addr.add_lit];exact hc j hj
   obtain ⟨v',w',hrun,h2,h3,_,h5⟩:=run_append_own_at (P:=P) w 0 t ty e i z size bytes ht hi hz hsz hby hzs hpos (.slice A n c) n cs h ⟨b,off,none⟩ m c2 news hl hnews h1 h63 hb (Nat.zero_le _)
   obtain ⟨g,cap,rfl,_,_⟩:∃g cap,v'=.slice (some ⟨g,0,none⟩) (n+m) cap∧True∧True:=by
    rcases h2.2 with ⟨_,h0⟩ | ⟨g,cap,cur,hv,_⟩
    ·omega
    ·exact ⟨g,cap,hv,trivial,trivial⟩
   refine ⟨_,_,w',hrun,h2,(Upd.of_grown h3).mono (fun k _ hk=>?_),fun k hk=>?_⟩
   ·cases A with
    | none=>simp [Value.ownBlock] at hk
    | some a=>exact ⟨a.off,a.spot,by simp [Value.ownBlock] at hk;subst hk;rfl⟩
   ·rw [At.some_] at hk;subst hk;rcases h5 with h5 | h5
    ·left
     cases A with
     | none=>simp [Value.ownBlock] at h5
     | some a=>exact ⟨a.off,a.spot,by simp [Value.ownBlock] at h5;subst h5;rfl⟩
    ·right
     simpa [Value.ownBlock] using h5
theorem wp_app {P:Program} {w:World} {o:Oper} {a:Act} {K:Act→World→Prop} {Q:Exit→Act→World→Prop} {s x:Operand} {t:TypeId}
  (ho:o.op=.call { callee:=.builtin .append,args:=#[s,x],argTypes:=#[t,t] }) {F:Nat→Prop} {e:TypeId} {size bytes:Nat} (T:SlT P t e size bytes) {A:Option Addr} {n c:Nat} {cs:List Value} (hs:a.eval s=.slice A n c) (h:Own w e size A n c cs)
  {A2:Option Addr} {m c2:Nat} {news:List Value} (hx:a.eval x=.slice A2 m c2) (hr:Sl w F A2 news) (hl:news.length=m * size) (h1:∀u∈news,u.oneCell'=true) (h63:n+m≤maxLen) (hb:(n+m) * bytes≤140737488355328)
  (k:∀A' c' w',Own w' e size A' (n+m) c' (cs++news)→Upd (At A) w w'→(∀k,At A' k→At A k∨k=w.heap.size)→K (a.put o.dst (.slice A' (n+m) c')) w'):o.wp P a w K Q:=by
 obtain ⟨A',c',w',hrun,h2,h3,h4⟩:=run_app (P:=P) (ty:=o.type) (c2:=c2) T h hr hl h1 h63 hb;unfold Oper.wp execOp;simp only [ho,resolve,invoke,builtin,Sem.run_bind,Sem.run_pure,Result.andThen_ok,List.map_toArray,List.map_cons,List.map_nil,hs,hx,hrun];exact k A' c' w' h2 h3 h4
theorem wpList_app {P:Program} {w:World} {ops:Array Oper} {rest:List Oper} {o:Oper} {a:Act} {Q:Exit→Act→World→Prop} (hgd:o.guard=none) {s x:Operand} {t:TypeId}
  (ho:o.op=.call { callee:=.builtin .append,args:=#[s,x],argTypes:=#[t,t] }) {F:Nat→Prop} {e:TypeId} {size bytes:Nat} (T:SlT P t e size bytes) {A:Option Addr} {n c:Nat} {cs:List Value} (hs:a.eval s=.slice A n c) (h:Own w e size A n c cs)
  {A2:Option Addr} {m c2:Nat} {news:List Value} (hx:a.eval x=.slice A2 m c2) (hr:Sl w F A2 news) (hl:news.length=m * size) (h1:∀u∈news,u.oneCell'=true) (h63:n+m≤maxLen) (hb:(n+m) * bytes≤140737488355328)
  (k:∀A' c' w',Own w' e size A' (n+m) c' (cs++news)→Upd (At A) w w'→(∀k,At A' k→At A k∨k=w.heap.size)→wpList P ops Q rest (a.put o.dst (.slice A' (n+m) c')) w'):wpList P ops Q (o::rest) a w :=
 wpList_plain hgd fun _ hK=>wp_app ho T hs h hx hr hl h1 h63 hb fun A' c' w' h2 h3 h4=>hK _ _ (k A' c' w' h2 h3 h4)
theorem Sl.new (w:World) (t:TypeId) (cs:List Value):Sl (w.alloc (.cells cs.toArray t)) (·=w.heap.size) (some ⟨w.heap.size,0,none⟩) cs:=by
 have:=Sl.of_blk (F:=(·=w.heap.size)) rfl (Blk.new w t cs.toArray) cs.length;simpa using this
def Ints (w:World) (F:Nat→Prop) (A:Option Addr) (xs:List Int):Prop:=Sl w F A (xs.map fun x=>Value.int .i64 x)
section
variable {w w':World} {F G S:Nat→Prop} {A:Option Addr} {xs:List Int}
theorem Ints.nil:Ints w F A []:=.inl rfl
theorem Ints.mono (h:Ints w F A xs) (hFG:∀k,k<w.heap.size→F k→G k):Ints w G A xs:=Sl.mono h hFG
theorem Ints.upd (h:Ints w F A xs) (u:Upd S w w') (d:∀k,k<w.heap.size→F k→¬S k):Ints w' F A xs:=Sl.upd h u d
theorem Ints.at_ {k:Nat} (h:Ints w F A xs) (hk:k<xs.length):∃b off,A=some ⟨b,off,none⟩∧F b∧b<w.heap.size∧w.cell? ⟨b,off+k,none⟩=some (.int .i64 xs[k]):=by
 obtain ⟨b,off,e,hF,hb,hc⟩:=Sl.at_ h (k:=k) (by simpa using hk);exact ⟨b,off,e,hF,hb,by simpa using hc⟩
end
def bstr (ns:List Int):ByteArray:=⟨(ns.map fun n=>UInt8.ofNat n.toNat).toArray⟩
theorem foldl_bstr (ns:List Int):∀r:ByteArray,ns.foldl (fun r n=>r.push (UInt8.ofNat n.toNat)) r=⟨r.data++(ns.map fun n=>UInt8.ofNat n.toNat).toArray⟩:=by
 induction ns with
 | nil=>intro r;simp
 | cons n ns ih =>
  intro r;rw [List.foldl_cons,ih]
  congr 1
  simp [ByteArray.push]
theorem run_str {P:Program} {w:World} {F:Nat→Prop} {src dst e:TypeId} (hs:P.underlying src=some (.slice e)) (he:P.underlying e=some (.int .u8)) (hd:P.underlying dst=some .string)
  {A:Option Addr} {n c:Nat} {ns:List Int} (h:Sl w F A (ns.map fun x=>Value.int .u8 x)) (hn:n=ns.length):(convert src dst (.slice A n c)).run P w=.ok (.string (bstr ns)) w:=by
 subst hn;rw [run_convert_bytes_string w src dst e A _ c hs he hd];rcases h with h | ⟨b,off,rfl,_,hc⟩
 ·have : ns=[]:=by simpa using h
  subst this
  cases A with
  | none=>simp [Conv.bytesToString,bstr];rfl
  | some a=>simp [Conv.bytesToString,bstr,loadCells,loadCellsFrom];rfl
 ·have hl:=run_loadCells_list (P:=P) (w:=w) ⟨b,off,none⟩ (ns.map fun x=>Value.int .u8 x) (fun j v hv=>by
   obtain ⟨hj,rfl⟩:=List.getElem?_eq_some_iff.1 hv;rw [Addr.add_lit]
   exact hc j hj)
  rw [List.length_map] at hl;rw [run_bytesToString w _ _ c ns hl,foldl_bstr];simp [bstr]
end Go.Proofs.YtifhejahbbnkiaaGreat
namespace Go.Proofs.YtifhejahbbnkiaaGreat
structure Nd where
 op:Int
 imm:Int
 kids:List Int
end Go.Proofs.YtifhejahbbnkiaaGreat
namespace Go.Proofs.YtifhejahbbnkiaaGreat
def I64 (x:Int):Prop := -9223372036854775808≤x∧x≤9223372036854775807
theorem I64.tdiv {n:Int} (h:I64 n) (c:Nat) (hc:2≤c):I64 (n.tdiv c):=by
 have h1:(n.tdiv c).natAbs=n.natAbs / (c:Int).natAbs:=Int.natAbs_tdiv n c
 have h2:n.natAbs / (c:Int).natAbs≤n.natAbs / 2:=by
  rw [Int.natAbs_natCast];exact Nat.div_le_div_left hc (by omega)
 rw [←h1] at h2;generalize n.tdiv c=q at *;unfold I64 at *;omega
theorem tmod_pick (n m:Int) (hm:0<m):n % m=if n.tmod m<0 then n.tmod m+m else n.tmod m:=by
 have h1:=Int.tmod_lt_of_pos n hm;have h2:=Int.lt_tmod_of_pos n hm;have h3:(n.tmod m) % m=n % m:=by rw [Int.tmod_def,Int.sub_mul_emod_self_left]
 split
 ·rw [←h3,←Int.add_emod_right,Int.emod_eq_of_lt (by omega) (by omega)]
 ·rw [←h3,Int.emod_eq_of_lt (by omega) (by omega)]
def arityF (op:Int):Int×Bool :=
 if op=1∨op=2∨op=3∨op=26 then (0,true)
 else if op=20∨op=21∨op=24∨op=25 then (1,true)
 else if (4≤op∧op≤19)∨op=23∨op=27∨op=29 then (2,true)
 else if op=22∨op=28 then (3,true)
 else if op=30∨op=31 then (-1,true)
 else (0,false)
def maxImmF (op:Int):Int :=
 if op=2 then 5 else if op=3 then 255 else if op=23∨op=28 then 3 else if op=27 then 1000016 else if op=30 then 7 else if op=31 then 15 else if op=25 then 15 else -1
def validImmF (op n:Int):Bool :=
 if op=1 then true else if maxImmF op<0 then decide (n=0) else decide (0≤n∧n≤maxImmF op∧(op≠27∨0<n))
def pSortF (op:Int):Int:=if op=27∨op=28∨op=29 then 2 else 1
def operandSortF (op k:Int):Int:=if k=0∧(pSortF op=2∨op=23∨op=24) then 2 else 1
def edgesF:List Int:=[0,1,-1,2,-9223372036854775808,9223372036854775807,4294967296,-2147483648,63,64]
def wordF (n raw:Int):Int:=if n % 24<10 then edgesF.getD (n % 24).toNat 0 else if n % 24<22 then (n.tdiv 24) % 17 - 6 else raw
end Go.Proofs.YtifhejahbbnkiaaGreat
namespace Go.Proofs.YtifhejahbbnkiaaGreat
end Go.Proofs.YtifhejahbbnkiaaGreat
namespace Go.Proofs.YtifhejahbbnkiaaGreat
open Go.RowKit
theorem nm {α:Type} (a:α):∃x,Hid (a=x):=⟨a,show a=a from rfl⟩
theorem Blk.new' {w:World} {t:TypeId} {cs:Array Value} {n:Nat} (h:n=w.heap.size):Blk (w.alloc (.cells cs t)) n t cs:=by subst h;exact Blk.new w t cs
section
variable {w w':World} {F G S:Nat→Prop} {A:Option Addr} {L:List Nd} {ps:List (Int×Int)}
theorem u_ {b o:Nat} {v:Value} (h:w.cell? ⟨b,o,none⟩=some v) (u:Upd S w w') (d:¬S b):w'.cell? ⟨b,o,none⟩=some v :=
 (World.cell?_of_block (w:=w) (u.block b (World.block_lt_of_cell? w _ h) d)).trans h
end
theorem run_mk {P:Program} {t e:TypeId} {bytes:Nat} (T:SlT P t e 1 bytes) {z:Value} (hz:(P.info? e).bind (·.zero)=some z) (hzc:z.cells=#[z]) (n:Nat) (hb:bytes * n≤281474976710656) (hn:n≤9223372036854775807) (w:World) :
  (Instr.makeSlice t (.int .i64 (n:Int)) (.int .i64 (n:Int))).run P w=.ok (.slice (some ⟨w.heap.size,0,none⟩) n n) (w.alloc (.cells (Array.replicate n z) e)):=by
 obtain ⟨ht,⟨i,z',hi,hz',hsz,hby,hzs⟩,_⟩:=T;have : z'=z:=by rw [hi] at hz;simp [hz'] at hz;exact hz
 subst this
 have hb':(i.bytes:Int) * (n:Int)≤281474976710656:=by
  have h:((i.bytes * n:Nat):Int)≤281474976710656:=by rw [hby];omega
  rwa [Int.natCast_mul] at h
 have hr:=run_make (P:=P) w t e i z' ht hi hz' .i64 .i64 n n (by omega) (by omega) hb' (by omega);simp only [Int.toNat_natCast,hsz,Nat.mul_one,hzc] at hr;rw [hr]
 congr 2
 congr 1
 apply Array.ext
 ·simp [size_madeCells]
 ·intro j h1 h2;simp [madeCells,Nat.mod_one]
end Go.Proofs.YtifhejahbbnkiaaGreat
namespace Go.Proofs.YtifhejahbbnkiaaGreat
section
variable {P:Program} {ops:Array Oper} {Q:Exit→Act→World→Prop} {md:Region.Mode} {S:World→Prop}
structure Calm (P:Program) (ops:Array Oper) (Q:Exit→Act→World→Prop) (S:World→Prop) (i:Nat) (oi:Oper) (v:Value) (Y:Act→Prop):Prop where
 at_:ops[i]?=some oi
 run:∀(K:Act→World→Prop) a w,Y a→S w→K (a.put oi.dst v) w→wpOp P ops Q i K a w
 put:∀a d u,Y a→(∀t,d=some t→t ∉ oi.looksAt ops)→Y (a.put d u)
 late:∀a d,Y a→Y { a with defers:=d::a.defers }
 dies:∀c a w,Q (.panic c) (a.put oi.dst v) w→Q (.panic c) a w
theorem Calm.swap {i:Nat} {oi:Oper} {v:Value} {Y:Act→Prop} (C:Calm P ops Q S i oi v Y) (hns:∀(j:Nat) (o:Oper) cs b,ops[j]?=some o→o.op≠.select cs b)
  {j:Nat} {oj:Oper} (hj:ops[j]?=some oj) (hap:oi.apart ops oj=true) {K:Act→World→Prop} {a:Act} {w:World} (hy:Y a) (h:wpOp P ops Q j K (a.put oi.dst v) w) :
  wpOp P ops Q j (fun a' w'=>Y a'∧K (a'.put oi.dst v) w') a w:=by
 obtain ⟨p1,p2,p3⟩:=Oper.apart_spec hap;have E:=execOp_put oj (hns j oj · · hj) a oi.dst v p1;have st:∀b,Y b→∀u,Y (b.put oj.dst u):=fun b hb u=>C.put b _ u hb p3
 unfold wpOp at h ⊢;rw [hj] at h ⊢;dsimp only at h ⊢;rw [wanted_put oj a oi.dst v p1] at h;by_cases hw:Region.wanted oj (yielded ops a.tmps)=true
 ·rw [if_pos hw] at h ⊢;rcases h with h | ⟨hk,hl⟩
  ·left
   unfold Oper.wp at h ⊢;rw [E] at h
   revert h
   cases (execOp a.eval oj).run P w with
   | halt x w'=>cases x <;> (simp only [Oper.upon];intro h) <;> first | exact h | exact C.dies _ _ _ h
   | ok n w' =>
    cases n with
    | value u=>intro h;exact ⟨st a hy u,by rw [←Act.put_comm a v u p2];exact h⟩
    | skip=>intro h;exact ⟨st a hy _,by rw [←Act.put_comm a v undef p2];exact h⟩
    | defer d=>intro h;exact ⟨st _ (C.late a d hy) _,by rw [←Act.put_comm _ v undef p2,←Act.put_defers];exact h⟩
    | row r args=>intro h;exact Rows.mono h fun u _ he=>⟨st a hy u,by rw [←Act.put_comm a v u p2];exact he⟩
    | enter f args =>
     intro h;refine Calls.mono h fun e _ he=>?_
     match e,he with
     | .returned u,he=>exact ⟨st a hy u,by rw [←Act.put_comm a v u p2];exact he⟩
     | .panicked _,he=>exact C.dies _ _ _ he
     | .outgrown,he=>exact he
    | _=>first | exact id | (intro h;exact h)
  ·exact .inr ⟨by unfold Oper.asks at hk ⊢;rw [E] at hk;exact hk,hl⟩
 ·rw [if_neg hw] at h ⊢;exact ⟨st a hy _,by rw [←Act.put_comm a v undef p2];exact h⟩
theorem Calm.first {i:Nat} {oi:Oper} {v:Value} {Y:Act→Prop} (C:Calm P ops Q S i oi v Y) (hns:∀(j:Nat) (o:Oper) cs b,ops[j]?=some o→o.op≠.select cs b) :
  ∀(fuel:Nat) (listed:Array Bool) (a:Act) (w:World),
   (∀j oj,ops[j]?=some oj→j≠i→listed.getD j true=false→(∀e∈oj.after,Region.binds md e=true→e.on≠i)→oi.apart ops oj=true) →
   i∈Region.ready md ops listed→Y a→S w→wpAnyH P md ops Q S fuel (listed.setIfInBounds i true) (a.put oi.dst v) w→wpAnyH P md ops Q S (fuel+1) listed a w
 | 0,listed,a,w,_,hr,hy,hS,H=>by
  refine ⟨fun h=>absurd hr (by rw [h];simp),fun j hj=>?_⟩;by_cases e:j=i
  ·rw [e];exact C.run _ a w hy hS ⟨hS,H⟩
  ·exact absurd (ready_mono hj e) (by rw [H.1];simp)
 | fuel+1,listed,a,w,hf,hr,hy,hS,H=>by
  refine ⟨fun h=>absurd hr (by rw [h];simp),fun j hj=>?_⟩;by_cases e:j=i
  ·rw [e];exact C.run _ a w hy hS ⟨hS,H⟩
  obtain ⟨un,oj,hoj,hall⟩:=mem_ready.1 hj;have hi0:=(mem_ready.1 hr).1
  have waits:∀x∈oj.after,Region.binds md x=true→x.on≠i:=fun x hx hb heq=>by
   have:=hall x hx hb;rw [heq] at this;rcases Nat.lt_or_ge i listed.size with q | q
   ·simp [q] at this hi0;rw [hi0] at this;cases this
   ·simp [Array.getElem?_eq_none q] at this
  refine wpOp_mono (fun b w2 h3=>?_) (C.swap hns hoj (hf j oj hoj e un waits) hy (H.2 j (ready_mono hj e)));refine ⟨h3.2.1,Calm.first C hns fuel (listed.setIfInBounds j true) b w2 (fun k ok hk hki hun hno=>?_) (ready_mono hr (Ne.symm e)) h3.1 h3.2.1 ?_⟩
  ·by_cases q:j=k
   ·exact hf k ok hk hki (by rw [←q];exact un) hno
   ·exact hf k ok hk hki (by rw [getD_set_ne true q] at hun;exact hun) hno
  ·rw [Array.setIfInBounds_comm _ _ e];exact h3.2.2
def PureC (P:Program) (ops:Array Oper) (S:World→Prop) (o:Oper) (v:Value) (a:Act):Prop :=
 Region.wanted o (yielded ops a.tmps)=true∧∃f args,(∀w,(execOp a.eval o).run P w=.ok (.enter f args) w)∧∀w,S w→Calls P f args w fun e w'=>e=.returned v∧w'=w
theorem PureC.calm {i:Nat} {oi:Oper} {v:Value} (hi:ops[i]?=some oi) (hns:∀(j:Nat) (o:Oper) cs b,ops[j]?=some o→o.op≠.select cs b) (hQ:∀c a w,Q (.panic c) (a.put oi.dst v) w→Q (.panic c) a w) :
  Calm P ops Q S i oi v (PureC P ops S oi v):=by
 refine ⟨hi,fun K a w hy hS h=>?_,fun a d u hy hd=>?_,fun a d hy=>hy,hQ⟩
 ·obtain ⟨hw,f,args,hr,hc⟩:=hy;unfold wpOp;simp only [hi,hw,if_true,Oper.wp,hr w,Oper.upon];refine .inl ((hc w hS).mono fun e w' he=>?_);obtain ⟨rfl,rfl⟩:=he;exact h
 ·unfold PureC at *;rw [execOp_put oi (hns i oi · · hi) a d u hd,wanted_put oi a d u hd];exact hy
theorem wpAnyH_takeC {i:Nat} {oi:Oper} {v:Value} {fuel:Nat} {listed:Array Bool} {a:Act} {w:World} (hi:ops[i]?=some oi)
  (hs:Region.noSelect ops=true) (hf:Region.free md ops listed i=true) (hr:(Region.ready md ops listed).contains i=true)
  (hQ:∀c a w,Q (.panic c) (a.put oi.dst v) w→Q (.panic c) a w) (hy:PureC P ops S oi v a) (hS:S w)
  (h:wpAnyH P md ops Q S fuel (listed.setIfInBounds i true) (a.put oi.dst v) w):wpAnyH P md ops Q S (fuel+1) listed a w :=
 (PureC.calm hi (Region.noSelect_spec hs) hQ).first (Region.noSelect_spec hs) fuel listed a w (Region.free_spec hi hf) (by simpa using hr) hy hS h
end
end Go.Proofs.YtifhejahbbnkiaaGreat
namespace Go.Proofs.YtifhejahbbnkiaaGreat
open Go.RowKit
theorem i64w_of {x:Int} (h:I64 x):IntKind.i64.wrap x=x:=by rw [IntKind.wrap_i64];unfold I64 at h;omega
theorem step_app {P:Program} {w:World} {ops:Array Oper} {o:Oper} {a:Act} {K:Act→World→Prop} {Q:Exit→Act→World→Prop} {E:Prop} (hgd:o.guard=none) {s x:Operand} {t:TypeId}
  (ho:o.op=.call { callee:=.builtin .append,args:=#[s,x],argTypes:=#[t,t] }) {F:Nat→Prop} {e:TypeId} {size bytes:Nat} (T:SlT P t e size bytes) {A:Option Addr} {n c:Nat} {cs:List Value} (hs:a.eval s=.slice A n c) (h:Own w e size A n c cs)
  {A2:Option Addr} {m c2:Nat} {news:List Value} (hx:a.eval x=.slice A2 m c2) (hr:Sl w F A2 news) (hl:news.length=m * size) (h1:∀u∈news,u.oneCell'=true) (h63:n+m≤maxLen) (hb:(n+m) * bytes≤140737488355328)
  (k:∀A' c' w',Own w' e size A' (n+m) c' (cs++news)→Upd (At A) w w'→(∀k,At A' k→At A k∨k=w.heap.size)→K (a.put o.dst (.slice A' (n+m) c')) w') :
  if Region.wanted o (yielded ops a.tmps)=true then Oper.wp P o a w K Q else E:=by
 have hw:Region.wanted o (yielded ops a.tmps)=true:=by simp [Region.wanted,hgd]
 rw [if_pos hw];exact wp_app ho T hs h hx hr hl h1 h63 hb k
theorem getD_of {α:Type} {l:List α} {i:Nat} {d:α} (h:i<l.length):l.getD i d=l[i]:=by simp [List.getD,h]
theorem updCell (w:World) (b i:Nat) (v:Value):Upd (·=b) w (w.setCell ⟨b,i,none⟩ v):=Upd.refl.setCell (S:=(·=b)) (p:=⟨b,i,none⟩) (.inl rfl) _
def icells (l:List Int):List Value:=l.map fun x=>Value.int .i64 x
theorem icells_snoc (l:List Int) (x:Int):icells (l++[x])=icells l++[.int .i64 x]:=by simp [icells]
theorem T_ints':SlT Tryz.prog 22 3 1 8:=by
 obtain ⟨i,h1,h2,h3,h4⟩:=info_parts (show (Tryz.prog.info? 3).map (fun i=>(i.zero,i.size,i.bytes))=some (some (.int .i64 0),1,8) from by kernel_rfl)
 exact ⟨Tryz.underlying22,⟨i,_,h1,h2,h3,h4,rfl⟩,by omega⟩
theorem Own.ints {w:World} {A:Option Addr} {n c:Nat} {l:List Int} (h:Own w 3 1 A n c (icells l)):Ints w (At A) A l:=h.sl
theorem Own.le {w:World} {e:TypeId} {size:Nat} {A:Option Addr} {n c:Nat} {cs:List Value} (h:Own w e size A n c cs):n≤c:=by
 rcases h.cases with ⟨_,h,_⟩ | ⟨_,_,_,_,h,_⟩ <;> omega
theorem Own.set_ {w:World} {e:TypeId} {g n c:Nat} {cs:List Value} (h:Own w e 1 (some ⟨g,0,none⟩) n c cs) (i:Nat) (u:Value):Own (w.setCell ⟨g,i,none⟩ u) e 1 (some ⟨g,0,none⟩) n c (cs.set i u):=by
 rcases h.cases with ⟨h0,_⟩ | ⟨g',cur,e1,hb,hn,hm,hs,ht⟩
 ·cases h0
 ·injection e1 with e1;injection e1 with e1;subst e1
  refine Own.mk_ (hb.set_ i u) hn hm (by simpa using hs) ?_;rw [Array.toList_setIfInBounds,List.take_set,ht]
theorem Own.cell_ {w:World} {e:TypeId} {g n c:Nat} {cs:List Value} (h:Own w e 1 (some ⟨g,0,none⟩) n c cs) {i:Nat} (hi:i<cs.length):w.cell? ⟨g,i,none⟩=some cs[i]:=by
 rcases h.cases with ⟨h0,_⟩ | ⟨g',cur,e1,hb,hn,hm,hs,ht⟩
 ·cases h0
 ·injection e1 with e1;injection e1 with e1;subst e1
  subst ht;rw [hb.cell];simp at hi ⊢
theorem Own.frozen_ {w:World} {e:TypeId} {g n c:Nat} {cs:List Value} (h:Own w e 1 (some ⟨g,0,none⟩) n c cs) (i:Nat):w.frozen? ⟨g,i,none⟩=false:=by
 rcases h.cases with ⟨h0,_⟩ | ⟨g',cur,e1,hb,hn,hm,hs,ht⟩
 ·cases h0
 ·injection e1 with e1;injection e1 with e1;subst e1
  exact hb.frozen i
theorem Own.some_ {w:World} {e:TypeId} {size:Nat} {A:Option Addr} {n c:Nat} {cs:List Value} (h:Own w e size A n c cs) (hn:0<n):∃g,A=some ⟨g,0,none⟩:=by
 rcases h.cases with ⟨_,h0,_⟩ | ⟨g,cur,e1,_⟩
 ·omega
 ·exact ⟨g,e1⟩
theorem icells_one (xs:List Int):∀u∈icells xs,u.oneCell'=true:=by
 intro u hu;obtain ⟨x,_,rfl⟩:=List.mem_map.1 hu;rfl
theorem own_empty (w:World) (t:TypeId) (size:Nat):Own (w.alloc (.cells #[] t)) t size (some ⟨w.heap.size,0,none⟩) 0 0 []:=Own.mk_ (Blk.new w t #[]) (Nat.le_refl _) (by simp [maxLen]) (by simp) (by simp)
theorem own_empty' {w:World} (t:TypeId) (size:Nat) {g:Nat} (h:g=w.heap.size):Own (w.alloc (.cells #[] t)) t size (some ⟨g,0,none⟩) 0 0 []:=by subst h;exact own_empty w t size
theorem Sl.take_ {w:World} {F:Nat→Prop} {A:Option Addr} {cs:List Value} (h:Sl w F A cs) (k:Nat):Sl w F A (cs.take k):=by
 rcases h with h | ⟨b,off,rfl,hF,hc'⟩
 ·subst h;exact .inl (by simp)
 ·refine .inr ⟨b,off,rfl,hF,fun j hj=>?_⟩;rw [List.length_take] at hj;rw [hc' j (by omega),List.getElem_take]
theorem Ints.take_ {w:World} {F:Nat→Prop} {A:Option Addr} {xs:List Int} (h:Ints w F A xs) (k:Nat):Ints w F A (xs.take k):=by
 have:=Sl.take_ h k;rw [←List.map_take] at this;exact this
theorem z_:(∀(a:Act) (d:Tmp) (v:Value),a.put (some d) v={ a with tmps:=a.tmps.setIfInBounds d v })∧(∀(a:Act) (v:Value),a.put none v=a) ∧
  (∀(l:List Value) (i:Nat) (v:Value),l.toArray.setIfInBounds i v=(l.set i v).toArray)∧(∀(x v:Value) (l:List Value),(x::l).set 0 v=v::l)∧(∀(x v:Value) (l:List Value) (n:Nat),(x::l).set (n+1) v=x::l.set n v) :=
 ⟨fun _ _ _=>rfl,fun _ _=>rfl,fun _ _ _=>by simp,fun _ _ _=>rfl,fun _ _ _ _=>rfl⟩
theorem y_:(∀(l:List Oper) (i:Nat) (h:i<l.toArray.size),l.toArray[i]'h=l[i]'(by simpa using h))∧(∀(x:Oper) (l:List Oper) (h:0<(x::l).length),(x::l)[0]'h=x) ∧
  (∀(x:Oper) (l:List Oper) (n:Nat) (h:n+1<(x::l).length),(x::l)[n+1]'h=l[n]'(by simpa using h)):=⟨fun _ _ _=>by simp,fun _ _ _=>rfl,fun _ _ _ _=>rfl⟩
def kx (s:ByteArray):List UInt8:=s.data.toList
theorem kx_mk (x:List UInt8):kx ⟨x.toArray⟩=x:=by simp [kx]
theorem kx_inj {s q:ByteArray} (h:kx s=kx q):s=q:=by
 rcases s with ⟨s⟩;rcases q with ⟨q⟩
 simp only [kx] at h;rw [Array.toList_inj.1 h]
theorem kx_len (s:ByteArray):(kx s).length=s.size:=by simp [kx]
theorem take_snoc_ {α:Type} {L:List α} {k:Nat} (h:k<L.length):L.take (k+1)=L.take k++[L[k]]:=by
 rw [List.take_add_one,List.getElem?_eq_getElem h];rfl
section
variable {P:Program} {ops:Array Oper} {Q:Exit→Act→World→Prop} {md:Region.Mode} {S:World→Prop}
theorem wpT (i:Nat) {oi:Oper} {v:Value} {fuel:Nat} {listed:Array Bool} {a:Act} {w:World} (h:wpAnyH P md ops Q S fuel (listed.setIfInBounds i true) (a.put oi.dst v) w) (hi:ops[i]?=some oi:=by rfl)
  (hs:Region.noSelect ops=true:=by kernel_rfl) (hf:Region.free md ops listed i=true:=by kernel_rfl) (hr:(Region.ready md ops listed).contains i=true:=by kernel_rfl)
  (hQ:∀c a w,Q (.panic c) (a.put oi.dst v) w→Q (.panic c) a w:=by exact fun _ _ _ h=>h) (hw:Region.wanted oi (yielded ops a.tmps)=true:=by rfl) (hy:∀w,S w→(execOp a.eval oi).run P w=.ok (.value v) w:=by intro w hSw;(try dsimp only at hSw);go_simp;try with_reducible rfl) (hS:S w:=by assumption):wpAnyH P md ops Q S (fuel+1) listed a w :=
 wpAnyH_take hi hs hf hr hQ (.inl ⟨hw,hy⟩) hS h
theorem wpU (i:Nat) {oi:Oper} {fuel:Nat} {listed:Array Bool} {a:Act} {w:World} (h:wpAnyH P md ops Q S fuel (listed.setIfInBounds i true) (a.put oi.dst undef) w) (hi:ops[i]?=some oi:=by rfl)
  (hs:Region.noSelect ops=true:=by kernel_rfl) (hf:Region.free md ops listed i=true:=by kernel_rfl) (hr:(Region.ready md ops listed).contains i=true:=by kernel_rfl)
  (hQ:∀c a w,Q (.panic c) (a.put oi.dst undef) w→Q (.panic c) a w:=by exact fun _ _ _ h=>h) (hw:Region.wanted oi (yielded ops a.tmps)=false:=by rfl) (hS:S w:=by assumption):wpAnyH P md ops Q S (fuel+1) listed a w :=
 wpAnyH_take hi hs hf hr hQ (.inr ⟨hw,rfl⟩) hS h
end
end Go.Proofs.YtifhejahbbnkiaaGreat
namespace Go.Proofs.YtifhejahbbnkiaaGreat
open Go.RowKit
theorem ret_bool {p q:Prop} [Decidable p] [Decidable q] (h:p↔q):Ending.returned (.bool (decide p))=.returned (.bool (decide q)):=by simp [h]
set_option maxHeartbeats 400000 in
theorem pick_c (n m:Int) (w:World) (hm:0<m) (hm2:m≤4611686018427387904) :
  Calls Tryz.prog 41 #[.int .i64 n,.int .i64 m] w fun e w'=>e=.returned (.int .i64 (n % m))∧w=w':=by
 have H1:=h_ (tmod_pick n m hm);have h2:=Int.tmod_lt_of_pos n hm;have h3:=Int.lt_tmod_of_pos n hm;by_cases ht:n.tmod m<0
 ·have H2:Hid (n % m=n.tmod m+m):=by show _=_;rw [H1.out,if_pos ht]
  go_enter Tryz.func41,Tryz.ntmps41;go_wp2_with fail
  go_ret;exact ⟨by rw [H2.out];rfl,rfl⟩
 ·have H2:Hid (n % m=n.tmod m):=by show _=_;rw [H1.out,if_neg ht]
  go_enter Tryz.func41,Tryz.ntmps41;go_wp2_with fail
  go_ret;exact ⟨by rw [H2.out];rfl,rfl⟩
set_option maxHeartbeats 1000000 in
theorem arity_c (op:Int) (w:World):Calls Tryz.prog 118 #[.int .i64 op] w fun e w'=>e=.returned (.tuple #[.int .i64 (arityF op).1,.bool (arityF op).2])∧w=w':=by
 go_enter Tryz.func118,Tryz.ntmps118
 go_wp2
 all_goals
  go_ret2;refine ⟨?_,rfl⟩
  (try simp only [beq_iff_eq,beq_eq_false_iff_ne,ne_eq] at *)
  unfold arityF
  (repeat' split) <;> first | rfl | (exfalso;omega)
set_option maxHeartbeats 1000000 in
theorem maxImm_c (op:Int) (w:World):Calls Tryz.prog 210 #[.int .i64 op] w fun e w'=>e=.returned (.int .i64 (maxImmF op))∧w=w':=by
 go_enter Tryz.func210,Tryz.ntmps210
 go_wp2
 all_goals
  go_ret;refine ⟨?_,rfl⟩
  (try simp only [beq_iff_eq,beq_eq_false_iff_ne,ne_eq] at *)
  unfold maxImmF
  (repeat' split) <;> first | rfl | (exfalso;omega)
set_option maxHeartbeats 1000000 in
theorem validImm_c (op n:Int) (w:World):Calls Tryz.prog 150 #[.int .i64 op,.int .i64 n] w fun e w'=>e=.returned (.bool (validImmF op n))∧w=w':=by
 obtain ⟨m,Hm⟩:∃m,Hid (maxImmF op=m):=⟨_,rfl⟩;have Hv:Hid (validImmF op n=if op=1 then true else if m<0 then decide (n=0) else decide (0≤n∧n≤m∧(op≠27∨0<n))):=by show _=_;unfold validImmF;rw [Hm.out]
 have C1:=h_ (maxImm_c op w);rw [Hm.out] at C1;go_enter Tryz.func150,Tryz.ntmps150
 go_wp2_with (go_at_call 210;refine C1.out.mono ?_;rintro e w' ⟨rfl,rfl⟩)
 all_goals
  go_ret;refine ⟨?_,rfl⟩;rw [Hv.out]
  (try simp only [beq_iff_eq,beq_eq_false_iff_ne,ne_eq] at *)
  (repeat' split) <;> first | rfl | (exfalso;omega) | (simp;omega) | exact ret_bool (by omega)
set_option maxHeartbeats 1000000 in
theorem pSort_c (op:Int) (w:World):Calls Tryz.prog 88 #[.int .i64 op] w fun e w'=>e=.returned (.int .i64 (pSortF op))∧w=w':=by
 go_enter Tryz.func88,Tryz.ntmps88
 go_wp2
 all_goals
  go_ret;refine ⟨?_,rfl⟩
  (try simp only [beq_iff_eq,beq_eq_false_iff_ne,ne_eq] at *)
  unfold pSortF
  (repeat' split) <;> first | rfl | (exfalso;omega)
set_option maxHeartbeats 1000000 in
theorem operandSort_c (op k:Int) (w:World):Calls Tryz.prog 119 #[.int .i64 op,.int .i64 k] w fun e w'=>e=.returned (.int .i64 (operandSortF op k))∧w=w':=by
 obtain ⟨m,Hm⟩:∃m,Hid (pSortF op=m):=⟨_,rfl⟩;have Hv:Hid (operandSortF op k=if k=0∧(m=2∨op=23∨op=24) then 2 else 1):=by show _=_;unfold operandSortF;rw [Hm.out]
 have C1:=h_ (pSort_c op w);rw [Hm.out] at C1;go_enter Tryz.func119,Tryz.ntmps119
 go_wp2_with (go_at_call 88;refine C1.out.mono ?_;rintro e w' ⟨rfl,rfl⟩)
 all_goals
  go_ret;refine ⟨?_,rfl⟩;rw [Hv.out]
  (try simp only [beq_iff_eq,beq_eq_false_iff_ne,ne_eq] at *)
  (repeat' split) <;> first | rfl | (exfalso;omega)
end Go.Proofs.YtifhejahbbnkiaaGreat
namespace Go.Proofs.YtifhejahbbnkiaaGreat
open Go.RowKit
theorem edges_get {k:Nat} (hk:k=0∨k=1∨k=2∨k=3∨k=4∨k=5∨k=6∨k=7∨k=8∨k=9) {h:k < [Value.int IntKind.i64 0,Value.int IntKind.i64 1,Value.int IntKind.i64 (-1),Value.int IntKind.i64 2,Value.int IntKind.i64 (-9223372036854775808),Value.int IntKind.i64 9223372036854775807,Value.int IntKind.i64 4294967296,Value.int IntKind.i64 (-2147483648),Value.int IntKind.i64 63,Value.int IntKind.i64 64].length} :
  [Value.int IntKind.i64 0,Value.int IntKind.i64 1,Value.int IntKind.i64 (-1),Value.int IntKind.i64 2,Value.int IntKind.i64 (-9223372036854775808),Value.int IntKind.i64 9223372036854775807,Value.int IntKind.i64 4294967296,Value.int IntKind.i64 (-2147483648),Value.int IntKind.i64 63,Value.int IntKind.i64 64][k]=Value.int .i64 (edgesF.getD k 0):=by
 rcases hk with rfl | rfl | rfl | rfl | rfl | rfl | rfl | rfl | rfl | rfl <;> simp [edgesF]
theorem wrap64_of {x:Int} (h:I64 x):wrap64 x=x:=by unfold wrap64;unfold I64 at h;omega
set_option maxHeartbeats 1000000 in
theorem word_c (w:World) (n raw:Int) (hn:I64 n):Calls Tryz.prog 31 #[.int .i64 n,.int .i64 raw] w fun e w'=>e=.returned (.int .i64 (wordF n raw))∧Upd Non w w':=by
 have hm1:=Int.emod_nonneg n (show (24:Int)≠0 by omega);have hm2:=Int.emod_lt_of_pos n (show (0:Int)<24 by omega);have HW:Hid (wordF n raw=if n % 24<10 then edgesF.getD (n % 24).toNat 0 else if n % 24<22 then (n.tdiv 24) % 17 - 6 else raw):=rfl;have C1:=fun (W:World)=>pick_c n 24 W (by omega) (by omega)
 obtain ⟨q,Hq⟩:∃q,Hid (n % 24=q):=nm _;rw [Hq.out] at hm1 hm2 HW;obtain ⟨k,rfl⟩:=Int.eq_ofNat_of_zero_le hm1;simp only [Hq.out] at C1;have C1:=h_ C1;by_cases h1:k<10
 ·have HW2:Hid (wordF n raw=edgesF.getD k 0):=by show _=_;rw [HW.out,if_pos (by omega)];simp
  go_enter Tryz.func31,Tryz.ntmps31;go_wp2_with fail
  refine (C1.out _).mono ?_;rintro e w2 ⟨rfl,rfl⟩;have hk:k=0∨k=1∨k=2∨k=3∨k=4∨k=5∨k=6∨k=7∨k=8∨k=9:=by omega
  clear HW C1 hm1 hm2 Hq;go_wp2_with fail
  go_ret;refine ⟨?_,Upd.refl.alloc _⟩;rw [HW2.out];exact congrArg (fun x=>Ending.returned x) (edges_get hk)
 ·by_cases h2:k<22
  ·have HW2:Hid (wordF n raw=(n.tdiv 24) % 17 - 6):=by show _=_;rw [HW.out,if_neg (by omega),if_pos (by omega)]
   have m1:=Int.emod_nonneg (n.tdiv 24) (show (17:Int)≠0 by omega);have m2:=Int.emod_lt_of_pos (n.tdiv 24) (show (0:Int)<17 by omega);have C2:=h_ (fun (W:World)=>pick_c (n.tdiv 24) 17 W (by omega) (by omega));have e1:wrap64 (n.tdiv 24)=n.tdiv 24:=wrap64_of (hn.tdiv 24 (by omega));generalize (n.tdiv 24) % 17=x at *;go_enter Tryz.func31,Tryz.ntmps31;go_wp2_with fail
   refine (C1.out _).mono ?_;rintro e w2 ⟨rfl,rfl⟩;clear HW C1 Hq;go_wp2_with fail
   refine (C2.out _).mono ?_;rintro e w2 ⟨rfl,rfl⟩;go_wp2_with fail
   go_ret;exact ⟨by rw [HW2.out];rfl,Upd.refl.alloc _⟩
  ·have HW2:Hid (wordF n raw=raw):=by show _=_;rw [HW.out,if_neg (by omega),if_neg (by omega)]
   go_enter Tryz.func31,Tryz.ntmps31;go_wp2_with fail
   refine (C1.out _).mono ?_;rintro e w2 ⟨rfl,rfl⟩;clear HW C1 Hq;go_wp2_with fail
   go_ret;exact ⟨by rw [HW2.out];rfl,Upd.refl.alloc _⟩
end Go.Proofs.YtifhejahbbnkiaaGreat
namespace Go.Proofs.YtifhejahbbnkiaaGreat
open Go.RowKit
inductive Pt where
 | mk (v op imm iv:Int) (kids:List Pt)
def Pt.v:Pt→Int | .mk v _ _ _ _=>v
def Pt.op:Pt→Int | .mk _ op _ _ _=>op
def Pt.imm:Pt→Int | .mk _ _ imm _ _=>imm
def Pt.iv:Pt→Int | .mk _ _ _ iv _=>iv
def Pt.kids:Pt→List Pt | .mk _ _ _ _ kids=>kids
mutual
def Pt.size:Pt→Nat
 | .mk _ _ _ _ kids=>1+Pt.sizeL kids
def Pt.sizeL:List Pt→Nat
 | []=>0
 | k::ks=>k.size+Pt.sizeL ks
end
theorem Pt.size_eq (p:Pt):p.size=1+Pt.sizeL p.kids:=by cases p;simp only [Pt.size,Pt.kids]
theorem Pt.sizeL_take:∀(l:List Pt) (k:Nat) (h:k<l.length),Pt.sizeL (l.take (k+1))=Pt.sizeL (l.take k)+l[k].size
 | [],k,h=>absurd h (by simp)
 | a::l,0,h=>by simp [Pt.sizeL]
 | a::l,k+1,h=>by
  have:=Pt.sizeL_take l k (by simpa using h);simp only [List.take_succ_cons,Pt.sizeL,List.getElem_cons_succ];omega
theorem Pt.sizeL_mem {k:Pt}:∀{l:List Pt},k∈l→k.size≤Pt.sizeL l
 | a::l,h=>by
  simp only [Pt.sizeL];rcases List.mem_cons.1 h with rfl | h
  ·omega
  ·have:=Pt.sizeL_mem h;omega
theorem Pt.sizeL_take_le:∀(l:List Pt) (k:Nat),Pt.sizeL (l.take k)≤Pt.sizeL l
 | [],k=>by simp [Pt.sizeL]
 | a::l,0=>by simp [Pt.sizeL]
 | a::l,k+1=>by have:=Pt.sizeL_take_le l k;simp only [List.take_succ_cons,Pt.sizeL];omega
theorem Pt.kids_lt {p k:Pt} (h:k∈p.kids):k.size<p.size:=by have:=Pt.sizeL_mem h;rw [Pt.size_eq p];omega
theorem Pt.len_le:∀(l:List Pt),l.length≤Pt.sizeL l
 | []=>by simp
 | a::l=>by have:=Pt.len_le l;have:=Pt.size_eq a;simp only [List.length_cons,Pt.sizeL];omega
theorem Pt.ind {Q:Pt→Prop} (h:∀p,(∀k∈p.kids,Q k)→Q p) (p:Pt):Q p:=by
 suffices ∀n p,Pt.size p≤n→Q p from this _ p (Nat.le_refl _)
 intro n
 induction n with
 | zero=>intro p hp;have:=Pt.size_eq p;omega
 | succ n ih=>intro p hp;exact h p fun k hk=>ih k (by have:=Pt.kids_lt hk;omega)
mutual
def PtK (w:World) (F:Nat→Prop):Pt→Option Addr→Nat→Prop
 | .mk _ _ _ _ kids,KA,kc=>kids.length≤kc∧(kids=[]∨∃b o,KA=some ⟨b,o,none⟩∧F b∧PtL w F b kids o)
def PtL (w:World) (F:Nat→Prop) (b:Nat):List Pt→Nat→Prop
 | [],_=>True
 | k::ks,o=>(∃KA kc,w.cell? ⟨b,o,none⟩=some (.int .i64 k.v)∧w.cell? ⟨b,o+1,none⟩=some (.int .i64 k.op)∧w.cell? ⟨b,o+2,none⟩=some (.int .i64 k.imm)∧w.cell? ⟨b,o+3,none⟩=some (.int .i64 k.iv)∧w.cell? ⟨b,o+4,none⟩=some (.slice KA k.kids.length kc)∧PtK w F k KA kc)∧PtL w F b ks (o+5)
end
def PtAt (w:World) (F:Nat→Prop) (b o:Nat) (k:Pt):Prop:=∃KA kc,w.cell? ⟨b,o,none⟩=some (.int .i64 k.v)∧w.cell? ⟨b,o+1,none⟩=some (.int .i64 k.op)∧w.cell? ⟨b,o+2,none⟩=some (.int .i64 k.imm)∧w.cell? ⟨b,o+3,none⟩=some (.int .i64 k.iv)∧w.cell? ⟨b,o+4,none⟩=some (.slice KA k.kids.length kc)∧PtK w F k KA kc
section
variable {w w':World} {F G S:Nat→Prop}
theorem PtK.iff {p:Pt} {KA:Option Addr} {kc:Nat}:PtK w F p KA kc↔p.kids.length≤kc∧(p.kids=[]∨∃b o,KA=some ⟨b,o,none⟩∧F b∧PtL w F b p.kids o):=by
 cases p;simp only [PtK,Pt.kids]
theorem PtL.iff_cons {b o:Nat} {k:Pt} {ks:List Pt}:PtL w F b (k::ks) o↔PtAt w F b o k∧PtL w F b ks (o+5):=by simp only [PtL,PtAt]
theorem PtL.at_ {b:Nat}:∀{ks:List Pt} {o i:Nat},PtL w F b ks o→∀(h:i<ks.length),PtAt w F b (o+i * 5) ks[i]
 | k::ks,o,0,h,_=>by rw [PtL.iff_cons] at h;simpa using h.1
 | k::ks,o,i+1,h,hi=>by
  rw [PtL.iff_cons] at h;have:=PtL.at_ (i:=i) h.2 (by simpa using hi);rw [show o+(i+1) * 5=o+5+i * 5 by omega];exact this
theorem PtL.of {b:Nat}:∀{ks:List Pt} {o:Nat},(∀i (h:i<ks.length),PtAt w F b (o+i * 5) ks[i])→PtL w F b ks o
 | [],_,_=>by simp [PtL]
 | k::ks,o,h=>by
  rw [PtL.iff_cons];refine ⟨by have h0:=h 0 (by simp);rw [Nat.zero_mul,Nat.add_zero] at h0;exact h0,PtL.of fun i hi=>?_⟩;have:=h (i+1) (by simpa using hi);rw [show o+(i+1) * 5=o+5+i * 5 by omega] at this;exact this
theorem PtK.at_ {p:Pt} {KA:Option Addr} {kc:Nat} (h:PtK w F p KA kc) {i:Nat} (hi:i<p.kids.length):∃b o,KA=some ⟨b,o,none⟩∧F b∧b<w.heap.size∧PtAt w F b (o+i * 5) p.kids[i]:=by
 rcases (PtK.iff.1 h).2 with e | ⟨b,o,e,hF,hl⟩
 ·rw [e] at hi;simp at hi
 ·have:=hl.at_ hi;obtain ⟨_,_,h0,_⟩:=id this;exact ⟨b,o,e,hF,World.block_lt_of_cell? _ _ h0,this⟩
theorem PtK.upd (u:Upd S w w') (d:∀k,k<w.heap.size→F k→¬S k):∀(p:Pt) (KA:Option Addr) (kc:Nat),PtK w F p KA kc→PtK w' F p KA kc:=by
 intro p
 induction p using Pt.ind with
 | h p ih =>
  intro KA kc h;rw [PtK.iff] at h ⊢;refine ⟨h.1,h.2.imp_right fun ⟨b,o,e,hF,hl⟩=>⟨b,o,e,hF,PtL.of fun i hi=>?_⟩⟩;obtain ⟨KB,kd,h0,h1,h2,h3,h4,h5⟩:=hl.at_ hi;have hb:¬S b:=d b (World.block_lt_of_cell? _ _ h0) hF;exact ⟨KB,kd,u_ h0 u hb,u_ h1 u hb,u_ h2 u hb,u_ h3 u hb,u_ h4 u hb,ih _ (List.getElem_mem hi) KB kd h5⟩
theorem PtK.mono (hFG:∀k,k<w.heap.size→F k→G k):∀(p:Pt) (KA:Option Addr) (kc:Nat),PtK w F p KA kc→PtK w G p KA kc:=by
 intro p
 induction p using Pt.ind with
 | h p ih =>
  intro KA kc h;rw [PtK.iff] at h ⊢;refine ⟨h.1,?_⟩;rcases h.2 with e | ⟨b,o,e,hF,hl⟩
  ·exact .inl e
  ·by_cases h0:p.kids=[]
   ·exact .inl h0
   ·have hp:0<p.kids.length:=List.length_pos_iff.2 h0;obtain ⟨_,_,g0,_⟩:=hl.at_ hp;refine .inr ⟨b,o,e,hFG b (World.block_lt_of_cell? _ _ g0) hF,PtL.of fun i hi=>?_⟩;obtain ⟨KB,kd,h0,h1,h2,h3,h4,h5⟩:=hl.at_ hi;exact ⟨KB,kd,h0,h1,h2,h3,h4,ih _ (List.getElem_mem hi) KB kd h5⟩
end
def pv (p:Pt) (KA:Option Addr) (kc:Nat):Value:=.agg #[.int .i64 p.v,.int .i64 p.op,.int .i64 p.imm,.int .i64 p.iv,.slice KA p.kids.length kc]
set_option maxHeartbeats 1000000 in
theorem ptSize_c (p:Pt):∀(w:World) (F:Nat→Prop) (KA:Option Addr) (kc:Nat),PtK w F p KA kc→p.size≤1000000000000 →
  Calls Tryz.prog 168 #[pv p KA kc] w fun e w'=>e=.returned (.int .i64 (p.size:Int))∧Upd Non w w':=by
 induction p using Pt.ind with
 | h p ih =>
  intro w F KA kc hp hs;have hse:=Pt.size_eq p;have hle:=Pt.len_le p.kids;have HI:=h_ ih;obtain ⟨W,HW⟩:=nm (w.alloc (.cells #[.int .i64 p.v,.int .i64 p.op,.int .i64 p.imm,.int .i64 p.iv,.slice KA p.kids.length kc] 38));have hU:Upd Non w W:=by rw [←HW.out];exact Upd.refl.alloc _
  have hb:Blk W w.heap.size 38 #[.int .i64 p.v,.int .i64 p.op,.int .i64 p.imm,.int .i64 p.iv,.slice KA p.kids.length kc]:=by rw [←HW.out];exact Blk.new _ _ _
  have e0:=HW.out;have c4:=hb.cell 4;have hpW:=PtK.upd hU (fun _ _ _ f=>f) p KA kc hp;have HS:=h_ hse;unfold pv;clear ih hse hp;obtain ⟨n,Hn⟩:=nm p.kids.length;rw [Hn.out] at c4 hle e0;have hn12:n≤1000000000000:=by have:=HS.out;omega
  rw [Hn.out];go_enter Tryz.func168,Tryz.ntmps168;go_wp2_with fail
  go_loopg [3,5,9] n (fun g v _ i wr=>∃k:Nat,Hid (g=n - k)∧k≤n∧i=.int .i64 k∧v=.int .i64 ((1+Pt.sizeL (p.kids.take k):Nat):Int)∧Upd Non W wr)
  case atStart=>exact ⟨0,rfl,by omega,rfl,by simp [Pt.sizeL],Upd.refl⟩
  case round =>
   obtain ⟨k,Hg,hk,rfl,rfl,hu⟩:=hrel;by_cases hlt:k<n
   ·have hkl:k<p.kids.length:=by rw [Hn.out];exact hlt
    obtain ⟨b,o,rfl,hF,hbw,KB,kd,h0,h1,h2,h3,h4,h5⟩:=(PtK.upd hu (fun _ _ _ f=>f) p KA kc hpW).at_ hkl;have hks:p.kids[k].size≤1000000000000:=by have:=Pt.kids_lt (List.getElem_mem hkl);omega
    have hkk:=Pt.sizeL_take p.kids k hkl;have hkt:=Pt.sizeL_take_le p.kids (k+1);have hmem0:=List.getElem_mem hkl;generalize p.kids[k]=q at *;obtain ⟨W3,HW3⟩:=nm (wr.alloc (.cells #[.int .i64 q.v,.int .i64 q.op,.int .i64 q.imm,.int .i64 q.iv,.slice KB q.kids.length kd] 38));have hq:=PtK.upd (Upd.refl.alloc (S:=Non) (.cells #[.int .i64 q.v,.int .i64 q.op,.int .i64 q.imm,.int .i64 q.iv,.slice KB q.kids.length kd] 38)) (fun _ _ _ f=>f) q KB kd h5
    have hmem:q∈p.kids:=by assumption
    have C1:=h_ (HI.out q hmem _ F KB kd hq hks);unfold pv at C1;obtain ⟨z,Hz⟩:=nm (1+Pt.sizeL (p.kids.take k));have hz1:1+Pt.sizeL (p.kids.take (k+1))=z+q.size:=by rw [←Hz.out];omega
    have HZ:=h_ hz1;have hz2:z+q.size≤2000000000000:=by have:=HS.out;omega
    rw [Hz.out];clear hkk hkt hz1 h5 hq;go_wp2_with fail
    refine C1.out.mono ?_;rintro e w4 ⟨rfl,hu4⟩;go_wp2_with fail
    go_roundg (n - (k+1))
    case measure=>rw [Hg.out];omega
    case rel=>exact ⟨k+1,rfl,by omega,by go_num,by rw [HZ.out];go_num,(hu.alloc _).then_non hu4⟩
   ·obtain rfl:n=k:=by omega
    have HT:Hid (1+Pt.sizeL (p.kids.take n)=p.size):=by show _=_;rw [HS.out,←Hn.out];simp
    rw [HT.out];go_wp2_with fail
    go_ret;exact ⟨rfl,hU.then_non hu⟩
end Go.Proofs.YtifhejahbbnkiaaGreat
namespace Go.Proofs.YtifhejahbbnkiaaGreat
open Go.RowKit
section
variable {w:World} {F:Nat→Prop} {g:Nat}
theorem PtK.leaf {v op imm iv:Int} {KA:Option Addr} {kc:Nat}:PtK w F (.mk v op imm iv []) KA kc:=by rw [PtK.iff];exact ⟨by simp [Pt.kids],.inl rfl⟩
theorem PtK.one {k0:Pt} {KA0:Option Addr} {kc0 kc:Nat} (v op imm iv:Int) (h:Blk w g 38 #[.int .i64 k0.v,.int .i64 k0.op,.int .i64 k0.imm,.int .i64 k0.iv,.slice KA0 k0.kids.length kc0]) (h0:PtK w F k0 KA0 kc0) (hF:F g) (hkc:1≤kc) :
  PtK w F (.mk v op imm iv [k0]) (some ⟨g,0,none⟩) kc:=by
 rw [PtK.iff];refine ⟨hkc,.inr ⟨g,0,rfl,hF,PtL.of fun i hi=>?_⟩⟩;have : i=0:=by simp [Pt.kids] at hi;omega
 subst this;exact ⟨KA0,kc0,h.cell 0,h.cell 1,h.cell 2,h.cell 3,h.cell 4,h0⟩
theorem PtK.two {k0 k1:Pt} {KA0 KA1:Option Addr} {kc0 kc1 kc:Nat} (v op imm iv:Int) (h:Blk w g 38 #[.int .i64 k0.v,.int .i64 k0.op,.int .i64 k0.imm,.int .i64 k0.iv,.slice KA0 k0.kids.length kc0,.int .i64 k1.v,.int .i64 k1.op,.int .i64 k1.imm,.int .i64 k1.iv,.slice KA1 k1.kids.length kc1]) (h0:PtK w F k0 KA0 kc0) (h1:PtK w F k1 KA1 kc1) (hF:F g) (hkc:2≤kc) :
  PtK w F (.mk v op imm iv [k0,k1]) (some ⟨g,0,none⟩) kc:=by
 rw [PtK.iff];refine ⟨hkc,.inr ⟨g,0,rfl,hF,PtL.of fun i hi=>?_⟩⟩;have : i=0∨i=1:=by simp [Pt.kids] at hi;omega
 rcases this with rfl | rfl
 ·exact ⟨KA0,kc0,h.cell 0,h.cell 1,h.cell 2,h.cell 3,h.cell 4,h0⟩
 ·exact ⟨KA1,kc1,h.cell 5,h.cell 6,h.cell 7,h.cell 8,h.cell 9,h1⟩
end
theorem Pt.size_leaf (v op imm iv:Int):(Pt.mk v op imm iv []).size=1:=by simp [Pt.size,Pt.sizeL]
theorem Pt.size_one (v op imm iv:Int) (a:Pt):(Pt.mk v op imm iv [a]).size=1+a.size:=by simp [Pt.size,Pt.sizeL]
end Go.Proofs.YtifhejahbbnkiaaGreat
namespace Go.Proofs.YtifhejahbbnkiaaGreat
open Go.RowKit
set_option maxRecDepth 100000 in
set_option maxHeartbeats 1000000 in
theorem next_c (w:World) (p:Nat) (A:Option Addr) (c:Nat) (xs:List Int) (lp:Value) (F:Nat→Prop) (hF:∀k,F k→k≠p) (hb:Blk w p 96 #[.slice A xs.length c,lp]) (hx:Ints w F A xs) (hc:xs.length≤c) :
  Calls Tryz.prog 56 #[.pointer (some ⟨p,0,none⟩)] w fun e w'=>e=.returned (.int .i64 (xs.headD 0))∧∃A' c',Blk w' p 96 #[.slice A' xs.tail.length c',lp]∧Ints w' F A' xs.tail∧xs.tail.length≤c'∧Upd (·=p) w w':=by
 have c0:=hb.cell 0
 cases xs with
 | nil =>
  go_enter Tryz.func56,Tryz.ntmps56;go_wp2_with fail
  go_ret;exact ⟨rfl,A,c,hb,Ints.nil,hc,Upd.refl⟩
 | cons x xs =>
  obtain ⟨b,o,rfl,hFb,_,h1⟩:=hx.at_ (k:=0) (by simp);rw [Nat.add_zero] at h1;simp only [List.getElem_cons_zero] at h1;have f0:=hb.frozen 0;have hc':xs.length+1≤c:=by simpa using hc
  have hne:=hF b hFb;by_cases hc1:c=1
  ·subst hc1;obtain rfl:xs=[]:=List.eq_nil_of_length_eq_zero (by omega);go_enter Tryz.func56,Tryz.ntmps56;go_wp2_with fail
   go_ret;have hb2:=hb.set_ 0 (.slice (some ⟨b,o,none⟩) 0 0);refine ⟨rfl,some ⟨b,o,none⟩,0,?_,Ints.nil,by simp,Upd.refl.setCell (S:=(·=p)) (p:=⟨p,0,none⟩) (.inl rfl) _⟩;simpa using hb2
  ·have hb2:=hb.set_ 0 (.slice (some ⟨b,o+1,none⟩) xs.length (c - 1));have hx2:=hx.upd (Upd.refl.setCell (p:=⟨p,0,none⟩) (S:=(·=p)) (.inl rfl) (.slice (some ⟨b,o+1,none⟩) xs.length (c - 1))) (fun k _ h=>hF k h)
   have d:((c:Int)==1)=false:=by simp;omega
   have HX:Hid (Ints (w.setCell ⟨p,0,none⟩ (.slice (some ⟨b,o+1,none⟩) xs.length (c - 1))) F (some ⟨b,o+1,none⟩) xs):=by
    refine .inr ⟨b,o+1,rfl,hFb,fun j hj=>?_⟩;have hj':j<xs.length:=by simpa using hj
    obtain ⟨b',o',e,_,_,hc⟩:=hx2.at_ (k:=j+1) (by simpa using hj');injection e with e;injection e with e1 e2;subst e1;subst e2
    rw [Nat.add_assoc,Nat.add_comm 1 j,hc];simp
   clear hx2 hx;go_enter Tryz.func56,Tryz.ntmps56;go_wp2_with fail
   go_ret;refine ⟨rfl,some ⟨b,o+1,none⟩,c - 1,?_,HX.out,by simp;omega,Upd.refl.setCell (S:=(·=p)) (p:=⟨p,0,none⟩) (.inl rfl) _⟩;simpa using hb2
def Rd (w:World) (F:Nat→Prop) (p:Nat) (xs:List Int):Prop:=∃A c lp,Blk w p 96 #[.slice A xs.length c,lp]∧Ints w F A xs∧xs.length≤c∧∀x∈xs,I64 x
theorem Rd.upd {w w':World} {F S:Nat→Prop} {p:Nat} {xs:List Int} (h:Rd w F p xs) (u:Upd S w w') (d:∀k,k<w.heap.size→F k→¬S k) (hp:¬S p):Rd w' F p xs:=by
 obtain ⟨A,c,lp,h1,h2,h3⟩:=h;exact ⟨A,c,lp,h1.upd u hp,h2.upd u d,h3⟩
theorem Rd.mono {w:World} {F G:Nat→Prop} {p:Nat} {xs:List Int} (h:Rd w F p xs) (d:∀k,k<w.heap.size→F k→G k):Rd w G p xs:=by
 obtain ⟨A,c,lp,h1,h2,h3⟩:=h;exact ⟨A,c,lp,h1,h2.mono d,h3⟩
theorem Rd.lt {w:World} {F:Nat→Prop} {p:Nat} {xs:List Int} (h:Rd w F p xs):p<w.heap.size:=by obtain ⟨_,_,_,h1,_⟩:=h;exact h1.lt
theorem Rd.i64 {w:World} {F:Nat→Prop} {p:Nat} {xs:List Int} (h:Rd w F p xs):I64 (xs.headD 0):=by
 obtain ⟨_,_,_,_,_,_,h⟩:=h
 cases xs with
 | nil=>show I64 0;unfold I64;omega
 | cons x xs=>exact h x (by simp)
theorem rdNext_c {w:World} {F:Nat→Prop} {p:Nat} {xs:List Int} (hF:∀k,F k→k≠p) (h:Rd w F p xs) :
  Calls Tryz.prog 56 #[.pointer (some ⟨p,0,none⟩)] w fun e w'=>e=.returned (.int .i64 (xs.headD 0))∧Rd w' F p xs.tail∧Upd (·=p) w w':=by
 obtain ⟨A,c,lp,h1,h2,h3,h4⟩:=h;refine (next_c w p A c xs lp F hF h1 h2 h3).mono ?_;rintro e w' ⟨rfl,A',c',g1,g2,g3,g4⟩;exact ⟨rfl,⟨A',c',lp,g1,g2,g3,fun x hx=>h4 x (List.mem_of_mem_tail hx)⟩,g4⟩
def set5 (w:World) (g:Nat) (a b c d e:Value):World:=((((w.setCell ⟨g,0,none⟩ a).setCell ⟨g,1,none⟩ b).setCell ⟨g,2,none⟩ c).setCell ⟨g,3,none⟩ d).setCell ⟨g,4,none⟩ e
theorem set5_blk {w:World} {g:Nat} {x0 x1 x2 x3 x4:Value} (h:Blk w g 38 #[x0,x1,x2,x3,x4]) (a b c d e:Value):Blk (set5 w g a b c d e) g 38 #[a,b,c,d,e]:=by
 have h1:=((((h.set_ 0 a).set_ 1 b).set_ 2 c).set_ 3 d).set_ 4 e;simpa [set5] using h1
theorem set5_upd (w:World) (g:Nat) (a b c d e:Value):Upd (·=g) w (set5 w g a b c d e) :=
 ((((Upd.refl.setCell (S:=(·=g)) (p:=⟨g,0,none⟩) (.inl rfl) _).setCell (p:=⟨g,1,none⟩) (.inl rfl) _).setCell (p:=⟨g,2,none⟩) (.inl rfl) _).setCell (p:=⟨g,3,none⟩) (.inl rfl) _).setCell (p:=⟨g,4,none⟩) (.inl rfl) _
theorem set5_eq (w:World) (g:Nat) (a b c d e:Value):((((w.setCell ⟨g,0,none⟩ a).setCell ⟨g,1,none⟩ b).setCell ⟨g,2,none⟩ c).setCell ⟨g,3,none⟩ d).setCell ⟨g,4,none⟩ e=set5 w g a b c d e:=rfl
def hasImmF (op:Int):Bool:=decide (op=1∨op=23∨op=27∨op=28)
def oSortsF (op:Int):List Int×Int×Bool :=
 if op=1 then ([],1,true) else if op=23 then ([2,1],1,true) else if op=24 then ([2],1,true) else if op=27∨op=29 then ([2,1],2,true) else if op=28 then ([2,1,1],2,true)
 else if 4≤op∧op≤22 then ((if op=20∨op=21 then [1] else if op=22 then [1,1,1] else [1,1]),1,true) else ([],0,false)
def pImmF (p:Pt) (imms:Int):Bool :=
 if p.iv≠0 then hasImmF p.op&&decide (p.imm=0∧1≤p.iv∧p.iv≤imms) else if p.op=23∨p.op=28 then decide (0≤p.imm∧p.imm<4) else if p.op=27 then decide (1≤p.imm∧p.imm≤1000016) else decide (p.op=1∨p.imm=0)
theorem ptArity_c (op:Int) (w:World):Calls Tryz.prog 242 #[.int .i64 op] w fun e w'=>e=.returned (.tuple #[.int .i64 (arityF op).1,.bool (arityF op).2])∧w=w':=by
 go_enter Tryz.func242,Tryz.ntmps242
 go_wp2
 all_goals
  go_ret2;refine ⟨?_,rfl⟩
  (try simp only [beq_iff_eq,beq_eq_false_iff_ne,ne_eq] at *)
  unfold arityF
  (repeat' split) <;> first | rfl | (exfalso;omega)
theorem ptHasImm_c (op:Int) (w:World):Calls Tryz.prog 243 #[.int .i64 op] w fun e w'=>e=.returned (.bool (hasImmF op))∧w=w':=by
 go_enter Tryz.func243,Tryz.ntmps243
 go_wp2
 all_goals
  go_ret;refine ⟨?_,rfl⟩;show Ending.returned (Value.bool _)=_
  congr 2
  unfold hasImmF
  (try simp only [beq_iff_eq,beq_eq_false_iff_ne,ne_eq] at *)
  rw [Bool.eq_iff_iff];simp;omega
theorem ptOpSorts_c (op:Int) (w:World):Calls Tryz.prog 223 #[.int .i64 op] w fun e w'=>∃A c,e=.returned (.tuple #[.slice A (oSortsF op).1.length c,.int .i64 (oSortsF op).2.1,.bool (oSortsF op).2.2])∧Ints w' (fun k=>w.heap.size≤k) A (oSortsF op).1∧Upd Non w w':=by
 have C1:=h_ (fun w=>ptArity_c op w)
 have hI:∀(w:World) (xs:List Int) (cs:Array Value),cs=(xs.map fun x=>Value.int .i64 x).toArray→Ints (w.alloc (.cells cs 3)) (fun k=>w.heap.size≤k) (some ⟨w.heap.size,0,none⟩) xs:=fun w xs cs h=>by
  have:=Sl.new w 3 (xs.map fun x=>Value.int .i64 x);rw [←h] at this;exact this.mono (fun k _ hk=>by have : k=w.heap.size:=hk;omega)
 by_cases h4:4≤op∧op≤22
 ·obtain ⟨m,hm,ha,ho⟩:∃m:Nat,1≤m∧(m≤3∧arityF op=((m:Int),true))∧oSortsF op=(([1,1,1]:List Int).take m,1,true):=by
   have h0:oSortsF op=((if op=20∨op=21 then [1] else if op=22 then [1,1,1] else [1,1]),1,true):=by
    unfold oSortsF;rw [if_neg (by omega),if_neg (by omega),if_neg (by omega),if_neg (by omega),if_neg (by omega),if_pos h4]
   by_cases h1:op=20∨op=21
   ·refine ⟨1,by omega,⟨by omega,?_⟩,by rw [h0,if_pos h1];rfl⟩;unfold arityF;rw [if_neg (by omega),if_pos (by omega)];rfl
   ·by_cases h2:op=22
    ·refine ⟨3,by omega,⟨by omega,?_⟩,by rw [h0,if_neg h1,if_pos h2];rfl⟩;unfold arityF;rw [if_neg (by omega),if_neg (by omega),if_neg (by omega),if_pos (by omega)];rfl
    ·refine ⟨2,by omega,⟨by omega,?_⟩,by rw [h0,if_neg h1,if_neg h2];rfl⟩;unfold arityF;rw [if_neg (by omega),if_neg (by omega),if_pos (by omega)];rfl
  obtain ⟨hm3,ha⟩:=ha;rw [ha] at C1;have ho:=h_ ho;have hl:(([1,1,1]:List Int).take m).length=m:=by simp;omega
  rw [ho.out,hl];have n1:(op==1)=false:=by rw [beq_eq_false_iff_ne];omega
  have n2:(op==23)=false:=by rw [beq_eq_false_iff_ne];omega
  have n3:(op==24)=false:=by rw [beq_eq_false_iff_ne];omega
  have n4:(op==27)=false:=by rw [beq_eq_false_iff_ne];omega
  have n5:(op==29)=false:=by rw [beq_eq_false_iff_ne];omega
  have n6:(op==28)=false:=by rw [beq_eq_false_iff_ne];omega
  have n7:decide (op<4)=false:=dF_ (by omega);have n8:decide (op > 22)=false:=dF_ (by omega);have r1:(0:Int)≤(m:Int):=by omega
  have r2:(m:Int)≤3:=by omega
  clear ha h4 hl;go_enter Tryz.func223,Tryz.ntmps223;go_wp2_with fail
  refine (C1.out _).mono ?_;rintro e w1 ⟨rfl,rfl⟩;go_wp2_with fail
  go_ret3
  refine ⟨some ⟨w.heap.size,0,none⟩,3,rfl,?_,Upd.refl.alloc _⟩;exact (hI w [1,1,1] _ rfl).take_ m
 ·have c1:op=1∨op=23∨op=24∨op=27∨op=29∨op=28∨(op≠1∧op≠23∧op≠24∧op≠27∧op≠29∧op≠28):=by omega
  rcases c1 with rfl | rfl | rfl | rfl | rfl | rfl | hne
  ·clear C1;go_enter Tryz.func223,Tryz.ntmps223;go_wp2_with fail
   go_ret3
   exact ⟨none,0,rfl,.nil,Upd.refl⟩
  ·clear C1;go_enter Tryz.func223,Tryz.ntmps223;go_wp2_with fail
   go_ret3
   exact ⟨_,2,rfl,hI w [2,1] _ rfl,Upd.refl.alloc _⟩
  ·clear C1;go_enter Tryz.func223,Tryz.ntmps223;go_wp2_with fail
   go_ret3
   exact ⟨_,1,rfl,hI w [2] _ rfl,Upd.refl.alloc _⟩
  ·clear C1;go_enter Tryz.func223,Tryz.ntmps223;go_wp2_with fail
   go_ret3
   exact ⟨_,2,rfl,hI w [2,1] _ rfl,Upd.refl.alloc _⟩
  ·clear C1;go_enter Tryz.func223,Tryz.ntmps223;go_wp2_with fail
   go_ret3
   exact ⟨_,2,rfl,hI w [2,1] _ rfl,Upd.refl.alloc _⟩
  ·clear C1;go_enter Tryz.func223,Tryz.ntmps223;go_wp2_with fail
   go_ret3
   exact ⟨_,3,rfl,hI w [2,1,1] _ rfl,Upd.refl.alloc _⟩
  ·obtain ⟨m1,m2,m3,m4,m5,m6⟩:=hne
   have ho:Hid (oSortsF op=([],0,false)):=by
    show _=_;unfold oSortsF;rw [if_neg m1,if_neg m2,if_neg m3,if_neg (by omega),if_neg m6,if_neg h4]
   rw [ho.out];have n1:(op==1)=false:=by rw [beq_eq_false_iff_ne];omega
   have n2:(op==23)=false:=by rw [beq_eq_false_iff_ne];omega
   have n3:(op==24)=false:=by rw [beq_eq_false_iff_ne];omega
   have n4:(op==27)=false:=by rw [beq_eq_false_iff_ne];omega
   have n5:(op==29)=false:=by rw [beq_eq_false_iff_ne];omega
   have n6:(op==28)=false:=by rw [beq_eq_false_iff_ne];omega
   obtain ⟨z,Hz⟩:∃z,arityF op=z:=⟨_,rfl⟩;rw [Hz] at C1;obtain ⟨x,y⟩:=z;dsimp only at C1;clear Hz;by_cases hlt:op<4
   ·have n7:decide (op<4)=true:=dT_ hlt;cases y <;>
    ·go_enter Tryz.func223,Tryz.ntmps223;go_wp2_with fail
     refine (C1.out _).mono ?_;rintro e w1 ⟨rfl,rfl⟩;go_wp2_with fail
     go_ret3
     exact ⟨none,0,rfl,.nil,Upd.refl⟩
   ·have n7:decide (op<4)=false:=dF_ hlt;have n8:decide (op > 22)=true:=dT_ (by omega);cases y <;>
    ·go_enter Tryz.func223,Tryz.ntmps223;go_wp2_with fail
     refine (C1.out _).mono ?_;rintro e w1 ⟨rfl,rfl⟩;go_wp2_with fail
     go_ret3
     exact ⟨none,0,rfl,.nil,Upd.refl⟩
set_option maxHeartbeats 4000000 in
theorem ptValidImm_c (p:Pt) (KA:Option Addr) (kc:Nat) (imms:Int) (w:World):Calls Tryz.prog 224 #[pv p KA kc,.int .i64 imms] w fun e w'=>e=.returned (.bool (pImmF p imms))∧Upd Non w w':=by
 obtain ⟨v,op,imm,iv,kids⟩:=p;obtain ⟨W,HW⟩:=nm (w.alloc (.cells #[.int .i64 v,.int .i64 op,.int .i64 imm,.int .i64 iv,.slice KA kids.length kc] 38));have hU:Upd Non w W:=by rw [←HW.out];exact Upd.refl.alloc _
 have hb:Blk W w.heap.size 38 #[.int .i64 v,.int .i64 op,.int .i64 imm,.int .i64 iv,.slice KA kids.length kc]:=by rw [←HW.out];exact Blk.new _ _ _
 have e0:=HW.out;have c1:=hb.cell 1;have c2:=hb.cell 2;have c3:=hb.cell 3;have C1:=h_ (fun W=>ptHasImm_c op W);obtain ⟨R,HR⟩:=nm (pImmF (.mk v op imm iv kids) imms);rw [HR.out];unfold pv;simp only [Pt.v,Pt.op,Pt.imm,Pt.iv,Pt.kids];obtain ⟨hi,Hhi⟩:=nm (hasImmF op);rw [Hhi.out] at C1;have HF:Hid (R=if iv≠0 then hi&&decide (imm=0∧1≤iv∧iv≤imms) else if op=23∨op=28 then decide (0≤imm∧imm<4) else if op=27 then decide (1≤imm∧imm≤1000016) else decide (op=1∨imm=0)):=by show _=_;rw [←HR.out,←Hhi.out];rfl
 obtain ⟨b1,f1⟩:∃b,(op==23)=b:=⟨_,rfl⟩;obtain ⟨b2,f2⟩:∃b,(op==28)=b:=⟨_,rfl⟩;obtain ⟨b3,f3⟩:∃b,(op==27)=b:=⟨_,rfl⟩;obtain ⟨b4,f4⟩:∃b,(op==1)=b:=⟨_,rfl⟩;obtain ⟨b5,f5⟩:∃b,decide (imm ≥ 0)=b:=⟨_,rfl⟩;obtain ⟨b6,f6⟩:∃b,decide (imm<4)=b:=⟨_,rfl⟩;obtain ⟨b7,f7⟩:∃b,decide (imm ≥ 1)=b:=⟨_,rfl⟩;obtain ⟨b8,f8⟩:∃b,decide (imm≤1000016)=b:=⟨_,rfl⟩;obtain ⟨b9,f9⟩:∃b,(imm==0)=b:=⟨_,rfl⟩;obtain ⟨b10,f10⟩:∃b,decide (iv ≥ 1)=b:=⟨_,rfl⟩;obtain ⟨b11,f11⟩:∃b,decide (iv≤imms)=b:=⟨_,rfl⟩
 have close:∀x:Bool,(Hid (x=(if iv≠0 then hi&&(b9&&(b10&&b11)) else if b1 || b2 then b5&&b6 else if b3 then b7&&b8 else b4 || b9)))→x=R:=fun x hx=>by
  rw [hx.out,HF.out,←f1,←f2,←f3,←f4,←f5,←f6,←f7,←f8,←f9,←f10,←f11];by_cases a1:iv=0
  ·by_cases a2:op=23 <;> by_cases a3:op=28 <;> by_cases a4:op=27 <;> simp [a1,a2,a3,a4,Bool.beq_eq_decide_eq,Bool.decide_and,Bool.decide_or]
  ·cases hi <;> by_cases a5:imm=0 <;> simp [a1,a5,Bool.beq_eq_decide_eq,Bool.decide_and]
 have Hcl:=h_ close;by_cases h1:iv=0
 ·have t1:(iv != 0)=false:=by simpa using h1
  clear HF HR close;have h1:=h_ h1
  cases b1 with
  | true =>
   cases b5 <;> cases b6
   all_goals
    go_enter Tryz.func224,Tryz.ntmps224;go_wp2_with fail
    go_ret;refine ⟨congrArg (fun b=>Ending.returned (Value.bool b)) (Hcl.out _ ?_),by first | exact hU | exact Upd.refl.alloc _⟩;show _=_;rw [if_neg (fun q=>q h1.out)];rfl
  | false =>
   cases b2 with
   | true =>
    cases b5 <;> cases b6
    all_goals
     go_enter Tryz.func224,Tryz.ntmps224;go_wp2_with fail
     go_ret;refine ⟨congrArg (fun b=>Ending.returned (Value.bool b)) (Hcl.out _ ?_),by first | exact hU | exact Upd.refl.alloc _⟩;show _=_;rw [if_neg (fun q=>q h1.out)];rfl
   | false =>
    cases b3 with
    | true =>
     cases b7 <;> cases b8
     all_goals
      go_enter Tryz.func224,Tryz.ntmps224;go_wp2_with fail
      go_ret;refine ⟨congrArg (fun b=>Ending.returned (Value.bool b)) (Hcl.out _ ?_),by first | exact hU | exact Upd.refl.alloc _⟩;show _=_;rw [if_neg (fun q=>q h1.out)];rfl
    | false =>
     cases b4 <;> cases b9
     all_goals
      go_enter Tryz.func224,Tryz.ntmps224;go_wp2_with fail
      go_ret;refine ⟨congrArg (fun b=>Ending.returned (Value.bool b)) (Hcl.out _ ?_),by first | exact hU | exact Upd.refl.alloc _⟩;show _=_;rw [if_neg (fun q=>q h1.out)];rfl
 ·have t1:(iv != 0)=true:=by simpa using h1
  clear HF HR close;have h1:=h_ h1;cases hi <;> cases b9 <;> cases b10 <;> cases b11
  all_goals
   go_enter Tryz.func224,Tryz.ntmps224;go_wp2_with fail
   refine (C1.out _).mono ?_;rintro e w1 ⟨rfl,rfl⟩;go_wp2_with fail
   go_ret;refine ⟨congrArg (fun b=>Ending.returned (Value.bool b)) (Hcl.out _ ?_),by first | exact hU | exact Upd.refl.alloc _⟩;show _=_;rw [if_pos h1.out];rfl
mutual
def vPt:Pt→Int→Int→List Int→Bool×List Int
 | .mk v op imm iv kids,s,m,vs =>
  if v≠0 then
   if v<1∨v > vs.length∨op≠0∨imm≠0∨iv≠0∨0<kids.length then (false,vs)
   else if vs.getD (v - 1).toNat 0=0 then (true,vs.set (v - 1).toNat s) else (decide (s=0∨s=vs.getD (v - 1).toNat 0),vs)
  else if (oSortsF op).2.2=true∧kids.length=(oSortsF op).1.length∧(s=0∨s=(oSortsF op).2.1)∧pImmF (.mk v op imm iv kids) m=true then vKids kids (oSortsF op).1 m vs
  else (false,vs)
def vKids:List Pt→List Int→Int→List Int→Bool×List Int
 | [],_,_,vs=>(true,vs)
 | k::ks,ss,m,vs=>if (vPt k (ss.headD 0) m vs).1 then vKids ks ss.tail m (vPt k (ss.headD 0) m vs).2 else (false,(vPt k (ss.headD 0) m vs).2)
end
theorem vPt_var {p:Pt} (hv:p.v≠0) (s m:Int) (vs:List Int):vPt p s m vs =
  if p.v<1∨p.v > vs.length∨p.op≠0∨p.imm≠0∨p.iv≠0∨0<p.kids.length then (false,vs)
   else if vs.getD (p.v - 1).toNat 0=0 then (true,vs.set (p.v - 1).toNat s) else (decide (s=0∨s=vs.getD (p.v - 1).toNat 0),vs):=by
 obtain ⟨v,op,imm,iv,kids⟩:=p;simp only [vPt,Pt.v,Pt.op,Pt.imm,Pt.iv,Pt.kids] at hv ⊢;rw [if_pos hv];rfl
theorem vPt_op {p:Pt} (hv:p.v=0) (s m:Int) (vs:List Int):vPt p s m vs =
  if (oSortsF p.op).2.2=true∧p.kids.length=(oSortsF p.op).1.length∧(s=0∨s=(oSortsF p.op).2.1)∧pImmF p m=true then vKids p.kids (oSortsF p.op).1 m vs else (false,vs):=by
 obtain ⟨v,op,imm,iv,kids⟩:=p;simp only [vPt,Pt.v,Pt.op,Pt.kids] at hv ⊢;rw [if_neg (by omega)];rfl
theorem vKids_step {ks:List Pt} {ss:List Int} {m:Int} {vs:List Int} {k:Nat} (hk:k<ks.length) (hs:ks.length=ss.length) :
  vKids (ks.drop k) (ss.drop k) m vs=if (vPt ks[k] (ss[k]'(by omega)) m vs).1 then vKids (ks.drop (k+1)) (ss.drop (k+1)) m (vPt ks[k] (ss[k]'(by omega)) m vs).2 else (false,(vPt ks[k] (ss[k]'(by omega)) m vs).2):=by
 rw [List.drop_eq_getElem_cons hk,List.drop_eq_getElem_cons (show k<ss.length by omega)];simp only [vKids,List.headD_cons,List.tail_cons];rfl
theorem vPt_len (p:Pt):∀(s m:Int) (vs:List Int),(vPt p s m vs).2.length=vs.length:=by
 induction p using Pt.ind with
 | h p ih =>
  intro s m vs;by_cases hv:p.v=0
  ·rw [vPt_op hv]
   split
   ·suffices ∀(ks:List Pt) (ss:List Int) (vs:List Int),(∀k∈ks,∀(s m:Int) (vs:List Int),(vPt k s m vs).2.length=vs.length)→(vKids ks ss m vs).2.length=vs.length from this _ _ _ ih
    intro ks
    induction ks with
    | nil=>intro ss vs _;simp only [vKids]
    | cons k ks ihk =>
     intro ss vs hk;simp only [vKids]
     split
     ·rw [ihk _ _ (fun x hx=>hk x (List.mem_cons_of_mem _ hx))];exact hk k (by simp) _ _ _
     ·exact hk k (by simp) _ _ _
   ·rfl
  ·rw [vPt_var hv]
   split
   ·rfl
   ·split
    ·simp
    ·rfl
def VBlk (w:World) (g:Nat) (vs:List Int):Prop:=Blk w g 3 (icells vs).toArray
theorem VBlk.cell {w:World} {g:Nat} {vs:List Int} (h:VBlk w g vs) {i:Nat} (hi:i<vs.length):w.cell? ⟨g,i,none⟩=some (.int .i64 (vs.getD i 0)):=by
 rw [Blk.cell h];simp [icells,List.getD,hi]
theorem VBlk.set_ {w:World} {g:Nat} {vs:List Int} (h:VBlk w g vs) (i:Nat) (x:Int):VBlk (w.setCell ⟨g,i,none⟩ (.int .i64 x)) g (vs.set i x):=by
 have:=Blk.set_ h i (.int .i64 x);unfold VBlk;rw [show (icells (vs.set i x)).toArray=(icells vs).toArray.setIfInBounds i (.int .i64 x) by simp [icells,List.map_set]];exact this
set_option maxRecDepth 100000 in
set_option maxHeartbeats 4000000 in
theorem ptvalid_c (p:Pt):∀(w:World) (F:Nat→Prop) (KA:Option Addr) (kc g c:Nat) (s m:Int) (vs:List Int),PtK w F p KA kc→¬F g→VBlk w g vs→p.size≤1000000000000→vs.length≤1000000 →
  Calls Tryz.prog 169 #[pv p KA kc,.int .i64 s,.int .i64 m,.slice (some ⟨g,0,none⟩) vs.length c] w fun e w'=>e=.returned (.bool (vPt p s m vs).1)∧VBlk w' g (vPt p s m vs).2∧Upd (·=g) w w':=by
 induction p using Pt.ind with
 | h p ih =>
  intro w F KA kc g c s m vs hp hFg hg hs hvs;have hle:=Pt.len_le p.kids;have hse:=Pt.size_eq p;have HI:=h_ ih;have HPS:=h_ hs;have HV:=h_ (@vPt_var p);have HO:=h_ (@vPt_op p);obtain ⟨W,HW⟩:=nm (w.alloc (.cells #[.int .i64 p.v,.int .i64 p.op,.int .i64 p.imm,.int .i64 p.iv,.slice KA p.kids.length kc] 38));have hU:Upd Non w W:=by rw [←HW.out];exact Upd.refl.alloc _
  have hb:Blk W w.heap.size 38 #[.int .i64 p.v,.int .i64 p.op,.int .i64 p.imm,.int .i64 p.iv,.slice KA p.kids.length kc]:=by rw [←HW.out];exact Blk.new _ _ _
  have e0:=HW.out;have hgW:VBlk W g vs:=Blk.upd hg hU (fun f=>f);have hpW:=PtK.upd hU (fun _ _ _ f=>f) p KA kc hp;have hUg:Upd (·=g) w W:=hU.mono (fun _ _ f=>f.elim);have hglt:g<w.heap.size:=Blk.lt hg;have hsz:=hU.size;have c0:=hb.cell 0;have c1:=hb.cell 1;have c2:=hb.cell 2;have c3:=hb.cell 3;have c4:=hb.cell 4;have hn12:p.kids.length≤1000000000000:=by omega
  have CO:=h_ (fun w=>ptOpSorts_c p.op w);have CI:=h_ (fun w=>ptValidImm_c p KA kc m w);unfold pv at CI ⊢;obtain ⟨R,HR⟩:=nm (vPt p s m vs);rw [HR.out];obtain ⟨v,Hv⟩:=nm p.v;obtain ⟨op,Hop⟩:=nm p.op;obtain ⟨imm,Him⟩:=nm p.imm;obtain ⟨iv,Hiv⟩:=nm p.iv;obtain ⟨n,Hn⟩:=nm p.kids.length;rw [Hv.out] at c0 e0 CI;rw [Hop.out] at c1 e0 CI CO;rw [Him.out] at c2 e0 CI;rw [Hiv.out] at c3 e0 CI;rw [Hn.out] at c4 e0 CI hn12;rw [Hv.out,Hop.out,Him.out,Hiv.out,Hn.out] at hb;rw [Hv.out,Hop.out,Him.out,Hiv.out,Hn.out];clear ih hp hse hle hg hs;by_cases hv:v=0
  ·subst hv;obtain ⟨z,Hz⟩:∃z,oSortsF op=z:=⟨_,rfl⟩;obtain ⟨ss,own,ok⟩:=z
   have HO2:Hid (R=if ok=true∧n=ss.length∧(s=0∨s=own)∧pImmF p m=true then vKids p.kids ss m vs else (false,vs)):=by
    show _=_;rw [←HR.out,HO.out Hv.out,Hop.out,Hz,Hn.out]
   rw [Hz] at CO;dsimp only at CO;clear HV HO HR Hz;obtain ⟨bi,Hbi⟩:=nm (pImmF p m);rw [Hbi.out] at CI HO2;go_enter Tryz.func169,Tryz.ntmps169;go_wp2_with fail
   refine (CO.out W).mono ?_;rintro e w2 ⟨SA,sc,rfl,hiS,hu2⟩;have hU2:=hU.then_non hu2;have hUg2:Upd (·=g) w w2:=hUg.then_non hu2;have hg2:=Blk.upd hgW hu2 (fun f=>f);have hp2:=PtK.upd hu2 (fun _ _ _ f=>f) p KA kc hpW;have hb2:=hb.upd hu2 (fun f=>f);have c0:=hb2.cell 0;have c1:=hb2.cell 1;have c2:=hb2.cell 2;have c3:=hb2.cell 3;have c4:=hb2.cell 4;have hl2:=hb2.lt;clear CO hpW hgW e0
   cases ok with
   | false =>
    have HR2:Hid (R=(false,vs)):=by show _=_;rw [HO2.out];simp
    go_wp2_with fail
    go_ret;exact ⟨by rw [HR2.out];rfl,by rw [HR2.out];exact hg2,hUg2⟩
   | true =>
    by_cases hns:n=ss.length
    ·have t1:((n:Int) != (ss.length:Int))=false:=by rw [hns];simp
     by_cases hso:s=0∨s=own
     ·obtain ⟨b3,f3⟩:∃b,(s != 0)=b:=⟨_,rfl⟩;obtain ⟨b4,f4⟩:∃b,(s != own)=b:=⟨_,rfl⟩
      have HB:Hid ((b3&&b4)=false):=by
       show _=_;rw [←f3,←f4];rcases hso with q | q <;> simp [q]
      have HNS:=h_ hns;have HSO:=h_ hso;clear hns hso
      go_upto_region 11 with fail
      go_cut [101] (fun t wx=>t=.bool (!bi)∧Upd Non w2 wx)
      case first =>
       cases b3 <;> cases b4
       case true.true=>exact absurd HB.out (by simp)
       all_goals
        go_wp2_with fail
        refine (CI.out _).mono ?_;rintro e w3 ⟨rfl,hu3⟩;go_wp2_with fail
        go_meet;exact ⟨rfl,hu3⟩
      case rest =>
      obtain ⟨rfl,hu3⟩:=hcut;have hU3:=hUg2.then_non hu3;have hg3:=Blk.upd hg2 hu3 (fun f=>f);have hb3:=hb2.upd hu3 (fun f=>f);have c4:=hb3.cell 4;have hp3:=PtK.upd hu3 (fun _ _ _ f=>f) p KA kc hp2;have hiS3:=hiS.upd hu3 (fun _ _ _ f=>f);have hsz2:=hu2.size
      cases bi with
      | false =>
       have HR2:Hid (R=(false,vs)):=by show _=_;rw [HO2.out,if_neg (fun q=>by simpa using q.2.2.2)]
       clear HO2;go_wp2_with fail
       go_ret;exact ⟨by rw [HR2.out];rfl,by rw [HR2.out];exact hg3,hU3⟩
      | true =>
       have HR2:Hid (R=vKids (p.kids.drop 0) (ss.drop 0) m vs):=by show _=_;rw [HO2.out,if_pos (by refine ⟨?_,HNS.out,HSO.out,?_⟩ <;> simp)];simp
       have HST:=h_ (fun k (hk:k<p.kids.length) vk=>@vKids_step p.kids ss m vk k hk (by rw [Hn.out];exact HNS.out));have HVL:=h_ (fun (q:Pt) (s m:Int) vs=>vPt_len q s m vs);clear HO2 hp2 hg2 hb2 hiS CI c0 c1 c2 c3;go_wp2_with fail
       go_loopg [13,14,105] n (fun gg _ _ i wr=>∃(k:Nat) (vk:List Int),Hid (gg=n - k)∧k≤n∧i=.int .i64 k∧VBlk wr g vk∧vk.length=vs.length∧Hid (R=vKids (p.kids.drop k) (ss.drop k) m vk)∧Upd (·=g) wc wr)
       case atStart=>exact ⟨0,vs,rfl,by omega,rfl,hg3,rfl,HR2,Upd.refl⟩
       case round =>
        obtain ⟨k,vk,Hg,hk,rfl,hgk,hvk,HRk,hu⟩:=hrel;by_cases hlt:k<n
        ·have hkl:k<p.kids.length:=by rw [Hn.out];exact hlt
         have hks:k<ss.length:=by have:=HNS.out;omega
         obtain ⟨b,o,rfl,hF,hbw,KB,kd,h0,h1,h2,h3,h4,h5⟩:=(PtK.upd hu (fun k _ hF e=>hFg (by rw [←e];exact hF)) p KA kc hp3).at_ hkl;obtain ⟨sb,so,rfl,hsb,hsbw,hsc⟩:=(hiS3.upd hu (fun k _ q e=>by omega)).at_ hks;have hmem0:=List.getElem_mem hkl;have hqs:=Pt.kids_lt hmem0;have HRs:=HST.out k hkl vk;have hps:p.size≤1000000000000:=HPS.out;rw [HRs] at HRk;clear HRs;generalize p.kids[k]=q at *;generalize ss[k]=x at *;have hge:wr.heap.size > g:=Blk.lt hgk;have i0:(0:Int)≤(k:Int):=by omega
         have i1:(k:Int)<(ss.length:Int):=by omega
         obtain ⟨W3,HW3⟩:=nm (wr.alloc (.cells #[.int .i64 q.v,.int .i64 q.op,.int .i64 q.imm,.int .i64 q.iv,.slice KB q.kids.length kd] 38));have u3:Upd Non wr W3:=by rw [←HW3.out];exact Upd.refl.alloc _
         have bq:Blk W3 wr.heap.size 38 #[.int .i64 q.v,.int .i64 q.op,.int .i64 q.imm,.int .i64 q.iv,.slice KB q.kids.length kd]:=by rw [←HW3.out];exact Blk.new _ _ _
         have eW3:=HW3.out;have hq3:=PtK.upd u3 (fun _ _ _ f=>f) q KB kd h5;have hs3:=u_ hsc u3 (fun f=>f);have hg4:VBlk W3 g vk:=Blk.upd hgk u3 (fun f=>f);have C1:=h_ (HI.out q hmem0 W3.drew F KB kd g c x m vk (PtK.upd (Upd.refl.drew (S:=Non)) (fun _ _ _ f=>f) q KB kd hq3) hFg hg4 (by omega) (by omega));unfold pv at C1;rw [hvk] at C1;have q0:W3.cell? ⟨wr.heap.size,0,none⟩=some (.int .i64 q.v):=bq.cell 0;have q1:W3.cell? ⟨wr.heap.size,1,none⟩=some (.int .i64 q.op):=bq.cell 1;have q2:W3.cell? ⟨wr.heap.size,2,none⟩=some (.int .i64 q.imm):=bq.cell 2;have q3:W3.cell? ⟨wr.heap.size,3,none⟩=some (.int .i64 q.iv):=bq.cell 3;have q4:W3.cell? ⟨wr.heap.size,4,none⟩=some (.slice KB q.kids.length kd):=bq.cell 4;have HV1:=h_ (HVL.out q x m vk);obtain ⟨r,Hr⟩:=nm (vPt q x m vk);obtain ⟨rb,rv⟩:=r;rw [Hr.out] at C1 HRk HV1;have hrv:rv.length=vs.length:=by rw [←hvk];exact HV1.out
         clear h5 hq3 hps hqs bq;have hS:∀w',Upd (·=g) W3 w'→w'.cell? ⟨wr.heap.size,0,none⟩=some (.int .i64 q.v)∧w'.cell? ⟨wr.heap.size,1,none⟩=some (.int .i64 q.op)∧w'.cell? ⟨wr.heap.size,2,none⟩=some (.int .i64 q.imm)∧w'.cell? ⟨wr.heap.size,3,none⟩=some (.int .i64 q.iv)∧w'.cell? ⟨wr.heap.size,4,none⟩=some (.slice KB q.kids.length kd)∧w'.cell? ⟨sb,so+k,none⟩=some (.int .i64 x):=fun w' u=>⟨u_ q0 u (by omega),u_ q1 u (by omega),u_ q2 u (by omega),u_ q3 u (by omega),u_ q4 u (by omega),u_ hs3 u (by omega)⟩
         go_wp2_with fail
         refine wp_region_held_drew (S:=fun w'=>w'.cell? ⟨wr.heap.size,0,none⟩=some (.int .i64 q.v)∧w'.cell? ⟨wr.heap.size,1,none⟩=some (.int .i64 q.op)∧w'.cell? ⟨wr.heap.size,2,none⟩=some (.int .i64 q.imm)∧w'.cell? ⟨wr.heap.size,3,none⟩=some (.int .i64 q.iv)∧w'.cell? ⟨wr.heap.size,4,none⟩=some (.slice KB q.kids.length kd)∧w'.cell? ⟨sb,so+k,none⟩=some (.int .i64 x)) (by kernel_rfl) (by first | exact hS _ (Upd.refl (S:=(·=g))).drew | (rw [eW3];exact hS _ (Upd.refl (S:=(·=g))).drew)) (fun hHeld=>?_)
         try rw [eW3] at hHeld ⊢
         refine wpT 0 ?_;(try simp only [y_,z_]);refine wpT 1 ?_;(try simp only [y_,z_]);refine wpT 2 ?_;(try simp only [y_,z_]);refine wpT 3 ?_;(try simp only [y_,z_]);refine wpT 4 ?_;(try simp only [y_,z_]);refine wpT 5 ?_;(try simp only [y_,z_]);refine wpT 6 ?_;(try simp only [y_,z_]);refine aR_ (rs:=[7]) (by kernel_rfl) (by simp) ?_;refine aC_ rfl (fun K hK=>?_) aN_;go_simp;refine C1.out.mono ?_;rintro e w5 ⟨rfl,hg5,hu5'⟩;have hu5:Upd (·=g) W3 w5:=(Upd.refl.drew (S:=(·=g))).trans hu5' (fun _ _ q=>q);have hu6:Upd (·=g) wr w5:=(u3.mono (T:=(·=g)) (fun _ _ f=>f.elim)).trans hu5 (fun _ _ q=>q);go_wp2_with fail
         refine hK.out _ _ ?_ (fun hHeld=>?_)
         ·exact hS _ hu5
         clear hK K;(try simp only [y_,z_]);refine wpT 8 ?_;(try simp only [y_,z_]);refine aD_ (by kernel_rfl) ?_ _
         cases rb with
         | true =>
          have HRn:Hid (R=vKids (p.kids.drop (k+1)) (ss.drop (k+1)) m rv):=by show _=_;rw [HRk.out];rfl
          clear C1 hS q0 q1 q2 q3 q4;go_wp2_with fail
          go_roundg (n - (k+1))
          case measure=>rw [Hg.out];omega
          case rel=>exact ⟨k+1,rv,rfl,by omega,by go_num,hg5,hrv,HRn,hu.trans hu6 (fun _ _ q=>q)⟩
         | false =>
          have HRn:Hid (R=(false,rv)):=by show _=_;rw [HRk.out];rfl
          clear C1 hS q0 q1 q2 q3 q4;go_wp2_with fail
          go_ret;exact ⟨by rw [HRn.out];rfl,by rw [HRn.out];exact hg5,(hU3.trans hu (fun _ _ q=>q)).trans hu6 (fun _ _ q=>q)⟩
        ·obtain rfl:n=k:=by omega
         have HRz:Hid (R=(true,vk)):=by
          show _=_;rw [HRk.out,List.drop_eq_nil_of_le (by rw [Hn.out];exact Nat.le_refl _)];rfl
         go_wp2_with fail
         go_ret;exact ⟨by rw [HRz.out];rfl,by rw [HRz.out];exact hgk,hU3.trans hu (fun _ _ q=>q)⟩
     ·have t2:(s != 0)=true:=by simp;omega
      have t3:(s != own)=true:=by simp;omega
      have HR2:Hid (R=(false,vs)):=by show _=_;rw [HO2.out,if_neg (fun q=>hso q.2.2.1)]
      clear HO2 hso;have hns:=h_ hns;go_wp2_with fail
      go_ret;exact ⟨by rw [HR2.out];rfl,by rw [HR2.out];exact hg2,hUg2⟩
    ·have t1:((n:Int) != (ss.length:Int))=true:=by simp;omega
     have HR2:Hid (R=(false,vs)):=by show _=_;rw [HO2.out,if_neg (fun q=>hns q.2.1)]
     clear HO2;go_wp2_with fail
     go_ret;exact ⟨by rw [HR2.out];rfl,by rw [HR2.out];exact hg2,hUg2⟩
  ·have t0:(v != 0)=true:=by simpa using hv
   clear CO CI
   have HV2:Hid (R=if v<1∨v > vs.length∨op≠0∨imm≠0∨iv≠0∨0<n then (false,vs) else if vs.getD (v - 1).toNat 0=0 then (true,vs.set (v - 1).toNat s) else (decide (s=0∨s=vs.getD (v - 1).toNat 0),vs)):=by
    show _=_;rw [←HR.out,HV.out (by rw [Hv.out];exact hv),Hv.out,Hop.out,Him.out,Hiv.out,Hn.out]
   clear HV HO HI;by_cases hbad:v<1∨v > vs.length∨op≠0∨imm≠0∨iv≠0∨0<n
   ·have HRv:Hid (R=(false,vs)):=by show _=_;rw [HV2.out,if_pos hbad]
    rw [HRv.out];have Hbad:=h_ hbad;obtain ⟨b1,f1⟩:∃b,decide (v<1)=b:=⟨_,rfl⟩;obtain ⟨b2,f2⟩:∃b,decide (v > (vs.length:Int))=b:=⟨_,rfl⟩;obtain ⟨b3,f3⟩:∃b,(op != 0)=b:=⟨_,rfl⟩;obtain ⟨b4,f4⟩:∃b,(imm != 0)=b:=⟨_,rfl⟩;obtain ⟨b5,f5⟩:∃b,(iv != 0)=b:=⟨_,rfl⟩;obtain ⟨b6,f6⟩:∃b,decide ((n:Int) > 0)=b:=⟨_,rfl⟩
    have HB:Hid ((b1 || b2 || b3 || b4 || b5 || b6)=true):=by
     show _=_;rw [←f1,←f2,←f3,←f4,←f5,←f6];simp;omega
    clear hbad
    cases b1 with
    | true =>
     go_enter Tryz.func169,Tryz.ntmps169;go_wp2_with fail
     go_ret;exact ⟨rfl,hgW,hUg⟩
    | false=>cases b2 with
     | true =>
      go_enter Tryz.func169,Tryz.ntmps169;go_wp2_with fail
      go_ret;exact ⟨rfl,hgW,hUg⟩
     | false=>cases b3 with
      | true =>
       go_enter Tryz.func169,Tryz.ntmps169;go_wp2_with fail
       go_ret;exact ⟨rfl,hgW,hUg⟩
      | false=>cases b4 with
       | true =>
        go_enter Tryz.func169,Tryz.ntmps169;go_wp2_with fail
        go_ret;exact ⟨rfl,hgW,hUg⟩
       | false=>cases b5 with
        | true =>
         go_enter Tryz.func169,Tryz.ntmps169;go_wp2_with fail
         go_ret;exact ⟨rfl,hgW,hUg⟩
        | false=>cases b6 with
         | true =>
          have hn0:0<n:=by simpa using f6
          have hn1:decide (0<n)=true:=dT_ hn0;go_enter Tryz.func169,Tryz.ntmps169;go_wp2_with fail
          go_ret;exact ⟨rfl,hgW,hUg⟩
         | false=>exact absurd HB.out (by simp)
   ·rw [if_neg hbad] at HV2;obtain ⟨i,hi⟩:=Int.eq_ofNat_of_zero_le (show 0≤v - 1 by omega);have hil:i<vs.length:=by omega
    obtain rfl:op=0:=by omega
    obtain rfl:imm=0:=by omega
    obtain rfl:iv=0:=by omega
    obtain rfl:n=0:=by omega
    have t1:decide (v<1)=false:=dF_ (by omega);have t2:decide (v > (vs.length:Int))=false:=dF_ (by omega);have hw:wrap64 (v - 1)=(i:Int):=by unfold wrap64;omega
    have hw2:IntKind.i64.wrap (v - 1)=(i:Int):=by rw [i64w_of (by unfold I64;omega)];exact hi
    have cg:=VBlk.cell hgW hil;have fg:=Blk.frozen hgW i;have i0:(0:Int)≤(i:Int):=by omega
    have i1:(i:Int)<(vs.length:Int):=by omega
    rw [hi,Int.toNat_natCast] at HV2;have hset:=VBlk.set_ hgW i s;have uset:=updCell W g i (.int .i64 s);clear hbad HR Hv Hop Him Hiv Hn hpW;obtain ⟨y,Hy⟩:=nm (vs.getD i 0);rw [Hy.out] at HV2 cg;by_cases hy:y=0
    ·rw [if_pos hy] at HV2;subst hy;rw [HV2.out];clear HV2;go_enter Tryz.func169,Tryz.ntmps169;go_wp2_with fail
     go_ret;exact ⟨rfl,hset,hUg.trans uset (fun _ _ q=>q)⟩
    ·rw [if_neg hy] at HV2;have ty:(y==0)=false:=by simpa using hy
     by_cases hs0:s=0
     ·subst hs0;have HV2:Hid (R=(true,vs)):=by show _=_;rw [HV2.out];simp
      rw [HV2.out];clear HV2;go_enter Tryz.func169,Tryz.ntmps169;go_wp2_with fail
      go_ret;exact ⟨rfl,hgW,hUg⟩
     ·have ts:(s != 0)=true:=by simpa using hs0
      by_cases hsy:s=y
      ·subst hsy;have tt:(s != s)=false:=by simp
       have HV2:Hid (R=(true,vs)):=by show _=_;rw [HV2.out];simp
       rw [HV2.out];clear HV2;go_enter Tryz.func169,Tryz.ntmps169;go_wp2_with fail
       go_ret;exact ⟨rfl,hgW,hUg⟩
      ·have tt:(s != y)=true:=by simpa using hsy
       have HV2:Hid (R=(false,vs)):=by show _=_;rw [HV2.out];simp [hs0,hsy]
       rw [HV2.out];clear HV2;go_enter Tryz.func169,Tryz.ntmps169;go_wp2_with fail
       go_ret;exact ⟨rfl,hgW,hUg⟩
def validF (p:Pt) (vars imms:Int):Bool:=decide (0≤vars∧vars≤6∧0≤imms∧imms≤6∧p.size≤24)&&(vPt p 0 imms (List.replicate vars.toNat 0)).1
theorem zero_int_:(Tryz.prog.info? 3).bind (·.zero)=some (.int .i64 0):=by kernel_rfl
set_option maxRecDepth 100000 in
set_option maxHeartbeats 4000000 in
theorem ptValid_c (p:Pt) (w:World) (F:Nat→Prop) (KA:Option Addr) (kc:Nat) (vars imms:Int) (hp:PtK w F p KA kc) (hs:p.size≤1000000000000) :
  Calls Tryz.prog 105 #[pv p KA kc,.int .i64 vars,.int .i64 imms] w fun e w'=>e=.returned (.bool (validF p vars imms))∧Upd Non w w':=by
 have hp0:=PtK.mono (G:=(·<w.heap.size)) (fun k hk _=>hk) p KA kc hp;obtain ⟨W,HW⟩:=nm (w.alloc (.cells #[.int .i64 p.v,.int .i64 p.op,.int .i64 p.imm,.int .i64 p.iv,.slice KA p.kids.length kc] 38));have hU:Upd Non w W:=by rw [←HW.out];exact Upd.refl.alloc _
 have hb:Blk W w.heap.size 38 #[.int .i64 p.v,.int .i64 p.op,.int .i64 p.imm,.int .i64 p.iv,.slice KA p.kids.length kc]:=by rw [←HW.out];exact Blk.new _ _ _
 have e0:=HW.out;have hpW:=PtK.upd hU (fun _ _ _ f=>f) p KA kc hp0;have C1:=h_ (ptSize_c p W _ KA kc hpW hs);have c0:W.cell? ⟨w.heap.size,0,none⟩=some (.int .i64 p.v):=hb.cell 0;have c1:W.cell? ⟨w.heap.size,1,none⟩=some (.int .i64 p.op):=hb.cell 1;have c2:W.cell? ⟨w.heap.size,2,none⟩=some (.int .i64 p.imm):=hb.cell 2;have c3:W.cell? ⟨w.heap.size,3,none⟩=some (.int .i64 p.iv):=hb.cell 3;have c4:W.cell? ⟨w.heap.size,4,none⟩=some (.slice KA p.kids.length kc):=hb.cell 4;have hlt:=hb.lt;obtain ⟨R,HR⟩:=nm (validF p vars imms);rw [HR.out];unfold pv at C1 ⊢;have HR2:Hid (R=(decide (0≤vars∧vars≤6∧0≤imms∧imms≤6∧p.size≤24)&&(vPt p 0 imms (List.replicate vars.toNat 0)).1)):=HR.out.symm
 have HV:=h_ (fun w g c vs h1 h2 h3=>ptvalid_c p w (·<W.heap.size) KA kc g c 0 imms vs h1 h2 h3 hs);clear hp hp0 HR;by_cases h1:0≤vars∧vars≤6∧0≤imms∧imms≤6
 ·obtain ⟨g1,g2,g3,g4⟩:=h1;obtain ⟨n,rfl⟩:=Int.eq_ofNat_of_zero_le g1;have t1:decide ((n:Int)<0)=false:=by simp
  have t2:decide ((n:Int) > 6)=false:=dF_ (by omega);have t3:decide (imms<0)=false:=dF_ (by omega);have t4:decide (imms > 6)=false:=dF_ (by omega);by_cases h24:p.size≤24
  ·have t5:decide ((p.size:Int) > 24)=false:=dF_ (by omega);have hmk:=run_mk (P:=Tryz.prog) T_ints' zero_int_ rfl n (by omega) (by omega);have HR3:Hid (R=(vPt p 0 imms (List.replicate n 0)).1):=by show _=_;rw [HR2.out,dT_ ⟨g1,g2,g3,g4,h24⟩];simp
   clear HR2;go_enter Tryz.func105,Tryz.ntmps105;go_wp2_with fail
   refine C1.out.mono ?_;rintro e w2 ⟨rfl,hu2⟩;go_wp2_with fail
   obtain ⟨wD,HwD⟩:=nm w2.drew;have uD:Upd Non W wD:=hu2.then_non (by rw [←HwD.out];exact Upd.refl.drew)
   have hS:∀w',Upd Non wD w'→w'.cell? ⟨w.heap.size,0,none⟩=some (.int .i64 p.v)∧w'.cell? ⟨w.heap.size,1,none⟩=some (.int .i64 p.op)∧w'.cell? ⟨w.heap.size,2,none⟩=some (.int .i64 p.imm)∧w'.cell? ⟨w.heap.size,3,none⟩=some (.int .i64 p.iv)∧w'.cell? ⟨w.heap.size,4,none⟩=some (.slice KA p.kids.length kc):=fun w' u=>by
    have u2:=uD.then_non u;exact ⟨u_ c0 u2 (fun f=>f),u_ c1 u2 (fun f=>f),u_ c2 u2 (fun f=>f),u_ c3 u2 (fun f=>f),u_ c4 u2 (fun f=>f)⟩
   have hsz:=uD.size;have uM:Upd Non wD (wD.alloc (.cells (Array.replicate n (.int .i64 0)) 3)):=Upd.refl.alloc _
   have hgM:VBlk (wD.alloc (.cells (Array.replicate n (.int .i64 0)) 3)) wD.heap.size (List.replicate n 0):=by
    unfold VBlk;rw [show (icells (List.replicate n 0)).toArray=Array.replicate n (Value.int .i64 0) by simp [icells]];exact Blk.new _ _ _
   have C2:=h_ (HV.out _ wD.heap.size n (List.replicate n 0) (PtK.mono (fun k _ hk=>Nat.lt_of_lt_of_le (show k<w.heap.size from hk) hU.size) p KA kc (PtK.upd (uD.then_non uM) (fun _ _ _ f=>f) p KA kc hpW)) (by omega) hgM (by simp;omega))
   rw [List.length_replicate] at C2;unfold pv at C2;clear HV C1;refine wp_region_held_drew (S:=fun w'=>w'.cell? ⟨w.heap.size,0,none⟩=some (.int .i64 p.v)∧w'.cell? ⟨w.heap.size,1,none⟩=some (.int .i64 p.op)∧w'.cell? ⟨w.heap.size,2,none⟩=some (.int .i64 p.imm)∧w'.cell? ⟨w.heap.size,3,none⟩=some (.int .i64 p.iv)∧w'.cell? ⟨w.heap.size,4,none⟩=some (.slice KA p.kids.length kc)) (by kernel_rfl) (by rw [HwD.out];exact hS _ Upd.refl) (fun hHeld=>?_)
   rw [HwD.out] at hHeld ⊢;refine wpT 0 ?_;(try simp only [y_,z_]);refine wpT 1 ?_;(try simp only [y_,z_]);refine wpT 2 ?_;(try simp only [y_,z_]);refine aR_ (rs:=[3]) (by kernel_rfl) (by simp) ?_;refine aC_ rfl (fun K hK=>?_) aN_;go_simp;refine hK.out _ _ ?_ (fun hHeld=>?_)
   ·exact hS _ uM
   clear hK K;(try simp only [y_,z_]);refine aR_ (rs:=[4]) (by kernel_rfl) (by simp) ?_;refine aC_ rfl (fun K hK=>?_) aN_;go_simp;refine C2.out.mono ?_;rintro e w5 ⟨rfl,_,hu5⟩;have hu6:Upd Non wD w5:=uM.trans hu5 (fun k hk q=>by omega);go_wp2_with fail
   refine hK.out _ _ ?_ (fun hHeld=>?_)
   ·exact hS _ hu6
   clear hK K;(try simp only [y_,z_]);refine wpT 5 ?_;(try simp only [y_,z_]);refine aD_ (by kernel_rfl) ?_ _;go_wp2_with fail
   go_ret;exact ⟨by rw [HR3.out];rfl,hU.then_non (uD.then_non hu6)⟩
  ·have t5:decide ((p.size:Int) > 24)=true:=dT_ (by omega);have HR3:Hid (R=false):=by show _=_;rw [HR2.out,dF_ (fun q=>h24 q.2.2.2.2)];rfl
   clear HR2;go_enter Tryz.func105,Tryz.ntmps105;go_wp2_with fail
   refine C1.out.mono ?_;rintro e w2 ⟨rfl,hu2⟩;go_wp2_with fail
   go_ret;exact ⟨by rw [HR3.out];rfl,hU.then_non hu2⟩
 ·have HR3:Hid (R=false):=by show _=_;rw [HR2.out,dF_ (fun q=>h1 ⟨q.1,q.2.1,q.2.2.1,q.2.2.2.1⟩)];rfl
  obtain ⟨b1,f1⟩:∃b,decide (vars<0)=b:=⟨_,rfl⟩;obtain ⟨b2,f2⟩:∃b,decide (vars > 6)=b:=⟨_,rfl⟩;obtain ⟨b3,f3⟩:∃b,decide (imms<0)=b:=⟨_,rfl⟩;obtain ⟨b4,f4⟩:∃b,decide (imms > 6)=b:=⟨_,rfl⟩
  have HB:Hid ((b1 || b2 || b3 || b4)=true):=by
   show _=_;rw [←f1,←f2,←f3,←f4];simp;omega
  clear h1 HR2 C1 HV
  cases b1 with
  | true =>
   go_enter Tryz.func105,Tryz.ntmps105;go_wp2_with fail
   go_ret;exact ⟨by rw [HR3.out];rfl,hU⟩
  | false=>cases b2 with
   | true =>
    go_enter Tryz.func105,Tryz.ntmps105;go_wp2_with fail
    go_ret;exact ⟨by rw [HR3.out];rfl,hU⟩
   | false=>cases b3 with
    | true =>
     go_enter Tryz.func105,Tryz.ntmps105;go_wp2_with fail
     go_ret;exact ⟨by rw [HR3.out];rfl,hU⟩
    | false=>cases b4 with
     | true =>
      go_enter Tryz.func105,Tryz.ntmps105;go_wp2_with fail
      go_ret;exact ⟨by rw [HR3.out];rfl,hU⟩
     | false=>exact absurd HB.out (by simp)
def allowedF (op:Int):Bool:=decide (op=1∨(4≤op∧op≤24)∨op=27∨op=28∨op=29)
theorem allowed_ok (op:Int):allowedF op=(oSortsF op).2.2:=by
 unfold allowedF oSortsF;rw [Bool.eq_iff_iff,decide_eq_true_iff]
 (repeat' split) <;> simp <;> omega
theorem allowed_parts {op:Int} (h:(oSortsF op).2.2=true):(arityF op).1=((oSortsF op).1.length:Int)∧pSortF op=(oSortsF op).2.1∧∀i (hi:i<(oSortsF op).1.length),operandSortF op i=(oSortsF op).1[i]:=by
 have ho:op=1∨op=23∨op=24∨op=27∨op=29∨op=28∨op=20∨op=21∨op=22∨(4≤op∧op≤19):=by
  rw [←allowed_ok] at h;simp only [allowedF,decide_eq_true_iff] at h;omega
 have fin:∀(l:List Int) (x y:Int) (b:Bool),oSortsF op=(l,y,b)→(arityF op).1=(l.length:Int)→pSortF op=y→(∀i (hi:i<l.length),operandSortF op i=l[i])→(arityF op).1=((oSortsF op).1.length:Int)∧pSortF op=(oSortsF op).2.1∧∀i (hi:i<(oSortsF op).1.length),operandSortF op i=(oSortsF op).1[i]:=fun l x y b e h1 h2 h3=>by
  refine ⟨by rw [e];exact h1,by rw [e];exact h2,?_⟩;rw [e];exact h3
 rcases ho with rfl | rfl | rfl | rfl | rfl | rfl | rfl | rfl | rfl | hr
 ·exact fin [] 0 1 true rfl rfl rfl (fun i hi=>by simp at hi)
 ·exact fin [2,1] 0 1 true rfl rfl rfl (fun i hi=>by match i,hi with | 0,_=>rfl | 1,_=>rfl)
 ·exact fin [2] 0 1 true rfl rfl rfl (fun i hi=>by match i,hi with | 0,_=>rfl)
 ·exact fin [2,1] 0 2 true rfl rfl rfl (fun i hi=>by match i,hi with | 0,_=>rfl | 1,_=>rfl)
 ·exact fin [2,1] 0 2 true rfl rfl rfl (fun i hi=>by match i,hi with | 0,_=>rfl | 1,_=>rfl)
 ·exact fin [2,1,1] 0 2 true rfl rfl rfl (fun i hi=>by match i,hi with | 0,_=>rfl | 1,_=>rfl | 2,_=>rfl)
 ·exact fin [1] 0 1 true rfl rfl rfl (fun i hi=>by match i,hi with | 0,_=>rfl)
 ·exact fin [1] 0 1 true rfl rfl rfl (fun i hi=>by match i,hi with | 0,_=>rfl)
 ·exact fin [1,1,1] 0 1 true rfl rfl rfl (fun i hi=>by match i,hi with | 0,_=>rfl | 1,_=>rfl | 2,_=>rfl)
 ·have hp:pSortF op=1:=by unfold pSortF;rw [if_neg (by omega)]
  refine fin [1,1] 0 1 true ?_ ?_ hp (fun i hi=>?_)
  ·unfold oSortsF;rw [if_neg (by omega),if_neg (by omega),if_neg (by omega),if_neg (by omega),if_neg (by omega),if_pos (by omega),if_neg (by omega),if_neg (by omega)]
  ·unfold arityF;rw [if_neg (by omega),if_neg (by omega),if_pos (by omega)];rfl
  ·have : operandSortF op i=1:=by unfold operandSortF;rw [hp,if_neg (by omega)]
   rw [this]
   match i,hi with | 0,_=>rfl | 1,_=>rfl
theorem imm_ok {p:Pt} {m:Int} (hm:0≤m) (h:(oSortsF p.op).2.2=true) :
  pImmF p m=(!(decide (p.iv<0) || decide (p.iv > m))&&!(decide (p.iv > 0)&&(!decide (p.imm=0) || !hasImmF p.op) || decide (p.iv=0)&&!validImmF p.op p.imm)):=by
 have ho:p.op=1∨p.op=23∨p.op=24∨p.op=27∨p.op=29∨p.op=28∨(4≤p.op∧p.op≤22):=by
  rw [←allowed_ok] at h;simp only [allowedF,decide_eq_true_iff] at h;omega
 obtain ⟨v,op,imm,iv,kids⟩:=p;have ho:op=1∨op=23∨op=24∨op=27∨op=29∨op=28∨(4≤op∧op≤22):=ho;show _=(!(decide (iv<0) || decide (iv > m))&&!(decide (iv > 0)&&(!decide (imm=0) || !hasImmF op) || decide (iv=0)&&!validImmF op imm));by_cases h0:iv=0
 ·have e:pImmF (.mk v op imm iv kids) m=(if op=23∨op=28 then decide (0≤imm∧imm<4) else if op=27 then decide (1≤imm∧imm≤1000016) else decide (op=1∨imm=0)):=if_neg (fun q=>q h0)
  have e2:validImmF op imm=(if op=23∨op=28 then decide (0≤imm∧imm<4) else if op=27 then decide (1≤imm∧imm≤1000016) else decide (op=1∨imm=0)):=by
   unfold validImmF maxImmF;rw [Bool.eq_iff_iff]
   (repeat' split) <;> simp <;> omega
  rw [e,e2];have a1:decide (iv<0)=false:=dF_ (by omega);have a2:decide (iv > m)=false:=dF_ (by omega);have a3:decide (iv > 0)=false:=dF_ (by omega);have a4:decide (iv=0)=true:=dT_ h0;rw [a1,a2,a3,a4];simp
 ·have e:pImmF (.mk v op imm iv kids) m=(hasImmF op&&decide (imm=0∧1≤iv∧iv≤m)):=if_pos h0;have a4:decide (iv=0)=false:=dF_ h0;rw [e,a4];rw [Bool.eq_iff_iff];cases hasImmF op <;> by_cases h4:0<iv <;> by_cases h2:iv≤m <;> by_cases h3:imm=0 <;> simp [h4,h2,h3] <;> omega
theorem r15allowed_c (op:Int) (w:World):Calls Tryz.prog 149 #[.int .i64 op] w fun e w'=>e=.returned (.bool (allowedF op))∧w=w':=by
 go_enter Tryz.func149,Tryz.ntmps149
 go_wp2
 all_goals
  go_ret;refine ⟨?_,rfl⟩;show Ending.returned (Value.bool _)=_
  congr 2
  unfold allowedF
  (try simp only [beq_iff_eq,beq_eq_false_iff_ne,ne_eq] at *)
  rw [Bool.eq_iff_iff];simp;omega
theorem r15HasImm_c (op:Int) (w:World):Calls Tryz.prog 120 #[.int .i64 op] w fun e w'=>e=.returned (.bool (hasImmF op))∧w=w':=by
 go_enter Tryz.func120,Tryz.ntmps120
 go_wp2
 all_goals
  go_ret;refine ⟨?_,rfl⟩;show Ending.returned (Value.bool _)=_
  congr 2
  unfold hasImmF
  (try simp only [beq_iff_eq,beq_eq_false_iff_ne,ne_eq] at *)
  rw [Bool.eq_iff_iff];simp;omega
def leafF (sort:Int) (dp:Bool) (vars:Int) (st:Bool) (n:Int):Pt :=
 if sort=2 then .mk 1 0 0 0 []
 else if n % 12=0∧dp=true then .mk 0 1 (wordF (n.tdiv 12 % 1000) n) 0 []
 else if st then .mk (2+n.tdiv 12 % 1000 % (if vars - 1<1 then 1 else vars - 1)) 0 0 0 []
 else .mk (1+n.tdiv 12 % 1000 % vars) 0 0 0 []
def kOpF (sort:Int) (st:Bool) (n:Int):Int :=
 if sort=2 then 27+n.tdiv 12 % 1000 % 3 else if st=true∧9<n % 12 then 23 else 4+n.tdiv 12 % 1000 % 19
def kImmF (op n:Int):Int×Int :=
 if hasImmF op then (if n.tdiv 12 % 1000 % 5=0 then (if op=27 then 1 else 1 - n.tdiv 12 % 1000 % 2,0) else (0,1+n.tdiv 12 % 1000 % 2)) else (0,0)
def sortsOf (op:Int):List Int:=(List.range (arityF op).1.toNat).map fun (j:Nat)=>operandSortF op j
def kidsG (g:Int→List Int→Pt×List Int):List Int→List Int→List Pt×List Int
 | [],xs=>([],xs)
 | s::ss,xs=>((g s xs).1::(kidsG g ss (g s xs).2).1,(kidsG g ss (g s xs).2).2)
def patF (vars:Int) (st:Bool):Nat→Int→List Int→Pt×List Int
 | 0,s,xs=>(leafF s true vars st (xs.headD 0),xs.tail)
 | f+1,s,xs =>
  if xs.headD 0 % 12<3 then (leafF s (decide (f<2)) vars st (xs.headD 0),xs.tail)
  else (.mk 0 (kOpF s st (xs.headD 0)) (kImmF (kOpF s st (xs.headD 0)) (xs.headD 0)).1 (kImmF (kOpF s st (xs.headD 0)) (xs.headD 0)).2 (kidsG (patF vars st f) (sortsOf (kOpF s st (xs.headD 0))) xs.tail).1,
   (kidsG (patF vars st f) (sortsOf (kOpF s st (xs.headD 0))) xs.tail).2)
theorem kidsG_snoc (g:Int→List Int→Pt×List Int) (s:Int):∀(ss:List Int) (xs:List Int),kidsG g (ss++[s]) xs=((kidsG g ss xs).1++[(g s (kidsG g ss xs).2).1],(g s (kidsG g ss xs).2).2)
 | [],xs=>rfl
 | t::ss,xs=>by
  simp only [List.cons_append,kidsG,kidsG_snoc g s ss]
theorem kidsG_len (g:Int→List Int→Pt×List Int):∀(ss:List Int) (xs:List Int),(kidsG g ss xs).1.length=ss.length
 | [],_=>rfl
 | s::ss,xs=>by simp only [kidsG,List.length_cons,kidsG_len g ss]
theorem kidsG_size {g:Int→List Int→Pt×List Int} {B:Nat} (h:∀s xs,(g s xs).1.size≤B):∀(ss:List Int) (xs:List Int),Pt.sizeL (kidsG g ss xs).1≤B * ss.length
 | [],_=>by simp [kidsG,Pt.sizeL]
 | s::ss,xs=>by
  have h1:=kidsG_size h ss (g s xs).2;have h2:=h s xs;simp only [kidsG,Pt.sizeL,List.length_cons,Nat.mul_add];omega
theorem kOp_arity (sort:Int) (st:Bool) (n:Int):0≤(arityF (kOpF sort st n)).1∧(arityF (kOpF sort st n)).1≤3:=by
 have h1:∀k:Fin 30,0≤(arityF (k.val:Int)).1∧(arityF (k.val:Int)).1≤3:=by decide +kernel
 have h2:0≤kOpF sort st n∧kOpF sort st n<30:=by
  unfold kOpF
  split
  ·omega
  ·split
   ·omega
   ·omega
 obtain ⟨k,hk⟩:=Int.eq_ofNat_of_zero_le h2.1;rw [hk];exact h1 ⟨k,by omega⟩
theorem sortsOf_len (op:Int):(sortsOf op).length=(arityF op).1.toNat:=by unfold sortsOf;simp
theorem sortsOf_get (op:Int) (j:Nat) (h:j<(sortsOf op).length):(sortsOf op)[j]=operandSortF op j:=by simp [sortsOf]
theorem leaf_size (sort:Int) (dp:Bool) (vars:Int) (st:Bool) (n:Int):(leafF sort dp vars st n).size=1:=by
 unfold leafF
 split
 ·exact Pt.size_leaf _ _ _ _
 ·split
  ·exact Pt.size_leaf _ _ _ _
  ·split <;> exact Pt.size_leaf _ _ _ _
def kSize:Nat→Nat
 | 0=>1
 | f+1=>1+3 * kSize f
theorem patF_size (vars:Int) (st:Bool):∀(f:Nat) (s:Int) (xs:List Int),(patF vars st f s xs).1.size≤kSize f
 | 0,s,xs=>by simp only [patF,kSize,leaf_size];omega
 | f+1,s,xs=>by
  simp only [patF]
  split
  ·simp only [leaf_size,kSize];omega
  ·rw [Pt.size_eq];simp only [Pt.kids,kSize];have h:=kidsG_size (patF_size vars st f) (sortsOf (kOpF s st (xs.headD 0))) xs.tail;have h1:=kOp_arity s st (xs.headD 0);rw [sortsOf_len] at h;have h2:kSize f * (arityF (kOpF s st (xs.headD 0))).1.toNat≤kSize f * 3:=Nat.mul_le_mul (Nat.le_refl _) (by omega);omega
end Go.Proofs.YtifhejahbbnkiaaGreat
namespace Go.Proofs.YtifhejahbbnkiaaGreat
open Go.RowKit
def findG:List Int→Int→Nat→Option Nat
 | [],_,_=>none
 | y::l,x,k=>if y=x then some k else findG l x (k+1)
def lastG:List Int→Int→Nat→Int→Int
 | [],_,_,a=>a
 | y::l,x,k,a=>lastG l x (k+1) (if y=x then (k:Int) else a)
def numV (vs:List Int) (x:Int):Int×List Int :=
 match findG vs x 0 with
 | some i=>((i:Int)+1,vs)
 | none=>((vs.length:Int)+1,vs++[x])
def numI (ms:List Int) (x:Int):Int×List Int :=
 if 0<x then (if lastG ms x 0 (-1)<0 then ((ms.length:Int)+1,ms++[x]) else (lastG ms x 0 (-1)+1,ms)) else (x,ms)
mutual
def numF:Pt→List Int→List Int→Pt×List Int×List Int
 | .mk v op imm iv kids,vs,ms =>
  if 0<v then (.mk (numV vs v).1 op imm iv kids,(numV vs v).2,ms)
  else (.mk v op imm (numI ms iv).1 (numL kids vs (numI ms iv).2).1,(numL kids vs (numI ms iv).2).2.1,(numL kids vs (numI ms iv).2).2.2)
def numL:List Pt→List Int→List Int→List Pt×List Int×List Int
 | [],vs,ms=>([],vs,ms)
 | k::ks,vs,ms=>((numF k vs ms).1::(numL ks (numF k vs ms).2.1 (numF k vs ms).2.2).1,(numL ks (numF k vs ms).2.1 (numF k vs ms).2.2).2.1,(numL ks (numF k vs ms).2.1 (numF k vs ms).2.2).2.2)
end
theorem numF_var {p:Pt} (h:0<p.v) (vs ms:List Int):numF p vs ms=(.mk (numV vs p.v).1 p.op p.imm p.iv p.kids,(numV vs p.v).2,ms):=by
 cases p with
 | mk v op imm iv kids=>simp only [numF,Pt.v,Pt.op,Pt.imm,Pt.iv,Pt.kids] at h ⊢;rw [if_pos h]
theorem numF_op {p:Pt} (h:¬0<p.v) (vs ms:List Int):numF p vs ms=(.mk p.v p.op p.imm (numI ms p.iv).1 (numL p.kids vs (numI ms p.iv).2).1,(numL p.kids vs (numI ms p.iv).2).2.1,(numL p.kids vs (numI ms p.iv).2).2.2):=by
 cases p with
 | mk v op imm iv kids=>simp only [numF,Pt.v,Pt.op,Pt.imm,Pt.iv,Pt.kids] at h ⊢;rw [if_neg h]
theorem numL_snoc (k:Pt):∀(ks:List Pt) (vs ms:List Int),numL (ks++[k]) vs ms=((numL ks vs ms).1++[(numF k (numL ks vs ms).2.1 (numL ks vs ms).2.2).1],(numF k (numL ks vs ms).2.1 (numL ks vs ms).2.2).2)
 | [],vs,ms=>by simp only [List.nil_append,numL]
 | x::ks,vs,ms=>by simp only [List.cons_append,numL,numL_snoc k ks]
theorem numL_len:∀(ks:List Pt) (vs ms:List Int),(numL ks vs ms).1.length=ks.length
 | [],_,_=>by simp [numL]
 | x::ks,vs,ms=>by simp only [numL,List.length_cons,numL_len ks]
theorem numV_len (vs:List Int) (x:Int):(numV vs x).2.length≤vs.length+1:=by
 unfold numV
 split <;> simp
theorem numI_len (ms:List Int) (x:Int):(numI ms x).2.length≤ms.length+1:=by
 unfold numI
 split
 ·split <;> simp
 ·simp
mutual
theorem numF_len:∀(p:Pt) (vs ms:List Int),(numF p vs ms).2.1.length≤vs.length+p.size∧(numF p vs ms).2.2.length≤ms.length+p.size∧(numF p vs ms).1.size=p.size
 | .mk v op imm iv kids,vs,ms=>by
  simp only [numF]
  split
  ·have:=numV_len vs v;simp only [Pt.size];refine ⟨?_,?_,trivial⟩ <;> omega
  ·obtain ⟨h1,h2,h3⟩:=numL_lens kids vs (numI ms iv).2;have:=numI_len ms iv;simp only [Pt.size,h3];refine ⟨?_,?_,trivial⟩ <;> omega
theorem numL_lens:∀(ks:List Pt) (vs ms:List Int),(numL ks vs ms).2.1.length≤vs.length+Pt.sizeL ks∧(numL ks vs ms).2.2.length≤ms.length+Pt.sizeL ks∧Pt.sizeL (numL ks vs ms).1=Pt.sizeL ks
 | [],vs,ms=>by simp [numL,Pt.sizeL]
 | k::ks,vs,ms=>by
  obtain ⟨h1,h2,h3⟩:=numF_len k vs ms;obtain ⟨g1,g2,g3⟩:=numL_lens ks (numF k vs ms).2.1 (numF k vs ms).2.2;simp only [numL,Pt.sizeL,h3,g3];refine ⟨?_,?_,trivial⟩ <;> omega
end
end Go.Proofs.YtifhejahbbnkiaaGreat
namespace Go.Proofs.YtifhejahbbnkiaaGreat
open Go.RowKit
theorem T_pats:SlT Tryz.prog 36 38 5 56:=by
 obtain ⟨i,h1,h2,h3,h4⟩:=info_parts (show (Tryz.prog.info? 38).map (fun i=>(i.zero,i.size,i.bytes))=some (some (.agg #[.int .i64 0,.int .i64 0,.int .i64 0,.int .i64 0,.slice none 0 0]),5,56) from by kernel_rfl)
 exact ⟨Tryz.underlying36,⟨i,_,h1,h2,h3,h4,rfl⟩,by omega⟩
section
variable {w w':World} {F G G' S:Nat→Prop} {A:Option Addr} {L:List Pt} {n c:Nat}
def pcells (p:Pt) (KA:Option Addr) (kc:Nat):List Value:=[.int .i64 p.v,.int .i64 p.op,.int .i64 p.imm,.int .i64 p.iv,.slice KA p.kids.length kc]
def PtCells (w:World) (K:Nat→Prop) (cs:List Value) (L:List Pt):Prop :=
 cs.length=5 * L.length∧∀i (h:i<L.length),∃KA kc,(∀j,j<5→cs[5 * i+j]?=(pcells L[i] KA kc)[j]?)∧PtK w K L[i] KA kc
theorem PtCells.nil {K:Nat→Prop}:PtCells w K [] []:=⟨rfl,fun i h=>by simp at h⟩
theorem PtCells.mono {K K' S:Nat→Prop} {cs:List Value} (h:PtCells w K cs L) (u:Upd S w w') (d:∀k,k<w.heap.size→K k→¬S k) (hK:∀k,k<w.heap.size→K k→K' k):PtCells w' K' cs L:=by
 refine ⟨h.1,fun i hi=>?_⟩;obtain ⟨KA,kc,h1,h5⟩:=h.2 i hi;refine ⟨KA,kc,h1,?_⟩;have h6:=PtK.mono (G:=fun k=>K' k∧K k) (fun k hk hK0=>⟨hK k hk hK0,hK0⟩) _ _ _ h5;exact PtK.mono (fun _ _ h=>h.1) _ _ _ (PtK.upd u (fun k hk hk'=>d k hk hk'.2) _ _ _ h6)
theorem PtCells.snoc {K:Nat→Prop} {cs:List Value} (h:PtCells w K cs L) {p:Pt} {KA:Option Addr} {kc:Nat} (hk:PtK w K p KA kc) :
  PtCells w K (cs++pcells p KA kc) (L++[p]):=by
 refine ⟨by simp [h.1,pcells];omega,fun i hi=>?_⟩;have hl:=h.1;by_cases hlt:i<L.length
 ·obtain ⟨KA,kc,h1,h5⟩:=h.2 i hlt;refine ⟨KA,kc,fun j hj=>?_,?_⟩
  ·rw [List.getElem?_append_left (by omega),List.getElem_append_left hlt];exact h1 j hj
  ·rw [List.getElem_append_left hlt];exact h5
 ·have he:i=L.length:=by simp at hi;omega
  subst he;refine ⟨KA,kc,fun j hj=>?_,?_⟩
  ·rw [List.getElem?_append_right (by omega),hl];simp
  ·simpa using hk
def PtO (w:World) (G:Nat→Prop) (A:Option Addr) (n c:Nat) (L:List Pt):Prop :=
 n=L.length∧∃cs,Own w 38 5 A n c cs∧PtCells w (fun k=>G k∧¬At A k) cs L
theorem PtO.none_:PtO w G none 0 0 []:=⟨rfl,[],Own.none_,PtCells.nil⟩
theorem PtO.upd (h:PtO w G A n c L) (u:Upd S w w') (dA:∀k,At A k→¬S k) (dG:∀k,k<w.heap.size→G k→¬S k):PtO w' G A n c L:=by
 obtain ⟨h1,cs,h2,h3⟩:=h;exact ⟨h1,cs,h2.upd u dA,h3.mono u (fun k hk hg=>dG k hk hg.1) (fun _ _ h=>h)⟩
theorem PtO.mono (h:PtO w G A n c L) (hG:∀k,k<w.heap.size→G k→G' k):PtO w G' A n c L:=by
 obtain ⟨h1,cs,h2,h3⟩:=h;exact ⟨h1,cs,h2,h3.mono (Upd.refl (S:=Non)) (fun _ _ _ f=>f) (fun k hk hg=>⟨hG k hk hg.1,hg.2⟩)⟩
theorem PtO.le (h:PtO w G A n c L):n≤c:=by obtain ⟨_,_,h2,_⟩:=h;exact h2.le
theorem PtO.lt (h:PtO w G A n c L) {k:Nat} (hk:At A k):k<w.heap.size:=by obtain ⟨_,_,h2,_⟩:=h;exact h2.lt hk
theorem PtO.view (h:PtO w G A n c L) (hA:∀k,At A k→F k) (hG:∀k,k<w.heap.size→G k→F k) (v op imm iv:Int):PtK w F (.mk v op imm iv L) A c:=by
 obtain ⟨rfl,cs,h2,h3⟩:=h;rw [PtK.iff];refine ⟨h2.le,?_⟩;rcases h2.cases with ⟨_,h0,_,_⟩ | ⟨g,cur,rfl,hb,_,_,_,ht⟩
 ·exact .inl (List.eq_nil_of_length_eq_zero h0)
 ·refine .inr ⟨g,0,rfl,hA g (At.some_.2 rfl),PtL.of fun i hi=>?_⟩;have hl:=h3.1;obtain ⟨KA,kc,c1,c5⟩:=h3.2 i hi
  have hcell:∀j u,cs[j]?=some u→w.cell? ⟨g,j,none⟩=some u:=by
   intro j u hj;rw [hb.cell];rw [←ht] at hj;rw [List.getElem?_take] at hj
   split at hj
   ·simpa using hj
   ·cases hj
  have e:0+i * 5=5 * i:=by omega
  refine ⟨KA,kc,?_,?_,?_,?_,?_,PtK.mono (fun k hk hg=>hG k hk hg.1) _ _ _ c5⟩
  ·rw [e];exact hcell _ _ (c1 0 (by omega))
  ·rw [e];exact hcell _ _ (c1 1 (by omega))
  ·rw [e];exact hcell _ _ (c1 2 (by omega))
  ·rw [e];exact hcell _ _ (c1 3 (by omega))
  ·rw [e];exact hcell _ _ (c1 4 (by omega))
theorem PtO.snoc {cs:List Value} (h:PtO w G A n c L) (hc:PtCells w (fun k=>G k∧¬At A k) cs L) {p:Pt} {KA:Option Addr} {kc:Nat} (hk:PtK w (fun k=>G k∧¬At A k) p KA kc)
  {A':Option Addr} {c':Nat} (ho:Own w' 38 5 A' (n+1) c' (cs++pcells p KA kc)) (hu:Upd (At A) w w') (hat:∀k,At A' k→At A k∨k=w.heap.size) (hG:∀k,k<w.heap.size→G k→G' k) :
  PtO w' G' A' (n+1) c' (L++[p]):=by
 refine ⟨by simp [h.1],_,ho,?_⟩;refine (hc.snoc hk).mono hu (fun k _ hg=>hg.2) (fun k hk hg=>⟨hG k hk hg.1,fun hA=>?_⟩);rcases hat k hA with h | h
 ·exact hg.2 h
 ·omega
end
theorem results_cell_row_tmps {P:Program} {fn:Func} {p u v:Tmp} {ty:TypeId} (h:fn.results=#[.cell p ty,.tmp u,.tmp v]) (tmps:Array Value) (w:World) (g:Nat) (t:TypeId) (cs:Array Value) (fr:Nat×Nat) (d:TypeDesc)
  (hp:tmps.getD p undef=.pointer (some ⟨g,0,none⟩)) (hg:w.heap[g]?=some (.cells cs t fr))
  (hu:P.underlying ty=some d) (hd:(match d with | .struct _ | .array _ _=>true | _=>false)=true) (hi:(P.info? ty).map (·.size)=some cs.size) :
  (results fn tmps).run P w=.ok (.tuple #[.agg cs,tmps.getD u undef,tmps.getD v undef]) w:=by
 have hp':tmps[p]?.getD undef=.pointer (some ⟨g,0,none⟩):=by simpa using hp
 simp [results,h,hp',asAddr,run_loadVar_row w g t ty cs fr d hg hu hd hi,Result.andThen]
theorem PtK.swap {w:World} {F:Nat→Prop} {p:Pt} {KA:Option Addr} {kc:Nat} (h:PtK w F p KA kc) (a b c d:Int):PtK w F (.mk a b c d p.kids) KA kc:=by
 rw [PtK.iff] at h ⊢;exact h
def NS (w:World) (A:Option Addr) (c:Nat) (vs:List Int) (B:Option Addr) (d:Nat) (ms:List Int):Prop :=
 Own w 3 1 A vs.length c (icells vs)∧Own w 3 1 B ms.length d (icells ms)∧∀k,At A k→¬At B k
theorem NS.upd {w w':World} {S:Nat→Prop} {A B:Option Addr} {c d:Nat} {vs ms:List Int} (h:NS w A c vs B d ms) (u:Upd S w w') (hA:∀k,At A k→¬S k) (hB:∀k,At B k→¬S k):NS w' A c vs B d ms:=⟨h.1.upd u hA,h.2.1.upd u hB,h.2.2⟩
theorem findG_drop {vs:List Int} {k:Nat} (h:k<vs.length) (x:Int):findG (vs.drop k) x k=if vs[k]=x then some k else findG (vs.drop (k+1)) x (k+1):=by
 rw [List.drop_eq_getElem_cons h];rfl
theorem lastG_drop {vs:List Int} {k:Nat} (h:k<vs.length) (x a:Int):lastG (vs.drop k) x k a=lastG (vs.drop (k+1)) x (k+1) (if vs[k]=x then (k:Int) else a):=by
 rw [List.drop_eq_getElem_cons h];rfl
theorem Ints.cellA {w:World} {F:Nat→Prop} {A:Option Addr} {xs:List Int} (h:Ints w F A xs) {j:Nat} (hj:j<xs.length):∃b o,A=some ⟨b,o,none⟩∧F b∧b<w.heap.size∧w.cell? ⟨b,o+j,none⟩=some (.int .i64 xs[j]):=by
 obtain ⟨b,o,h1,h2,h3,h4⟩:=Sl.at_ (k:=j) h (by simpa using hj);exact ⟨b,o,h1,h2,h3,by simpa using h4⟩
def NumPost (w:World) (F:Nat→Prop) (A B:Option Addr) (r:Pt×List Int×List Int) (e:Ending) (w':World):Prop :=
 ∃(KA':Option Addr) (kc':Nat) (A':Option Addr) (c':Nat) (B':Option Addr) (d':Nat),
  e=.returned (.tuple #[pv r.1 KA' kc',.slice A' r.2.1.length c',.slice B' r.2.2.length d']) ∧
  PtK w' (fun k=>(F k∨w.heap.size≤k)∧¬At A' k∧¬At B' k) r.1 KA' kc'∧NS w' A' c' r.2.1 B' d' r.2.2 ∧
  (∀k,At A' k→At A k∨w.heap.size≤k)∧(∀k,At B' k→At B k∨w.heap.size≤k)∧Upd (fun k=>At A k∨At B k) w w'
set_option maxRecDepth 100000 in
set_option maxHeartbeats 4000000 in
theorem numbered_c (p:Pt):∀(w:World) (F:Nat→Prop) (KA:Option Addr) (kc:Nat) (A:Option Addr) (c:Nat) (B:Option Addr) (d:Nat) (vs ms:List Int),PtK w F p KA kc→(∀k,F k→¬At A k∧¬At B k)→NS w A c vs B d ms→vs.length+p.size≤1000000→ms.length+p.size≤1000000 →
  Calls Tryz.prog 117 #[pv p KA kc,.slice A vs.length c,.slice B ms.length d] w fun e w'=>NumPost w F A B (numF p vs ms) e w':=by
 induction p using Pt.ind with
 | h p ih =>
  intro w F KA kc A c B d vs ms hp0 hF0 hns hsv hsm;have HI:=h_ ih;have hp1:=PtK.mono (G:=fun k=>F k∧k<w.heap.size) (fun k hk h=>⟨h,hk⟩) p KA kc hp0;obtain ⟨W,HW⟩:=nm (w.alloc (.cells #[.int .i64 p.v,.int .i64 p.op,.int .i64 p.imm,.int .i64 p.iv,.slice KA p.kids.length kc] 38));have hU:Upd Non w W:=by rw [←HW.out];exact Upd.refl.alloc _
  have hb:Blk W w.heap.size 38 #[.int .i64 p.v,.int .i64 p.op,.int .i64 p.imm,.int .i64 p.iv,.slice KA p.kids.length kc]:=by rw [←HW.out];exact Blk.new _ _ _
  have hsW:W.heap.size=w.heap.size+1:=by rw [←HW.out];simp
  obtain ⟨W2,HW2⟩:=nm (W.alloc (.cells #[.int .i64 0,.int .i64 0,.int .i64 0,.int .i64 0,.slice none 0 0] 38));have hU2:Upd Non W W2:=by rw [←HW2.out];exact Upd.refl.alloc _
  have hb2:Blk W2 (w.heap.size+1) 38 #[.int .i64 0,.int .i64 0,.int .i64 0,.int .i64 0,.slice none 0 0]:=by rw [←HW2.out,←hsW];exact Blk.new _ _ _
  have hsW2:W2.heap.size=w.heap.size+2:=by rw [←HW2.out];simp [hsW]
  have hb:=hb.upd hU2 (fun f=>f);have hU0:=hU.then_non hU2;have e0:=HW.out;have e2:=HW2.out;have hpW:=PtK.upd hU0 (fun _ _ _ f=>f) p KA kc hp1;have hnsW:=hns.upd hU0 (fun _ _ f=>f) (fun _ _ f=>f);have hAlt:∀k,At A k→k<w.heap.size:=fun k h=>hns.1.lt h
  have hBlt:∀k,At B k→k<w.heap.size:=fun k h=>hns.2.1.lt h
  have HS:=h_ (Pt.size_eq p);have hkl:p.kids.length≤1000000:=by have h1:=Pt.len_le p.kids;have h2:=HS.out;omega
  have HF0:=h_ hF0;have HAL:=h_ hAlt;have HBL:=h_ hBlt;have HNV:=h_ (@numF_var p);have HNO:=h_ (@numF_op p);have hps:1≤p.size:=by have:=HS.out;omega
  obtain ⟨R,HR⟩:=nm (numF p vs ms);rw [HR.out];have c0:=hb.cell 0;have c3:=hb.cell 3;unfold pv;obtain ⟨v,Hv⟩:=nm p.v;obtain ⟨op,Hop⟩:=nm p.op;obtain ⟨imm,Himm⟩:=nm p.imm;obtain ⟨iv,Hiv⟩:=nm p.iv;obtain ⟨k,Hk⟩:=nm p.kids.length;rw [Hv.out] at c0 e0 hb HNV HNO;rw [Hop.out] at e0 hb HNV HNO;rw [Himm.out] at e0 hb HNV HNO;rw [Hiv.out] at c3 e0 hb HNV HNO;rw [Hk.out] at e0 hb hkl;rw [Hv.out,Hop.out,Himm.out,Hiv.out,Hk.out];obtain ⟨nv,Hnv⟩:=nm vs.length;obtain ⟨nm_,Hnm⟩:=nm ms.length;rw [Hnv.out] at hsv ⊢;rw [Hnm.out] at hsm ⊢;clear ih hp0 hF0 hns hp1 hAlt hBlt hU hU2;by_cases hv:0<v
  ·have hR:=HNV.out hv vs ms;rw [HR.out] at hR;have hiV:=hnsW.1.ints;have HIV:=h_ hiV;have HNS:=h_ hnsW;have HR2:=h_ hR;have tv:decide (0<v)=true:=dT_ hv;have HV0:=h_ hv;clear HNV HNO hnsW hR hiV hv c3;go_enter Tryz.func117,Tryz.ntmps117;go_wp2_with fail
   go_loopg [9] nv (fun g i wr=>∃j:Nat,Hid (g=nv - j)∧j≤nv∧i=.int .i64 j∧Hid (findG vs v 0=findG (vs.drop j) v j)∧Upd Non W2 wr)
   case atStart=>exact ⟨0,rfl,by omega,rfl,rfl,Upd.refl⟩
   case round =>
    obtain ⟨j,Hg,hj,rfl,HFD,hu⟩:=hrel;have hbr:=hb.upd hu (fun f=>f);have hbR:=hb2.upd hu (fun f=>f);have d0:=hbr.cell 0;have g0:=hbr.frozen 0;by_cases hlt:j<nv
    ·have hjl:j<vs.length:=by rw [Hnv.out];exact hlt
     obtain ⟨ba,oa,hA,_,_,z⟩:=(HIV.out.upd hu (fun _ _ _ f=>f)).cellA hjl;have HFJ:Hid (findG vs v 0=if vs[j]=v then some j else findG (vs.drop (j+1)) v (j+1)):=by show _=_;rw [HFD.out];exact findG_drop hjl v
     generalize vs[j]=y at *;have t1:decide (j<nv)=true:=dT_ hlt;have hj0:(0:Int)≤(j:Int):=by omega
     have hjn:(j:Int)<(nv:Int):=by omega
     subst hA;obtain ⟨wD,HwD⟩:=nm wr.drew;have uD:Upd Non wr wD:=by rw [←HwD.out];exact Upd.refl.drew
     have dD0:=u_ d0 uD (fun f=>f);have zD:=u_ z uD (fun f=>f);have HFL:=h_ hlt;clear hlt;go_wp2_with fail
     refine wp_region_held_drew (S:=fun w'=>w'.cell? ⟨w.heap.size,0,none⟩=some (.int .i64 v)∧w'.cell? ⟨ba,oa+j,none⟩=some (.int .i64 y)) (by kernel_rfl) (by rw [HwD.out];exact ⟨dD0,zD⟩) (fun hHeld=>?_)
     rw [HwD.out] at hHeld ⊢;by_cases hy:y=v
     ·subst hy;refine wpT 0 ?_;(try simp only [y_,z_]);refine wpT 1 ?_;(try simp only [y_,z_]);refine wpT 2 ?_;(try simp only [y_,z_]);refine wpT 3 ?_;(try simp only [y_,z_]);refine wpT 4 ?_;(try simp only [y_,z_]);refine wpT 5 ?_;(try simp only [y_,z_]);refine wpT 6 ?_;(try simp only [y_,z_]);refine aD_ (by kernel_rfl) ?_ _;have hbD:=hbr.upd uD (fun f=>f);have hbRD:=hbR.upd uD (fun f=>f);have hE:findG vs y 0=some j:=by rw [HFJ.out,if_pos rfl]
      have g0:=hbD.frozen 0;obtain ⟨X1,HX1⟩:=nm (wD.setCell ⟨w.heap.size,0,none⟩ (.int .i64 ((j:Int)+1)));have x1:=HX1.out;have hx1:Blk X1 w.heap.size 38 #[.int .i64 ((j:Int)+1),.int .i64 op,.int .i64 imm,.int .i64 iv,.slice KA k kc]:=by rw [←x1];simpa using hbD.set_ 0 (.int .i64 ((j:Int)+1))
      have v1:Upd (·=w.heap.size) wD X1:=by rw [←x1];exact updCell _ _ _ _
      have hxR:=hbRD.upd v1 (by omega);have k0:=hx1.cell 0;have k1:=hx1.cell 1;have k2:=hx1.cell 2;have k3:=hx1.cell 3;have k4:=hx1.cell 4;have r0:=hxR.cell 0;have r1:=hxR.cell 1;have r2:=hxR.cell 2;have r3:=hxR.cell 3;have r4:=hxR.cell 4;have rf:=hxR.frozen;have HE:=h_ hE;have UX:Upd (·=w.heap.size) W2 X1:=((hu.then_non uD).mono (fun _ _ f=>f.elim)).trans v1 (fun _ _ h=>h);have HXR:=h_ hxR;clear hE z zD;go_wp2_with fail
      rw [set5_eq];refine bodyPost_ret (results_cell_row_tmps rfl _ _ (w.heap.size+1) 38 _ (0,0) _ rfl (set5_blk HXR.out _ _ _ _ _) Tryz.underlying38 rfl (by kernel_rfl)) rfl ?_
      have uS:=set5_upd X1 (w.heap.size+1) (.int .i64 ((j:Int)+1)) (.int .i64 op) (.int .i64 imm) (.int .i64 iv) (.slice KA k kc);have UF:Upd (fun i=>i=w.heap.size∨i=w.heap.size+1) W2 (set5 X1 (w.heap.size+1) (.int .i64 ((j:Int)+1)) (.int .i64 op) (.int .i64 imm) (.int .i64 iv) (.slice KA k kc)):=(UX.mono (fun _ _ h=>.inl h)).trans uS (fun _ _ h=>.inr h)
      have hRe:R=(.mk ((j:Int)+1) op imm iv p.kids,vs,ms):=by rw [HR2.out];unfold numV;rw [HE.out]
      rw [hRe];have hkk:=Hk.out;refine ⟨KA,kc,_,c,B,d,?_,?_,HNS.out.upd UF (fun k h e=>by have:=HAL.out k h;omega) (fun k h e=>by have:=HBL.out k h;omega),fun k h=>.inl h,fun k h=>.inl h,(hU0.mono (fun _ _ f=>f.elim)).trans UF (fun i hi h=>by omega)⟩
      ·show _=Ending.returned (.tuple #[.agg #[_,_,_,_,.slice KA p.kids.length kc],.slice _ vs.length c,.slice B ms.length d]);rw [Hnv.out,Hnm.out,Hk.out];rfl
      ·exact PtK.swap (PtK.mono (fun i _ h=>⟨.inl h.1,HF0.out i h.1⟩) _ _ _ (PtK.upd UF (fun i hi h e=>by have:=h.2;omega) p KA kc hpW)) _ _ _ _
     ·have ty:(y==v)=false:=by simpa using hy
      have HFN:Hid (findG vs v 0=findG (vs.drop (j+1)) v (j+1)):=by show _=_;rw [HFJ.out,if_neg hy]
      clear hy;refine wpT 0 ?_;(try simp only [y_,z_]);refine wpT 1 ?_;(try simp only [y_,z_]);refine wpT 2 ?_;(try simp only [y_,z_]);refine wpT 3 ?_;(try simp only [y_,z_]);refine wpT 4 ?_;(try simp only [y_,z_]);refine wpT 5 ?_;(try simp only [y_,z_]);refine wpT 6 ?_;(try simp only [y_,z_]);refine aD_ (by kernel_rfl) ?_ _;have hltj:=HFL.out;go_wp2_with fail
      go_roundg (nv - (j+1))
      case measure=>rw [Hg.out];omega
      case rel=>exact ⟨j+1,rfl,by omega,by go_num,HFN,hu.then_non uD⟩
    ·obtain rfl:nv=j:=by omega
     have hE:findG vs v 0=none:=by rw [HFD.out,List.drop_of_length_le (by rw [Hnv.out];exact Nat.le_refl _)];rfl
     have HE:=h_ hE;have hoR:=HNS.out.1.upd hu (fun _ _ f=>f);rw [Hnv.out] at hoR;have hltr:=hb2.lt;have hsu:=hu.size;clear hE
     go_wp2_with (at_builtin;refine wpList_app rfl rfl T_ints' rfl (hoR.alloc _) rfl (Sl.new _ _ _) rfl (by simp [Value.oneCell']) (by simp only [maxLen];omega) (by omega) ?_;intro A3 c3 w3 ho3 hu3 hat3;have hb3:=(hbr.alloc (.cells #[.int .i64 v] 3)).upd hu3 (fun h=>by have:=HAL.out _ h;omega);have hbR3:=(hbR.alloc (.cells #[.int .i64 v] 3)).upd hu3 (fun h=>by have:=HAL.out _ h;omega);have d03:=hb3.cell 0;have g03:=hb3.frozen 0;obtain ⟨X1,HX1⟩:=nm (w3.setCell ⟨w.heap.size,0,none⟩ (.int .i64 ((nv:Int)+1)));have x1:=HX1.out;have hx1:Blk X1 w.heap.size 38 #[.int .i64 ((nv:Int)+1),.int .i64 op,.int .i64 imm,.int .i64 iv,.slice KA k kc]:=(by rw [←x1];simpa using hb3.set_ 0 (.int .i64 ((nv:Int)+1)));have v1:Upd (·=w.heap.size) w3 X1:=(by rw [←x1];exact updCell _ _ _ _);have hxR:=hbR3.upd v1 (by omega);have k0:=hx1.cell 0;have k1:=hx1.cell 1;have k2:=hx1.cell 2;have k3:=hx1.cell 3;have k4:=hx1.cell 4;have r0:=hxR.cell 0;have r1:=hxR.cell 1;have r2:=hxR.cell 2;have r3:=hxR.cell 3;have r4:=hxR.cell 4;have rf:=hxR.frozen)
     rw [set5_eq];refine bodyPost_ret (results_cell_row_tmps rfl _ _ (w.heap.size+1) 38 _ (0,0) _ rfl (set5_blk hxR _ _ _ _ _) Tryz.underlying38 rfl (by kernel_rfl)) rfl ?_;have uS:=set5_upd X1 (w.heap.size+1) (.int .i64 ((nv:Int)+1)) (.int .i64 op) (.int .i64 imm) (.int .i64 iv) (.slice KA k kc);have hat4:∀i,At A3 i→At A i∨i=wr.heap.size+1:=fun i h=>by simpa using hat3 i h
     have hal:Upd Non wr (wr.alloc (.cells #[.int .i64 v] 3)):=Upd.refl.alloc _;have u3X:Upd (fun i=>i=w.heap.size∨i=w.heap.size+1) w3 (set5 X1 (w.heap.size+1) (.int .i64 ((nv:Int)+1)) (.int .i64 op) (.int .i64 imm) (.int .i64 iv) (.slice KA k kc)):=(v1.mono (fun _ _ h=>.inl h)).trans uS (fun _ _ h=>.inr h)
     have UF:Upd (fun i=>At A i∨i=w.heap.size∨i=w.heap.size+1) W2 (set5 X1 (w.heap.size+1) (.int .i64 ((nv:Int)+1)) (.int .i64 op) (.int .i64 imm) (.int .i64 iv) (.slice KA k kc)) :=
      ((((hu.then_non hal).mono (fun _ _ f=>f.elim)).trans hu3 (fun _ _ h=>.inl h))).trans u3X (fun _ _ h=>.inr h)
     have hRe:R=(.mk ((nv:Int)+1) op imm iv p.kids,vs++[v],ms):=by rw [HR2.out];unfold numV;rw [HE.out,Hnv.out]
     rw [hRe];have hoF:=ho3.upd u3X (fun i h e=>by rcases hat4 i h with h | h;have:=HAL.out i h;omega;omega);rw [←icells_snoc] at hoF;have hdis:=HNS.out.2.2
     refine ⟨KA,kc,A3,c3,B,d,?_,?_,⟨by simpa [Hnv.out] using hoF,HNS.out.2.1.upd UF (fun i h e=>by
      have h1:=HBL.out i h;rcases e with e | e
      ·exact hdis i e h
      ·omega),fun i h hB=>?_⟩,fun i h=>?_,fun i h=>.inl h,(hU0.mono (fun _ _ f=>f.elim)).trans UF (fun i hi h=>by rcases h with h | h;exact .inl h;omega)⟩
     ·show _=Ending.returned (.tuple #[.agg #[_,_,_,_,.slice KA p.kids.length kc],.slice _ (vs++[v]).length c3,.slice B ms.length d]);rw [List.length_append,Hnv.out,Hnm.out,Hk.out];rfl
     ·refine PtK.swap (PtK.mono (G:=fun i=>(F i∨w.heap.size≤i)∧¬At A3 i∧¬At B i) (fun i _ h=>⟨.inl h.1,fun h3=>?_,(HF0.out i h.1).2⟩) _ _ _ (PtK.upd UF (fun i hi h e=>by
       have h1:=HF0.out i h.1;have h2:=h.2;rcases e with e | e
       ·exact h1.1 e
       ·omega) p KA kc hpW)) _ _ _ _
      rcases hat4 i h3 with h3 | h3
      ·exact (HF0.out i h.1).1 h3
      ·have:=h.2;omega
     ·rcases hat4 i h with h | h
      ·exact hdis i h hB
      ·have:=HBL.out i hB;omega
     ·rcases hat4 i h with h | h
      ·exact .inl h
      ·exact .inr (by omega)
  ·have hR:=HNO.out hv vs ms;rw [HR.out] at hR;have HIM:=h_ hnsW.2.1.ints;have HNS:=h_ hnsW;have tv:decide (0<v)=false:=dF_ hv;have HV0:=h_ hv;obtain ⟨iv1,Hiv1⟩:=nm (numI ms iv).1;obtain ⟨msI,HmsI⟩:=nm (numI ms iv).2;rw [Hiv1.out,HmsI.out] at hR;have HNI:Hid ((iv1,msI)=numI ms iv):=by show _=_;rw [←Hiv1.out,←HmsI.out]
   unfold numI at HNI;have hIl:=numI_len ms iv;rw [HmsI.out,Hnm.out] at hIl;have HR2:=h_ hR;clear HNV HNO hnsW hR hv;go_enter Tryz.func117,Tryz.ntmps117
   go_upto_region 11 with fail
   go_cut [50] (fun t wx=>t=.bool (decide (0<iv))∧W2=wx)
   case first =>
    go_wp2_with fail
    go_meet
    case rel=>exact ⟨rfl,rfl⟩
   case rest =>
   obtain ⟨rfl,rfl⟩:=hcut;obtain ⟨tb,Htb⟩:=nm (decide (0<iv));rw [Htb.out]
   go_upto_if 50 with fail
   go_cut [2,10,11] (fun s2 _ _ wx=>∃(B1:Option Addr) (d1:Nat),s2=.slice B1 msI.length d1∧Hid (NS wx A c vs B1 d1 msI)∧Hid (∀i,At B1 i→At B i∨w.heap.size+2≤i)∧Blk wx w.heap.size 38 #[.int .i64 v,.int .i64 op,.int .i64 imm,.int .i64 iv1,.slice KA k kc]∧Upd (fun i=>At B i∨i=w.heap.size) W2 wx)
   case first =>
    by_cases hiv:0<iv
    ·have tiv:tb=true:=by rw [←Htb.out];exact dT_ hiv
     subst tiv;have hni:=HNI.out;rw [if_pos hiv] at hni;have HNI2:=h_ hni;clear hni hiv;go_wp2_with fail
     go_loopg [10,11] nm_ (fun g s i wr=>∃(j:Nat) (a:Int),Hid (g=nm_ - j)∧j≤nm_∧i=.int .i64 j∧s=.int .i64 a ∧ -1≤a∧a<nm_∧Hid (lastG ms iv 0 (-1)=lastG (ms.drop j) iv j a)∧Upd Non W2 wr)
     case atStart=>exact ⟨0,-1,rfl,by omega,rfl,rfl,by omega,by omega,rfl,Upd.refl⟩
     case round =>
      obtain ⟨j,a,Hg,hj,rfl,rfl,ha1,ha2,HFD,hu⟩:=hrel;have hbr:=hb.upd hu (fun f=>f);have d3:=hbr.cell 3;have g3:=hbr.frozen 3;by_cases hlt:j<nm_
      ·have hjl:j<ms.length:=by rw [Hnm.out];exact hlt
       obtain ⟨ba,oa,hB,_,_,z⟩:=(HIM.out.upd hu (fun _ _ _ f=>f)).cellA hjl;have HFJ:Hid (lastG ms iv 0 (-1)=lastG (ms.drop (j+1)) iv (j+1) (if ms[j]=iv then (j:Int) else a)):=by show _=_;rw [HFD.out];exact lastG_drop hjl iv a
       generalize ms[j]=y at *;have t1:decide (j<nm_)=true:=dT_ hlt;have hj0:(0:Int)≤(j:Int):=by omega
       have hjn:(j:Int)<(nm_:Int):=by omega
       subst hB;obtain ⟨wD,HwD⟩:=nm wr.drew;have uD:Upd Non wr wD:=by rw [←HwD.out];exact Upd.refl.drew
       have dD0:=u_ d3 uD (fun f=>f);have zD:=u_ z uD (fun f=>f);have HFL:=h_ hlt;have HA1:=h_ ha1;clear hlt ha1;go_wp2_with fail
       refine wp_region_held_drew (S:=fun w'=>w'.cell? ⟨w.heap.size,3,none⟩=some (.int .i64 iv)∧w'.cell? ⟨ba,oa+j,none⟩=some (.int .i64 y)) (by kernel_rfl) (by rw [HwD.out];exact ⟨dD0,zD⟩) (fun hHeld=>?_)
       rw [HwD.out] at hHeld ⊢;by_cases hy:y=iv
       ·subst hy;have HFK:Hid (lastG ms y 0 (-1)=lastG (ms.drop (j+1)) y (j+1) (j:Int)):=by show _=_;rw [HFJ.out,if_pos rfl]
        refine wpT 0 ?_;(try simp only [y_,z_]);refine wpT 1 ?_;(try simp only [y_,z_]);refine wpT 2 ?_;(try simp only [y_,z_]);refine wpT 3 ?_;(try simp only [y_,z_]);refine wpT 4 ?_;(try simp only [y_,z_]);refine wpT 5 ?_;(try simp only [y_,z_]);refine wpT 6 ?_;(try simp only [y_,z_]);refine aD_ (by kernel_rfl) ?_ _;have hltj:=HFL.out;go_wp2_with fail
        go_roundg (nm_ - (j+1))
        case measure=>rw [Hg.out];omega
        case rel=>exact ⟨j+1,j,rfl,by omega,by go_num,rfl,by omega,hjn,HFK,hu.then_non uD⟩
       ·have ty:(y==iv)=false:=by simpa using hy
        have HFK:Hid (lastG ms iv 0 (-1)=lastG (ms.drop (j+1)) iv (j+1) a):=by show _=_;rw [HFJ.out,if_neg hy]
        clear hy;refine wpT 0 ?_;(try simp only [y_,z_]);refine wpT 1 ?_;(try simp only [y_,z_]);refine wpT 2 ?_;(try simp only [y_,z_]);refine wpT 3 ?_;(try simp only [y_,z_]);refine wpT 4 ?_;(try simp only [y_,z_]);refine wpT 5 ?_;(try simp only [y_,z_]);refine wpT 6 ?_;(try simp only [y_,z_]);refine aD_ (by kernel_rfl) ?_ _;have hltj:=HFL.out;go_wp2_with fail
        go_roundg (nm_ - (j+1))
        case measure=>rw [Hg.out];omega
        case rel=>exact ⟨j+1,a,rfl,by omega,by go_num,rfl,HA1.out,ha2,HFK,hu.then_non uD⟩
      ·obtain rfl:nm_=j:=by omega
       have HE:Hid (lastG ms iv 0 (-1)=a):=by show _=_;rw [HFD.out,List.drop_of_length_le (by rw [Hnm.out];exact Nat.le_refl _)];rfl
       have t1:decide (nm_<nm_)=false:=by simp
       rw [HE.out] at HNI2;have hbm:=HNS.out.upd hu (fun _ _ f=>f) (fun _ _ f=>f);have hsu:=hu.size;by_cases h0:a<0
       ·have t2:decide (a<0)=true:=dT_ h0;have hni:=HNI2.out;rw [if_pos h0,Hnm.out] at hni;have HI1:Hid (iv1=(nm_:Int)+1):=congrArg Prod.fst hni;have HI2:Hid (msI=ms++[iv]):=congrArg Prod.snd hni;have hoR:=hbm.2.1;rw [Hnm.out] at hoR;have HBM:=h_ hbm;clear hni h0 hbm
        go_wp2_with (at_builtin;refine wpList_app rfl rfl T_ints' rfl (hoR.alloc _) rfl (Sl.new _ _ _) rfl (by simp [Value.oneCell']) (by simp only [maxLen];omega) (by omega) ?_;intro B3 d3' w3 ho3 hu3 hat3;have hb3:=(hbr.alloc (.cells #[.int .i64 iv] 3)).upd hu3 (fun h=>by have:=HBL.out _ h;omega);have d03:=hb3.cell 3;have g03:=hb3.frozen 3)
        go_meet
        case rel =>
         have v1:Upd (·=w.heap.size) w3 (w3.setCell ⟨w.heap.size,3,none⟩ (.int .i64 ((nm_:Int)+1))):=updCell _ _ _ _
         have hx1:Blk (w3.setCell ⟨w.heap.size,3,none⟩ (.int .i64 ((nm_:Int)+1))) w.heap.size 38 #[.int .i64 v,.int .i64 op,.int .i64 imm,.int .i64 iv1,.slice KA k kc]:=by
          rw [HI1.out];simpa using hb3.set_ 3 (.int .i64 ((nm_:Int)+1))
         have hat4:∀i,At B3 i→At B i∨i=wr.heap.size+1:=fun i h=>by simpa using hat3 i h
         have hal:Upd Non wr (wr.alloc (.cells #[.int .i64 iv] 3)):=Upd.refl.alloc _;have hdis:=HNS.out.2.2;refine ⟨B3,d3',by rw [HI2.out,List.length_append,Hnm.out];rfl,⟨((HBM.out.1.alloc _).upd hu3 hdis).upd v1 (fun i h e=>by have:=HAL.out i h;omega),?_,fun i h hB=>?_⟩,fun i h=>?_,hx1,((hu.then_non hal).mono (fun _ _ f=>f.elim)).trans (hu3.mono (fun _ _ h=>.inl h)) (fun _ _ h=>h) |>.trans v1 (fun _ _ h=>.inr h)⟩
         ·have h1:=ho3.upd v1 (fun i h e=>by rcases hat4 i h with h | h;have:=HBL.out i h;omega;omega);rw [←icells_snoc] at h1;rw [HI2.out];simpa [Hnm.out] using h1
         ·rcases hat4 i hB with h3 | h3
          ·exact hdis i h h3
          ·have:=HAL.out i h;omega
         ·rcases hat4 i h with h3 | h3
          ·exact .inl h3
          ·exact .inr (by omega)
       ·have t2:decide (a<0)=false:=dF_ h0;have hni:=HNI2.out;rw [if_neg h0] at hni;have HI1:Hid (iv1=a+1):=congrArg Prod.fst hni;have HI2:Hid (msI=ms):=congrArg Prod.snd hni;have HBM:=h_ hbm;have hsm0:nm_≤1000000:=by omega
        clear hni h0 hbm;go_wp2_with fail
        go_meet
        case rel =>
         have v1:Upd (·=w.heap.size) wr (wr.setCell ⟨w.heap.size,3,none⟩ (.int .i64 (a+1))):=updCell _ _ _ _
         have hx1:Blk (wr.setCell ⟨w.heap.size,3,none⟩ (.int .i64 (a+1))) w.heap.size 38 #[.int .i64 v,.int .i64 op,.int .i64 imm,.int .i64 iv1,.slice KA k kc]:=by
          rw [HI1.out];simpa using hbr.set_ 3 (.int .i64 (a+1))
         refine ⟨B,d,by rw [HI2.out,Hnm.out],?_,fun i h=>.inl h,hx1,(hu.mono (fun _ _ f=>f.elim)).trans v1 (fun _ _ h=>.inr h)⟩;rw [HI2.out];exact HBM.out.upd v1 (fun i h e=>by have:=HAL.out i h;omega) (fun i h e=>by have:=HBL.out i h;omega)
    ·have tiv:tb=false:=by rw [←Htb.out];exact dF_ hiv
     subst tiv;have hni:=HNI.out;rw [if_neg hiv] at hni;have h1:iv1=iv:=congrArg Prod.fst hni;have h2:msI=ms:=congrArg Prod.snd hni;subst h1 h2;clear hiv hni;go_wp2_with fail
     go_meet
     case rel=>exact ⟨B,d,by rw [Hnm.out],HNS,fun i h=>.inl h,hb,Upd.refl⟩
   case rest =>
   obtain ⟨B0,d0,rfl,hns0,hat0,hb0,hu0⟩:=hcut;obtain ⟨w1,rfl⟩:∃w1:World,w1=wc:=⟨_,rfl⟩;have hbR0:=hb2.upd hu0 (fun h=>by rcases h with h | h;have:=HBL.out _ h;omega;omega)
   have hpK0:=PtK.upd hu0 (fun i hi h e=>by
    have h1:=HF0.out i h.1;have h2:=h.2;rcases e with e | e
    ·exact h1.2 e
    ·omega) p KA kc hpW
   have c4:=hb0.cell 4;have hs1:=hu0.size;clear hb hb2 hpW c0 c3 e0 e2;obtain ⟨w2,Hw2⟩:=nm (w1.alloc (.cells #[] 38));have uw2:Upd Non w1 w2:=by rw [←Hw2.out];exact Upd.refl.alloc _
   have hsw2:w2.heap.size=w1.heap.size+1:=by rw [←Hw2.out];simp
   have hK0:Own w2 38 5 (some ⟨w1.heap.size,0,none⟩) 0 0 []:=Own.mk_ (cur:=#[]) (by rw [←Hw2.out];exact Blk.new _ _ _) (by omega) (by simp [maxLen]) rfl rfl
   obtain ⟨F0,HF0e⟩:∃F0:Nat→Prop,Hid (F0=fun i=>F i∧i<w.heap.size):=⟨_,rfl⟩;have HL:=h_ (fun (ks:List Pt)=>numL_lens ks vs msI);have hml:msI.length≤ms.length+1:=by rw [Hnm.out];exact hIl
   go_wp2_with fail
   rw [Hw2.out]
   go_loopg [1,2,12,13,14] k (fun g s1 s2 s12 i _ wr=>∃(j:Nat) (A1:Option Addr) (c1:Nat) (B1:Option Addr) (d1:Nat) (KS:Option Addr) (ks:Nat) (L:List Pt) (vs1 ms1:List Int),
    Hid (g=k - j)∧j≤k∧s1=.slice A1 vs1.length c1∧s2=.slice B1 ms1.length d1∧s12=.slice KS j ks∧i=.int .i64 j ∧
    Hid ((L,vs1,ms1)=numL (p.kids.take j) vs msI)∧Hid (NS wr A1 c1 vs1 B1 d1 ms1) ∧
    Hid (PtO wr (fun i=>(F0 i∨w.heap.size+2≤i)∧¬At A1 i∧¬At B1 i) KS j ks L) ∧
    Hid (∀i,At A1 i→At A i∨w1.heap.size≤i)∧Hid (∀i,At B1 i→At B0 i∨w1.heap.size≤i)∧Hid (∀i,At KS i→w1.heap.size≤i∧¬At A1 i∧¬At B1 i) ∧
    Upd (fun i=>At A i∨At B0 i) w1 wr)
   case atStart =>
    refine ⟨0,A,c,B0,d0,_,0,[],vs,msI,rfl,by omega,by rw [Hnv.out],rfl,rfl,rfl,rfl,hns0.upd uw2 (fun _ _ f=>f) (fun _ _ f=>f),⟨rfl,_,hK0,PtCells.nil⟩,fun i h=>.inl h,fun i h=>.inl h,fun i h=>?_,uw2.mono (fun _ _ f=>f.elim)⟩
    rw [At.some_] at h;subst h;refine ⟨by omega,fun hA=>?_,fun hB=>?_⟩
    ·have:=HAL.out _ hA;omega
    ·have:=hns0.2.1.lt hB;omega
   case round =>
    obtain ⟨j,A1,c1,B1,d1,KS,ks,L,vs1,ms1,Hg,hj,rfl,rfl,rfl,rfl,HN,HNS1,HPO,HA1,HB1,HKS,hu⟩:=hrel;by_cases hlt:j<k
    ·have hjk:j<p.kids.length:=by rw [Hk.out];exact hlt
     have t1:decide (j<k)=true:=dT_ hlt
     have hbr:=hb0.upd hu (fun h=>by
      rcases h with h | h
      ·have:=HAL.out _ h;omega
      ·rcases hat0.out _ h with h | h
       ·have:=HBL.out _ h;omega
       ·omega)
     have c4r:=hbr.cell 4;have hsu:=hu.size
     go_upto_region 27 with fail
     obtain ⟨w5,Hw5⟩:=nm (wr.alloc (.cells #[.int .i64 0,.int .i64 0,.int .i64 0,.int .i64 0,.slice none 0 0] 38));have u5:Upd Non wr w5:=by rw [←Hw5.out];exact Upd.refl.alloc _
     have hs5:w5.heap.size=wr.heap.size+1:=by rw [←Hw5.out];simp
     have hB5:Blk w5 wr.heap.size 38 #[.int .i64 0,.int .i64 0,.int .i64 0,.int .i64 0,.slice none 0 0]:=by rw [←Hw5.out];exact Blk.new _ _ _
     have hpk:=PtK.upd hu (fun i hi h e=>by
      have h1:=HF0.out i h.1;have h2:=h.2;rcases e with e | e
      ·exact h1.1 e
      ·rcases hat0.out _ e with e | e
       ·exact h1.2 e
       ·omega) _ _ _ hpK0
     have hpk:=PtK.upd u5 (fun _ _ _ f=>f) _ _ _ hpk;obtain ⟨bk,ok,hKA,hFk,hbw,KQ,kq,h0,h1,h2,h3,h4,hqk⟩:=hpk.at_ hjk;have HTK:Hid (p.kids.take (j+1)=p.kids.take j++[p.kids[j]]):=take_snoc_ hjk
     have hqs:p.kids[j].size≤Pt.sizeL (p.kids.take (j+1))∧Pt.sizeL (p.kids.take j)+p.kids[j].size≤Pt.sizeL p.kids:=by
      have e1:=Pt.sizeL_take p.kids j hjk;have e2:=Pt.sizeL_take_le p.kids (j+1);omega
     have CI:=HI.out p.kids[j] (List.getElem_mem hjk) w5 F0 KQ kq A1 c1 B1 d1 vs1 ms1;generalize p.kids[j]=q at *;have hll:=HL.out (p.kids.take j);rw [←HN.out] at hll;have hse:=HS.out;have hnv:=Hnv.out;have hnm:=Hnm.out;have hF0:=HF0e.out
     have hF01:∀i,F0 i→¬At A1 i∧¬At B1 i:=by
      intro i hi;rw [hF0] at hi;refine ⟨fun h=>?_,fun h=>?_⟩
      ·rcases HA1.out i h with h | h
       ·exact (HF0.out i hi.1).1 h
       ·have:=hi.2;omega
      ·rcases HB1.out i h with h | h
       ·rcases hat0.out _ h with h | h
        ·exact (HF0.out i hi.1).2 h
        ·have:=hi.2;omega
       ·have:=hi.2;omega
     have hns5:=HNS1.out.upd u5 (fun _ _ f=>f) (fun _ _ f=>f);have C1:=h_ (CI (by rw [hF0];exact hqk) hF01 hns5 (by have:=hll.1;simp only at this;omega) (by have:=hll.2.1;simp only at this;omega))
     have HNE:Hid (numL (p.kids.take (j+1)) vs msI=(L++[(numF q vs1 ms1).1],(numF q vs1 ms1).2)):=by
      show _=_;rw [HTK.out,numL_snoc,←HN.out]
     obtain ⟨Rq,HRq⟩:=nm (numF q vs1 ms1);rw [HRq.out] at C1 HNE;have HQ:=h_ hqk;have c4r:=hbr.upd u5 (fun f=>f) |>.cell 4;rw [Hw5.out];clear CI hF0 hns5 hqk hpk hll hse hqs hF01 hnv hnm;subst hKA;go_wp2_with fail
     refine C1.out.mono ?_;rintro e w7 ⟨KA',kc',A2,c2,B2,d2,rfl,hq7,hn7,ha7,hb7,u7⟩;have HQ7:=h_ hq7;have HN7:=h_ hn7;have HA7:=h_ ha7;have HB7:=h_ hb7;obtain ⟨q',Hq'⟩:=nm Rq.1;obtain ⟨vs2,Hvs2⟩:=nm Rq.2.1;obtain ⟨ms2,Hms2⟩:=nm Rq.2.2;rw [Hq'.out] at HQ7;rw [Hvs2.out,Hms2.out] at HN7;rw [Hq'.out,Hvs2.out,Hms2.out]
     have hA5:∀i,At A1 i∨At B1 i→i<wr.heap.size:=fun i h=>by
      rcases h with h | h
      ·exact HNS1.out.1.lt h
      ·exact HNS1.out.2.1.lt h
     have hB7:=hB5.upd u7 (fun h=>by have:=hA5 _ h;omega);have r0:=hB7.cell 0;have r1:=hB7.cell 1;have r2:=hB7.cell 2;have r3:=hB7.cell 3;have r4:=hB7.cell 4;have rf:=hB7.frozen;have HB7b:=h_ hB7;clear hq7 hn7 ha7 hb7 hB7 h0 h1 h2 h3 h4 c4r hbr;unfold pv
     go_upto_region 28 with fail
     rw [set5_eq];obtain ⟨w8,Hw8⟩:=nm (set5 w7 wr.heap.size (.int .i64 q'.v) (.int .i64 q'.op) (.int .i64 q'.imm) (.int .i64 q'.iv) (.slice KA' q'.kids.length kc'));have u8:Upd (·=wr.heap.size) w7 w8:=by rw [←Hw8.out];exact set5_upd _ _ _ _ _ _ _
     have b8:Blk w8 wr.heap.size 38 #[.int .i64 q'.v,.int .i64 q'.op,.int .i64 q'.imm,.int .i64 q'.iv,.slice KA' q'.kids.length kc']:=by rw [←Hw8.out];exact set5_blk HB7b.out _ _ _ _ _
     rw [Hw8.out];have s0:=b8.cell 0;have s1:=b8.cell 1;have s2:=b8.cell 2;have s3:=b8.cell 3;have s4:=b8.cell 4;have hs7:=u7.size;have hs8:=u8.size;have hKS:=HKS.out;have hKlt:∀i,At KS i→i<wr.heap.size:=fun i h=>HPO.out.lt h
     have hA2w:∀i,At A2 i→At A1 i∨w5.heap.size≤i:=HA7.out;have hB2w:∀i,At B2 i→At B1 i∨w5.heap.size≤i:=HB7.out
     have hn7l:∀i,At A2 i∨At B2 i→i<w7.heap.size:=fun i h=>by
      rcases h with h | h
      ·exact HN7.out.1.lt h
      ·exact HN7.out.2.1.lt h
     have hp0:=HPO.out.mono (G':=fun i=>(F0 i∨w.heap.size+2≤i)∧¬At A2 i∧¬At B2 i∧¬At A1 i∧¬At B1 i∧i<wr.heap.size) (fun i hi h =>
      ⟨h.1,fun f=>by rcases hA2w i f with f | f;exact h.2.1 f;omega,fun f=>by rcases hB2w i f with f | f;exact h.2.2 f;omega,h.2.1,h.2.2,hi⟩)
     have hp8:=(((hp0.upd u5 (fun _ _ f=>f) (fun _ _ _ f=>f)).upd u7 (fun i h e=>by rcases e with e | e;exact (hKS i h).2.1 e;exact (hKS i h).2.2 e) (fun i _ h e=>by
      rcases e with e | e
      ·exact h.2.2.2.1 e
      ·exact h.2.2.2.2.1 e)).upd u8 (fun i h e=>by have:=hKlt i h;omega) (fun i _ h e=>by have:=h.2.2.2.2.2;omega)).mono (G':=fun i=>(F0 i∨w.heap.size+2≤i)∧¬At A2 i∧¬At B2 i) (fun i _ h=>⟨h.1,h.2.1,h.2.2.1⟩)
     have hF0w:∀i,F0 i→i<w.heap.size:=fun i h=>by rw [HF0e.out] at h;exact h.2
     have hq8:PtK w8 (fun i=>((F0 i∨w.heap.size+2≤i)∧¬At A2 i∧¬At B2 i)∧¬At KS i) q' KA' kc' :=
      PtK.mono (fun i _ h=>⟨⟨by rcases h.1 with h | h;exact .inl h;exact .inr (by omega),h.2.1,h.2.2⟩,fun f=>by
       have h3:=(hKS i f).1;have h4:=hKlt i f;rcases h.1 with h | h
       ·have:=hF0w i h;omega
       ·omega⟩) _ _ _ (PtK.upd u8 (fun i hi h e=>by
        rcases h.1 with h | h
        ·have:=hF0w i h;omega
        ·omega) _ _ _ HQ7.out)
     have hn8:=HN7.out.upd u8 (fun i h e=>by rcases hA2w i h with h | h;have:=hA5 i (.inl h);omega;omega) (fun i h e=>by rcases hB2w i h with h | h;have:=hA5 i (.inr h);omega;omega)
     obtain ⟨hnL,cs,ho8,hc8⟩:=id hp8;have HP8:=h_ hp8;have HC8:=h_ hc8;have HQ8:=h_ hq8;have HN8:=h_ hn8;have HA2w:=h_ hA2w;have HB2w:=h_ hB2w;have HKSb:=h_ hKS;have HKlt:=h_ hKlt;have HF0w:=h_ hF0w;have HA5:=h_ hA5;have Hn7l:=h_ hn7l;clear hp0 hp8 hc8 hq8 hn8 hA2w hB2w hKS hKlt hF0w hA5 hn7l b8 hnL r0 r1 r2 r3 r4 rf
     go_wp2_with (at_builtin;refine wpList_app rfl rfl T_pats rfl (ho8.alloc _) rfl (Sl.new _ _ _) rfl (by simp [Value.oneCell']) (by simp only [maxLen];omega) (by omega) ?_;intro A9 c9 w9 ho9 hu9 hat9)
     have hal:Upd Non w8 (w8.alloc (.cells #[.int .i64 q'.v,.int .i64 q'.op,.int .i64 q'.imm,.int .i64 q'.iv,.slice KA' q'.kids.length kc'] 38)):=Upd.refl.alloc _
     have hat9b:∀i,At A9 i→At KS i∨i=w8.heap.size+1:=fun i h=>by simpa using hat9 i h
     have hpa:=HP8.out.upd hal (fun _ _ f=>f) (fun _ _ _ f=>f);have hp9:=PtO.snoc (G':=fun i=>(F0 i∨w.heap.size+2≤i)∧¬At A2 i∧¬At B2 i) hpa (HC8.out.mono hal (fun _ _ _ f=>f) (fun _ _ h=>h)) (PtK.upd hal (fun _ _ _ f=>f) _ _ _ HQ8.out) ho9 hu9 hat9 (fun _ _ h=>h)
     have hn9:=(HN8.out.upd hal (fun _ _ f=>f) (fun _ _ f=>f)).upd hu9 (fun i h e=>by
      rcases HA2w.out i h with h | h
      ·exact (HKSb.out i e).2.1 h
      ·have:=HKlt.out i e;omega) (fun i h e=>by
      rcases HB2w.out i h with h | h
      ·exact (HKSb.out i e).2.2 h
      ·have:=HKlt.out i e;omega)
     have HU9:Upd (fun i=>At A i∨At B0 i) w1 w9:=by
      refine Upd.trans (Upd.then_non (Upd.trans (Upd.trans (hu.then_non u5) u7 ?_) u8 ?_) hal) hu9 ?_
      ·intro i hi h;rcases h with h | h
       ·rcases HA1.out i h with h | h
        ·exact .inl h
        ·omega
       ·rcases HB1.out i h with h | h
        ·exact .inr h
        ·omega
      ·intro i hi h;omega
      ·intro i hi h;have:=(HKSb.out i h).1;omega
     have HN1:Hid ((L++[q'],vs2,ms2)=numL (p.kids.take (j+1)) vs msI):=by
      show _=_;rw [HNE.out,←Hq'.out,←Hvs2.out,←Hms2.out]
     have HN9:=h_ hn9;have HP9:=h_ hp9
     have HA9:Hid (∀i,At A2 i→At A i∨w1.heap.size≤i):=fun i h=>by
      rcases HA2w.out i h with h | h
      ·exact HA1.out i h
      ·exact .inr (by omega)
     have HB9:Hid (∀i,At B2 i→At B0 i∨w1.heap.size≤i):=fun i h=>by
      rcases HB2w.out i h with h | h
      ·exact HB1.out i h
      ·exact .inr (by omega)
     have HK9:Hid (∀i,At A9 i→w1.heap.size≤i∧¬At A2 i∧¬At B2 i):=fun i h=>by
      rcases hat9b i h with h | h
      ·have h1:=HKSb.out i h;have h2:=HKlt.out i h;refine ⟨h1.1,fun f=>?_,fun f=>?_⟩
       ·rcases HA2w.out i f with f | f
        ·exact h1.2.1 f
        ·omega
       ·rcases HB2w.out i f with f | f
        ·exact h1.2.2 f
        ·omega
      ·refine ⟨by omega,fun f=>?_,fun f=>?_⟩
       ·have:=Hn7l.out i (.inl f);omega
       ·have:=Hn7l.out i (.inr f);omega
     clear hn9 hp9 hpa ho9 hu9 hat9 hat9b ho8
     go_roundg (k - (j+1))
     case measure=>rw [Hg.out];omega
     case rel=>exact ⟨j+1,A2,c2,B2,d2,A9,c9,_,vs2,ms2,rfl,by omega,rfl,rfl,rfl,by go_num,HN1,HN9,HP9,HA9,HB9,HK9,HU9⟩
    ·obtain rfl:k=j:=by omega
     have HTK:Hid (p.kids.take k=p.kids):=List.take_of_length_le (by rw [Hk.out];exact Nat.le_refl _);rw [HTK.out] at HN;have t1:decide (k<k)=false:=by simp
     have hbox:∀i,At A i∨At B0 i→i≠w.heap.size∧i≠w.heap.size+1:=fun i h=>by
      rcases h with h | h
      ·have:=HAL.out _ h;omega
      ·rcases hat0.out _ h with h | h
       ·have:=HBL.out _ h;omega
       ·omega
     have hbr:=hb0.upd hu (fun h=>(hbox _ h).1 rfl);have hbR:=hbR0.upd hu (fun h=>(hbox _ h).2 rfl);have c4r:=hbr.cell 4;have f4r:=hbr.frozen 4;obtain ⟨X1,HX1⟩:=nm (wr.setCell ⟨w.heap.size,4,none⟩ (.slice KS k ks));have x1:=HX1.out;have hx1:Blk X1 w.heap.size 38 #[.int .i64 v,.int .i64 op,.int .i64 imm,.int .i64 iv1,.slice KS k ks]:=by rw [←x1];simpa using hbr.set_ 4 (.slice KS k ks)
     have v1:Upd (·=w.heap.size) wr X1:=by rw [←x1];exact updCell _ _ _ _
     have hxR:=hbR.upd v1 (by omega);have k0:=hx1.cell 0;have k1:=hx1.cell 1;have k2:=hx1.cell 2;have k3:=hx1.cell 3;have k4:=hx1.cell 4;have r0:=hxR.cell 0;have r1:=hxR.cell 1;have r2:=hxR.cell 2;have r3:=hxR.cell 3;have r4:=hxR.cell 4;have rf:=hxR.frozen;have HXR:=h_ hxR;have Hbox:=h_ hbox;clear hbox hxR hbr hbR hx1;go_wp2_with fail
     rw [set5_eq];refine bodyPost_ret (results_cell_row_tmps rfl _ _ (w.heap.size+1) 38 _ (0,0) _ rfl (set5_blk HXR.out _ _ _ _ _) Tryz.underlying38 rfl (by kernel_rfl)) rfl ?_
     have uS:=set5_upd X1 (w.heap.size+1) (.int .i64 v) (.int .i64 op) (.int .i64 imm) (.int .i64 iv1) (.slice KS k ks);obtain ⟨X2,HX2⟩:=nm (set5 X1 (w.heap.size+1) (.int .i64 v) (.int .i64 op) (.int .i64 imm) (.int .i64 iv1) (.slice KS k ks));rw [HX2.out] at uS ⊢;have UX:Upd (fun i=>i=w.heap.size∨i=w.heap.size+1) wr X2:=(v1.mono (fun _ _ h=>.inl h)).trans uS (fun _ _ h=>.inr h);have hlen:=numL_len p.kids vs msI;rw [←HN.out,Hk.out] at hlen;simp only at hlen;have hRe:R=(.mk v op imm iv1 L,vs1,ms1):=by rw [HR2.out,←HN.out]
     have hF0w:∀i,F0 i→i<w.heap.size:=fun i h=>by rw [HF0e.out] at h;exact h.2
     have hF0F:∀i,F0 i→F i:=fun i h=>by rw [HF0e.out] at h;exact h.1
     have hA1:∀i,At A1 i→i≠w.heap.size∧i≠w.heap.size+1:=fun i h=>by
      rcases HA1.out i h with h | h
      ·have:=HAL.out _ h;omega
      ·omega
     have hB1:∀i,At B1 i→(At B i∨w.heap.size+2≤i):=fun i h=>by
      rcases HB1.out i h with h | h
      ·exact hat0.out _ h
      ·exact .inr (by omega)
     have hB1n:∀i,At B1 i→i≠w.heap.size∧i≠w.heap.size+1:=fun i h=>by
      rcases hB1 i h with h | h
      ·have:=HBL.out _ h;omega
      ·omega
     have hpr:=HPO.out.mono (G':=fun i=>(F0 i∨w.heap.size+2≤i)∧¬At A1 i∧¬At B1 i) (fun _ _ h=>h)
     have hp2:=hpr.upd UX (fun i h e=>by have:=(HKS.out i h).1;omega) (fun i _ h e=>by
      rcases h.1 with h | h
      ·have:=hF0w i h;omega
      ·omega)
     rw [hRe];refine ⟨KS,ks,A1,c1,B1,d1,?_,?_,HNS1.out.upd UX (fun i h e=>by have:=hA1 i h;omega) (fun i h e=>by have:=hB1n i h;omega),fun i h=>?_,fun i h=>?_,?_⟩
     ·show _=Ending.returned (.tuple #[.agg #[_,_,_,_,.slice KS L.length ks],.slice _ vs1.length _,.slice _ ms1.length _]);rw [hlen];rfl
     ·exact hp2.view (fun i h=>⟨.inr (by have:=(HKS.out i h).1;omega),(HKS.out i h).2⟩) (fun i _ h=>⟨by
       rcases h.1 with h | h
       ·exact .inl (hF0F i h)
       ·exact .inr (by omega),h.2⟩) _ _ _ _
     ·rcases HA1.out i h with h | h
      ·exact .inl h
      ·exact .inr (by omega)
     ·rcases hB1 i h with h | h
      ·exact .inl h
      ·exact .inr (by omega)
     ·have h1:Upd (fun i=>At A i∨At B i) w w1:=(hU0.mono (fun _ _ f=>f.elim)).trans hu0 (fun i h e=>by
       rcases e with e | e
       ·exact .inr e
       ·omega)
      have h2:=h1.trans hu (fun i h e=>by
       rcases e with e | e
       ·exact .inl e
       ·rcases hat0.out i e with e | e
        ·exact .inr e
        ·omega)
      exact h2.trans UX (fun i h e=>by omega)
end Go.Proofs.YtifhejahbbnkiaaGreat
