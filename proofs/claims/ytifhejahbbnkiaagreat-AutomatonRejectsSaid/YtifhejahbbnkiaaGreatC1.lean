/-
  Lemmas and walks that the claim rests on, part 1 (packed by a program).
-/
import Derived.WalkKit
import Derived.WalkSpells
import Derived.WalkLawsBesides
import Derived.Lib.Hide
import Derived.Maps.AppendAt
import Derived.Deep.Draws
import Derived.Laws.MakeOwn
import Derived.Deep.LoopGhost
import Derived.Deep.QuietTactic
import Derived.BigQuiet
import Derived.Deep.DeepCutAuto
import Derived.OrdersHeld
import Derived.Test.YtifhejahbbnkiaaGreatProg
import Derived.Deep.CutBlock
import Derived.Deep.RegionHeld3
import Derived.IntWalk
import Derived.Laws.AppendOwn
import Derived.StillTailTactics
import Derived.OwnWalk
import Derived.Laws.ResultCell
import Derived.Laws.Rows
namespace Go.Proofs.YtifhejahbbnkiaaGreat
open Go.RowKit
theorem h_ {p:Prop} (h:p):Hid p:=h
theorem dT_ {p:Prop} [Decidable p] (h:p):decide p=true:=decide_eq_true h
theorem dF_ {p:Prop} [Decidable p] (h:¬p):decide p=false:=decide_eq_false h
section
variable {P:Program} {ops:Array Oper} {Q:Exit→Act→World→Prop} {md:Region.Mode} {S:World→Prop} {fuel:Nat} {listed:Array Bool} {a:Act} {w:World} {rs:List Nat}
theorem aN_:AllReadyH P md ops Q S fuel listed a w []:=.nil
theorem aC_ {i:Nat} {o:Oper} (ho:ops[i]?=some o) (h:∀K':Act→World→Prop,Shut (∀a w,S w→(S w→wpAnyH P md ops Q S fuel (listed.setIfInBounds i true) a w)→K' a w)→if Region.wanted o (yielded ops a.tmps)=true then Oper.wp P o a w K' Q else K' (a.put o.dst undef) w) (hs:AllReadyH P md ops Q S fuel listed a w rs):AllReadyH P md ops Q S fuel listed a w (i::rs):=.cons ho h hs
theorem aR_ (hr:Region.ready md ops listed=rs) (hne:rs≠[]) (h:AllReadyH P md ops Q S fuel listed a w rs):wpAnyH P md ops Q S (fuel+1) listed a w:=wpAnyH_ready hr hne h
theorem aD_ (hr:Region.ready md ops listed=[]) (h:Q .normal a w):∀fuel,wpAnyH P md ops Q S fuel listed a w:=wpAnyH_done hr h
end
structure Upd (S:Nat→Prop) (w w':World):Prop where
 os:w'.os=w.os
 tape:w'.tape=w.tape
 output:w'.output=w.output
 size:w.heap.size≤w'.heap.size
 block:∀k,k<w.heap.size→¬S k→w'.heap[k]?=w.heap[k]?
def Non:Nat→Prop:=fun _=>False
theorem Upd.refl {S:Nat→Prop} {w:World}:Upd S w w:=⟨rfl,rfl,rfl,Nat.le_refl _,fun _ _ _=>rfl⟩
theorem Upd.trans {S T:Nat→Prop} {a b c:World} (h:Upd S a b) (k:Upd T b c) (hT:∀i,i<a.heap.size→T i→S i):Upd S a c :=
 ⟨k.os.trans h.os,k.tape.trans h.tape,k.output.trans h.output,Nat.le_trans h.size k.size,fun i hi hn=>(k.block i (Nat.lt_of_lt_of_le hi h.size) (fun t=>hn (hT i hi t))).trans (h.block i hi hn)⟩
theorem Upd.mono {S T:Nat→Prop} {a b:World} (h:Upd S a b) (hT:∀i,i<a.heap.size→S i→T i):Upd T a b :=
 ⟨h.os,h.tape,h.output,h.size,fun i hi hn=>h.block i hi (fun s=>hn (hT i hi s))⟩
theorem Upd.then_non {S:Nat→Prop} {a b c:World} (h:Upd S a b) (k:Upd Non b c):Upd S a c:=h.trans k (fun _ _ f=>f.elim)
theorem Upd.alloc {S:Nat→Prop} {a w:World} (h:Upd S a w) (o:Obj):Upd S a (w.alloc o) :=
 ⟨h.os,h.tape,h.output,Nat.le_trans h.size (by simp),fun i hi hn=>(Below.heap_alloc w o i (Nat.lt_of_lt_of_le hi h.size)).trans (h.block i hi hn)⟩
theorem Upd.setCell {S:Nat→Prop} {a w:World} (h:Upd S a w) {p:Addr} (hp:S p.block∨a.heap.size≤p.block) (u:Value):Upd S a (w.setCell p u) :=
 ⟨h.os,h.tape,h.output,by simpa [World.setCell] using h.size,fun k hk hn=>(Below.heap_setCell w p u k (by rintro rfl;rcases hp with hp | hp;exact hn hp;omega)).trans (h.block k hk hn)⟩
theorem Upd.drew {S:Nat→Prop} {a w:World} (h:Upd S a w):Upd S a w.drew:=⟨h.os,h.tape,h.output,h.size,h.block⟩
theorem Upd.drewN {S:Nat→Prop} {a w:World} (h:Upd S a w) (n:Nat):Upd S a (w.drewN n):=⟨h.os,h.tape,h.output,h.size,h.block⟩
theorem Upd.of_grown {w w':World} {row:Option Nat} (hg:w.grownBy w' row):Upd (fun k=>some k=row) w w':=⟨hg.os,hg.tape,hg.output,hg.size,hg.block⟩
theorem Upd.toBelow {w w':World} (h:Upd Non w w'):Below w.heap.size w w':=⟨h.os,h.tape,h.output,h.size,fun k hk=>h.block k hk (fun f=>f)⟩
def Blk (w:World) (g:Nat) (t:TypeId) (cs:Array Value):Prop:=w.heap[g]?=some (.cells cs t (0,0))
section
variable {w w':World} {g:Nat} {t:TypeId} {cs:Array Value}
theorem lt_of_heap {o:Obj} (h:w.heap[g]?=some o):g<w.heap.size:=by
 rcases Nat.lt_or_ge g w.heap.size with hlt | hge
 ·exact hlt
 ·rw [Array.getElem?_eq_none hge] at h;cases h
theorem Blk.lt (h:Blk w g t cs):g<w.heap.size:=lt_of_heap h
theorem Blk.cell (h:Blk w g t cs) (i:Nat):w.cell? ⟨g,i,none⟩=cs[i]?:=cell_of_row w g i cs t (0,0) h
theorem Blk.frozen (h:Blk w g t cs) (i:Nat):w.frozen? ⟨g,i,none⟩=false:=by
 unfold Blk at h;simp [World.frozen?,h]
theorem Blk.new (w:World) (t:TypeId) (cs:Array Value):Blk (w.alloc (.cells cs t)) w.heap.size t cs:=heap_alloc_new w _
theorem Blk.alloc (h:Blk w g t cs) (o:Obj):Blk (w.alloc o) g t cs:=(Below.heap_alloc w o g h.lt).trans h
theorem Blk.set_ (h:Blk w g t cs) (i:Nat) (u:Value):Blk (w.setCell ⟨g,i,none⟩ u) g t (cs.setIfInBounds i u):=by
 unfold Blk at h ⊢;simp [World.setCell,Array.getElem?_modify,h]
theorem Blk.far (h:Blk w g t cs) {p:Addr} (hp:g≠p.block) (u:Value):Blk (w.setCell p u) g t cs:=(Below.heap_setCell w p u g hp).trans h
theorem Blk.upd {S:Nat→Prop} (h:Blk w g t cs) (u:Upd S w w') (hS:¬S g):Blk w' g t cs:=(u.block g h.lt hS).trans h
theorem Blk.ne_ {g':Nat} {t':TypeId} {cs':Array Value} (h:Blk w g t cs) (h':Blk w g' t' cs') (hne:t≠t'):g≠g':=by
 rintro rfl;unfold Blk at h h';rw [h] at h';injection h' with h'
 injection h' with _ ht
 exact hne ht
end
def Sl (w:World) (F:Nat→Prop) (A:Option Addr) (cs:List Value):Prop :=
 cs=[]∨∃b off,A=some ⟨b,off,none⟩∧F b∧∀j (h:j<cs.length),w.cell? ⟨b,off+j,none⟩=some cs[j]
section
variable {w w':World} {F G S:Nat→Prop} {A:Option Addr} {cs:List Value}
theorem Sl.nil:Sl w F A []:=.inl rfl
theorem Sl.mono (h:Sl w F A cs) (hFG:∀k,k<w.heap.size→F k→G k):Sl w G A cs:=by
 rcases h with h | ⟨b,off,e,hF,hc⟩
 ·exact .inl h
 ·by_cases hn:cs=[]
  ·exact .inl hn
  ·have h0:0<cs.length:=List.length_pos_iff.2 hn;exact .inr ⟨b,off,e,hFG b (World.block_lt_of_cell? w _ (hc 0 h0)) hF,hc⟩
theorem Sl.upd (h:Sl w F A cs) (u:Upd S w w') (d:∀k,k<w.heap.size→F k→¬S k):Sl w' F A cs:=by
 rcases h with h | ⟨b,off,e,hF,hc⟩
 ·exact .inl h
 ·refine .inr ⟨b,off,e,hF,fun j hj=>?_⟩;have hlt:b<w.heap.size:=World.block_lt_of_cell? w _ (hc j hj);rw [World.cell?_of_block (w:=w) (u.block b hlt (d b hlt hF))];exact hc j hj
theorem Sl.at_ {k:Nat} (h:Sl w F A cs) (hk:k<cs.length):∃b off,A=some ⟨b,off,none⟩∧F b∧b<w.heap.size∧w.cell? ⟨b,off+k,none⟩=some cs[k]:=by
 rcases h with h | ⟨b,off,e,hF,hc⟩
 ·subst h;simp at hk
 ·exact ⟨b,off,e,hF,World.block_lt_of_cell? w _ (hc k hk),hc k hk⟩
theorem Sl.of_blk {g:Nat} {t:TypeId} {cur:Array Value} (hF:F g) (h:Blk w g t cur) (n:Nat):Sl w F (some ⟨g,0,none⟩) (cur.toList.take n) :=
 .inr ⟨g,0,rfl,hF,fun j hj=>by rw [h.cell];simp at hj ⊢⟩
end
def At (A:Option Addr) (k:Nat):Prop:=∃o s,A=some ⟨k,o,s⟩
theorem At.none_ {k:Nat}:¬At none k:=fun ⟨_,_,h⟩=>by cases h
theorem At.some_ {g k o:Nat} {s:Option Nat}:At (some ⟨g,o,s⟩) k↔k=g:=⟨fun ⟨_,_,h⟩=>by injection h with h;injection h with h;exact h.symm,fun h=>⟨o,s,by rw [h]⟩⟩
def Own (w:World) (e:TypeId) (size:Nat) (A:Option Addr) (n c:Nat) (cs:List Value):Prop:=w.ownsRow 0 e size (.slice A n c) n cs
structure SlT (P:Program) (t e:TypeId) (size bytes:Nat):Prop where
 und:P.underlying t=some (.slice e)
 info:∃i z,P.info? e=some i∧i.zero=some z∧i.size=size∧i.bytes=bytes∧z.cells.size=size
 pos:0<size
section
variable {w w':World} {e:TypeId} {size:Nat} {A:Option Addr} {n c:Nat} {cs:List Value} {S:Nat→Prop}
theorem Own.none_:Own w e size none 0 0 []:=⟨by simp,.inl ⟨rfl,rfl⟩⟩
theorem Own.len (h:Own w e size A n c cs):cs.length=n * size:=h.1
theorem Own.cases (h:Own w e size A n c cs):(A=none∧n=0∧c=0∧cs=[])∨∃g cur,A=some ⟨g,0,none⟩∧Blk w g e cur∧n≤c∧c≤maxLen∧cur.size=c * size∧cur.toList.take (n * size)=cs:=by
 obtain ⟨h1,h2⟩:=h;rcases h2 with ⟨hv,h0⟩ | ⟨g,cap,cur,hv,_,hg,hn,hm,hs,ht⟩
 ·left
  injection hv with a b d
  subst h0;exact ⟨a,rfl,d,List.eq_nil_of_length_eq_zero (by simpa using h1)⟩
 ·right
  injection hv with a b d
  subst a;subst d;exact ⟨g,cur,rfl,hg,hn,hm,hs,ht⟩
theorem Own.mk_ {g:Nat} {cur:Array Value} (hb:Blk w g e cur) (hn:n≤c) (hm:c≤maxLen) (hs:cur.size=c * size) (ht:cur.toList.take (n * size)=cs):Own w e size (some ⟨g,0,none⟩) n c cs:=by
 refine ⟨?_,.inr ⟨g,c,cur,rfl,Nat.zero_le _,hb,hn,hm,hs,ht⟩⟩;rw [←ht,List.length_take,Array.length_toList,hs];exact Nat.min_eq_left (Nat.mul_le_mul_right _ hn)
theorem Own.lt (h:Own w e size A n c cs) {k:Nat} (hk:At A k):k<w.heap.size:=by
 rcases h.cases with ⟨rfl,_⟩ | ⟨g,cur,rfl,hb,_⟩
 ·exact (At.none_ hk).elim
 ·rw [At.some_] at hk;subst hk;exact hb.lt
theorem Own.sl (h:Own w e size A n c cs):Sl w (At A) A cs:=by
 rcases h.cases with ⟨_,_,_,h0⟩ | ⟨g,cur,rfl,hb,_,_,_,ht⟩
 ·exact .inl h0
 ·rw [←ht];exact Sl.of_blk (At.some_.2 rfl) hb _
theorem Own.upd (h:Own w e size A n c cs) (u:Upd S w w') (d:∀k,At A k→¬S k):Own w' e size A n c cs:=by
 rcases h.cases with ⟨rfl,rfl,rfl,rfl⟩ | ⟨g,cur,rfl,hb,hn,hm,hs,ht⟩
 ·exact Own.none_
 ·exact Own.mk_ (hb.upd u (d g (At.some_.2 rfl))) hn hm hs ht
theorem Own.alloc (h:Own w e size A n c cs) (o:Obj):Own (w.alloc o) e size A n c cs:=h.upd (Upd.refl.alloc o (S:=Non)) (fun _ _ f=>f)
theorem Own.drewN (h:Own w e size A n c cs) (k:Nat):Own (w.drewN k) e size A n c cs:=h
theorem Own.ne_type {e':TypeId} {size' n' c':Nat} {A':Option Addr} {cs':List Value} (h:Own w e size A n c cs) (h':Own w e' size' A' n' c' cs') (hne:e≠e') {k:Nat} (hk:At A k):¬At A' k:=by
 rcases h.cases with ⟨rfl,_⟩ | ⟨g,cur,rfl,hb,_⟩
 ·exact (At.none_ hk).elim
 ·rcases h'.cases with ⟨rfl,_⟩ | ⟨g',cur',rfl,hb',_⟩
  ·exact At.none_
  ·rw [At.some_] at hk ⊢;subst hk;exact hb.ne_ hb' hne
theorem Own.ne_blk {g:Nat} {t:TypeId} {cur:Array Value} (h:Own w e size A n c cs) (h':Blk w g t cur) (hne:e≠t):¬At A g:=by
 rcases h.cases with ⟨rfl,_⟩ | ⟨g',cur',rfl,hb,_⟩
 ·exact At.none_
 ·rw [At.some_];exact (hb.ne_ h' hne).symm
end
theorem run_app {P:Program} {w:World} {F:Nat→Prop} {t ty e:TypeId} {size bytes:Nat} (T:SlT P t e size bytes) {A:Option Addr} {n c:Nat} {cs:List Value} (h:Own w e size A n c cs)
  {A2:Option Addr} {m c2:Nat} {news:List Value} (hr:Sl w F A2 news) (hl:news.length=m * size) (h1:∀u∈news,u.oneCell'=true) (h63:n+m≤maxLen) (hb:(n+m) * bytes≤140737488355328) :
  ∃A' c' w',(Builtin.append_ #[t,t] ty #[.slice A n c,.slice A2 m c2]).run P w=.ok (.slice A' (n+m) c') w'∧Own w' e size A' (n+m) c' (cs++news)∧Upd (At A) w w'∧(∀k,At A' k→At A k∨k=w.heap.size):=by
 obtain ⟨ht,⟨i,z,hi,hz,hsz,hby,hzs⟩,hpos⟩:=T;by_cases hm:m=0
 ·subst hm;have hn:news=[]:=List.eq_nil_of_length_eq_zero (by simpa using hl);subst hn;refine ⟨A,c,w,?_,by simpa using h,Upd.refl,fun k hk=>.inl hk⟩;rcases h.cases with ⟨rfl,rfl,rfl,rfl⟩ | ⟨g,cur,rfl,hb,hn,hm,hs,ht'⟩
  ·cases A2 <;> simp [Builtin.append_,run_underlying ht,sizeOf,typeInfo,hi,Builtin.lenOf,Builtin.firstCells,loadCells,loadCellsFrom]
  ·cases A2 <;> simp [Builtin.append_,run_underlying ht,sizeOf,typeInfo,hi,Builtin.lenOf,Builtin.firstCells,hn,storeCells,loadCells,loadCellsFrom]
 ·rcases hr with hr | ⟨b,off,rfl,_,hc⟩
  ·subst hr;have : m * size=0:=by simpa using hl.symm
   rcases Nat.mul_eq_zero.1 this with h0 | h0 <;> omega
  ·have hnews:∀j u,news[j]?=some u→w.cell? ((⟨b,off,none⟩:Addr).add j)=some u:=by
    intro j u hu;obtain ⟨hj,rfl⟩:=List.getElem?_eq_some_iff.1 hu;rw [Addr.add_lit];exact hc j hj
   obtain ⟨v',w',hrun,h2,h3,_,h5⟩:=run_append_own_at (P:=P) w 0 t ty e i z size bytes ht hi hz hsz hby hzs hpos (.slice A n c) n cs h ⟨b,off,none⟩ m c2 news hl hnews h1 h63 hb (Nat.zero_le _)
   obtain ⟨g,cap,rfl,_,_⟩:∃g cap,v'=.slice (some ⟨g,0,none⟩) (n+m) cap∧True∧True:=by
    rcases h2.2 with ⟨_,h0⟩ | ⟨g,cap,cur,hv,_⟩
    ·omega
    ·exact ⟨g,cap,hv,trivial,trivial⟩
   refine ⟨_,_,w',hrun,h2,(Upd.of_grown h3).mono (fun k _ hk=>?_),fun k hk=>?_⟩
   ·cases A with
    | none=>simp [Value.ownBlock] at hk
    | some a=>exact ⟨a.off,a.spot,by simp [Value.ownBlock] at hk;subst hk;rfl⟩
   ·rw [At.some_] at hk;subst hk;rcases h5 with h5 | h5
    ·left
     cases A with
     | none=>simp [Value.ownBlock] at h5
     | some a=>exact ⟨a.off,a.spot,by simp [Value.ownBlock] at h5;subst h5;rfl⟩
    ·right
     simpa [Value.ownBlock] using h5
theorem wp_app {P:Program} {w:World} {o:Oper} {a:Act} {K:Act→World→Prop} {Q:Exit→Act→World→Prop} {s x:Operand} {t:TypeId}
  (ho:o.op=.call { callee:=.builtin .append,args:=#[s,x],argTypes:=#[t,t] }) {F:Nat→Prop} {e:TypeId} {size bytes:Nat} (T:SlT P t e size bytes) {A:Option Addr} {n c:Nat} {cs:List Value} (hs:a.eval s=.slice A n c) (h:Own w e size A n c cs)
  {A2:Option Addr} {m c2:Nat} {news:List Value} (hx:a.eval x=.slice A2 m c2) (hr:Sl w F A2 news) (hl:news.length=m * size) (h1:∀u∈news,u.oneCell'=true) (h63:n+m≤maxLen) (hb:(n+m) * bytes≤140737488355328)
  (k:∀A' c' w',Own w' e size A' (n+m) c' (cs++news)→Upd (At A) w w'→(∀k,At A' k→At A k∨k=w.heap.size)→K (a.put o.dst (.slice A' (n+m) c')) w'):o.wp P a w K Q:=by
 obtain ⟨A',c',w',hrun,h2,h3,h4⟩:=run_app (P:=P) (ty:=o.type) (c2:=c2) T h hr hl h1 h63 hb;unfold Oper.wp execOp;simp only [ho,resolve,invoke,builtin,Sem.run_bind,Sem.run_pure,Result.andThen_ok,List.map_toArray,List.map_cons,List.map_nil,hs,hx,hrun];exact k A' c' w' h2 h3 h4
theorem wpList_app {P:Program} {w:World} {ops:Array Oper} {rest:List Oper} {o:Oper} {a:Act} {Q:Exit→Act→World→Prop} (hgd:o.guard=none) {s x:Operand} {t:TypeId}
  (ho:o.op=.call { callee:=.builtin .append,args:=#[s,x],argTypes:=#[t,t] }) {F:Nat→Prop} {e:TypeId} {size bytes:Nat} (T:SlT P t e size bytes) {A:Option Addr} {n c:Nat} {cs:List Value} (hs:a.eval s=.slice A n c) (h:Own w e size A n c cs)
  {A2:Option Addr} {m c2:Nat} {news:List Value} (hx:a.eval x=.slice A2 m c2) (hr:Sl w F A2 news) (hl:news.length=m * size) (h1:∀u∈news,u.oneCell'=true) (h63:n+m≤maxLen) (hb:(n+m) * bytes≤140737488355328)
  (k:∀A' c' w',Own w' e size A' (n+m) c' (cs++news)→Upd (At A) w w'→(∀k,At A' k→At A k∨k=w.heap.size)→wpList P ops Q rest (a.put o.dst (.slice A' (n+m) c')) w'):wpList P ops Q (o::rest) a w :=
 wpList_plain hgd fun _ hK=>wp_app ho T hs h hx hr hl h1 h63 hb fun A' c' w' h2 h3 h4=>hK _ _ (k A' c' w' h2 h3 h4)
theorem Sl.new (w:World) (t:TypeId) (cs:List Value):Sl (w.alloc (.cells cs.toArray t)) (·=w.heap.size) (some ⟨w.heap.size,0,none⟩) cs:=by
 have:=Sl.of_blk (F:=(·=w.heap.size)) rfl (Blk.new w t cs.toArray) cs.length;simpa using this
def Ints (w:World) (F:Nat→Prop) (A:Option Addr) (xs:List Int):Prop:=Sl w F A (xs.map fun x=>Value.int .i64 x)
section
variable {w w':World} {F G S:Nat→Prop} {A:Option Addr} {xs:List Int}
theorem Ints.nil:Ints w F A []:=.inl rfl
theorem Ints.mono (h:Ints w F A xs) (hFG:∀k,k<w.heap.size→F k→G k):Ints w G A xs:=Sl.mono h hFG
theorem Ints.upd (h:Ints w F A xs) (u:Upd S w w') (d:∀k,k<w.heap.size→F k→¬S k):Ints w' F A xs:=Sl.upd h u d
theorem Ints.at_ {k:Nat} (h:Ints w F A xs) (hk:k<xs.length):∃b off,A=some ⟨b,off,none⟩∧F b∧b<w.heap.size∧w.cell? ⟨b,off+k,none⟩=some (.int .i64 xs[k]):=by
 obtain ⟨b,off,e,hF,hb,hc⟩:=Sl.at_ h (k:=k) (by simpa using hk);exact ⟨b,off,e,hF,hb,by simpa using hc⟩
end
def bstr (ns:List Int):ByteArray:=⟨(ns.map fun n=>UInt8.ofNat n.toNat).toArray⟩
theorem foldl_bstr (ns:List Int):∀r:ByteArray,ns.foldl (fun r n=>r.push (UInt8.ofNat n.toNat)) r=⟨r.data++(ns.map fun n=>UInt8.ofNat n.toNat).toArray⟩:=by
 induction ns with
 | nil=>intro r;simp
 | cons n ns ih =>
  intro r;rw [List.foldl_cons,ih]
  congr 1
  simp [ByteArray.push]
theorem run_str {P:Program} {w:World} {F:Nat→Prop} {src dst e:TypeId} (hs:P.underlying src=some (.slice e)) (he:P.underlying e=some (.int .u8)) (hd:P.underlying dst=some .string)
  {A:Option Addr} {n c:Nat} {ns:List Int} (h:Sl w F A (ns.map fun x=>Value.int .u8 x)) (hn:n=ns.length):(convert src dst (.slice A n c)).run P w=.ok (.string (bstr ns)) w:=by
 subst hn;rw [run_convert_bytes_string w src dst e A _ c hs he hd];rcases h with h | ⟨b,off,rfl,_,hc⟩
 ·have : ns=[]:=by simpa using h
  subst this
  cases A with
  | none=>simp [Conv.bytesToString,bstr];rfl
  | some a=>simp [Conv.bytesToString,bstr,loadCells,loadCellsFrom];rfl
 ·have hl:=run_loadCells_list (P:=P) (w:=w) ⟨b,off,none⟩ (ns.map fun x=>Value.int .u8 x) (fun j v hv=>by
   obtain ⟨hj,rfl⟩:=List.getElem?_eq_some_iff.1 hv;rw [Addr.add_lit]
   exact hc j hj)
  rw [List.length_map] at hl;rw [run_bytesToString w _ _ c ns hl,foldl_bstr];simp [bstr]
end Go.Proofs.YtifhejahbbnkiaaGreat
namespace Go.Proofs.YtifhejahbbnkiaaGreat
structure Nd where
 op:Int
 imm:Int
 kids:List Int
end Go.Proofs.YtifhejahbbnkiaaGreat
namespace Go.Proofs.YtifhejahbbnkiaaGreat
def I64 (x:Int):Prop := -9223372036854775808≤x∧x≤9223372036854775807
theorem I64.tdiv {n:Int} (h:I64 n) (c:Nat) (hc:2≤c):I64 (n.tdiv c):=by
 have h1:(n.tdiv c).natAbs=n.natAbs / (c:Int).natAbs:=Int.natAbs_tdiv n c
 have h2:n.natAbs / (c:Int).natAbs≤n.natAbs / 2:=by
  rw [Int.natAbs_natCast];exact Nat.div_le_div_left hc (by omega)
 rw [←h1] at h2;generalize n.tdiv c=q at *;unfold I64 at *;omega
theorem tmod_pick (n m:Int) (hm:0<m):n % m=if n.tmod m<0 then n.tmod m+m else n.tmod m:=by
 have h1:=Int.tmod_lt_of_pos n hm;have h2:=Int.lt_tmod_of_pos n hm;have h3:(n.tmod m) % m=n % m:=by rw [Int.tmod_def,Int.sub_mul_emod_self_left]
 split
 ·rw [←h3,←Int.add_emod_right,Int.emod_eq_of_lt (by omega) (by omega)]
 ·rw [←h3,Int.emod_eq_of_lt (by omega) (by omega)]
def arityF (op:Int):Int×Bool :=
 if op=1∨op=2∨op=3∨op=26 then (0,true)
 else if op=20∨op=21∨op=24∨op=25 then (1,true)
 else if (4≤op∧op≤19)∨op=23∨op=27∨op=29 then (2,true)
 else if op=22∨op=28 then (3,true)
 else if op=30∨op=31 then (-1,true)
 else (0,false)
def maxImmF (op:Int):Int :=
 if op=2 then 5 else if op=3 then 255 else if op=23∨op=28 then 3 else if op=27 then 1000016 else if op=30 then 7 else if op=31 then 15 else if op=25 then 15 else -1
def validImmF (op n:Int):Bool :=
 if op=1 then true else if maxImmF op<0 then decide (n=0) else decide (0≤n∧n≤maxImmF op∧(op≠27∨0<n))
def pSortF (op:Int):Int:=if op=27∨op=28∨op=29 then 2 else 1
def operandSortF (op k:Int):Int:=if k=0∧(pSortF op=2∨op=23∨op=24) then 2 else 1
def edgesF:List Int:=[0,1,-1,2,-9223372036854775808,9223372036854775807,4294967296,-2147483648,63,64]
def wordF (n raw:Int):Int:=if n % 24<10 then edgesF.getD (n % 24).toNat 0 else if n % 24<22 then (n.tdiv 24) % 17 - 6 else raw
end Go.Proofs.YtifhejahbbnkiaaGreat
namespace Go.Proofs.YtifhejahbbnkiaaGreat
end Go.Proofs.YtifhejahbbnkiaaGreat
namespace Go.Proofs.YtifhejahbbnkiaaGreat
open Go.RowKit
theorem nm {α:Type} (a:α):∃x,Hid (a=x):=⟨a,show a=a from rfl⟩
theorem Blk.new' {w:World} {t:TypeId} {cs:Array Value} {n:Nat} (h:n=w.heap.size):Blk (w.alloc (.cells cs t)) n t cs:=by subst h;exact Blk.new w t cs
theorem Ints.new {w:World} {t:TypeId} {cs:Array Value} (xs:List Int) (h:cs=(xs.map fun x=>Value.int .i64 x).toArray) {n:Nat} (hn:n=w.heap.size):Ints (w.alloc (.cells cs t)) (fun _=>True) (some ⟨n,0,none⟩) xs:=by
 subst h;subst hn;have:=Sl.of_blk (F:=fun _=>True) trivial (Blk.new w t (xs.map fun x=>Value.int .i64 x).toArray) xs.length;unfold Ints;rw [List.take_of_length_le (by simp)] at this;simpa using this
section
variable {w w':World} {F G S:Nat→Prop} {A:Option Addr} {L:List Nd} {ps:List (Int×Int)}
theorem u_ {b o:Nat} {v:Value} (h:w.cell? ⟨b,o,none⟩=some v) (u:Upd S w w') (d:¬S b):w'.cell? ⟨b,o,none⟩=some v :=
 (World.cell?_of_block (w:=w) (u.block b (World.block_lt_of_cell? w _ h) d)).trans h
end
theorem run_mk {P:Program} {t e:TypeId} {bytes:Nat} (T:SlT P t e 1 bytes) {z:Value} (hz:(P.info? e).bind (·.zero)=some z) (hzc:z.cells=#[z]) (n:Nat) (hb:bytes * n≤281474976710656) (hn:n≤9223372036854775807) (w:World) :
  (Instr.makeSlice t (.int .i64 (n:Int)) (.int .i64 (n:Int))).run P w=.ok (.slice (some ⟨w.heap.size,0,none⟩) n n) (w.alloc (.cells (Array.replicate n z) e)):=by
 obtain ⟨ht,⟨i,z',hi,hz',hsz,hby,hzs⟩,_⟩:=T;have : z'=z:=by rw [hi] at hz;simp [hz'] at hz;exact hz
 subst this
 have hb':(i.bytes:Int) * (n:Int)≤281474976710656:=by
  have h:((i.bytes * n:Nat):Int)≤281474976710656:=by rw [hby];omega
  rwa [Int.natCast_mul] at h
 have hr:=run_make (P:=P) w t e i z' ht hi hz' .i64 .i64 n n (by omega) (by omega) hb' (by omega);simp only [Int.toNat_natCast,hsz,Nat.mul_one,hzc] at hr;rw [hr]
 congr 2
 congr 1
 apply Array.ext
 ·simp [size_madeCells]
 ·intro j h1 h2;simp [madeCells,Nat.mod_one]
end Go.Proofs.YtifhejahbbnkiaaGreat
namespace Go.Proofs.YtifhejahbbnkiaaGreat
section
variable {P:Program} {ops:Array Oper} {Q:Exit→Act→World→Prop} {md:Region.Mode} {S:World→Prop}
structure Calm (P:Program) (ops:Array Oper) (Q:Exit→Act→World→Prop) (S:World→Prop) (i:Nat) (oi:Oper) (v:Value) (Y:Act→Prop):Prop where
 at_:ops[i]?=some oi
 run:∀(K:Act→World→Prop) a w,Y a→S w→K (a.put oi.dst v) w→wpOp P ops Q i K a w
 put:∀a d u,Y a→(∀t,d=some t→t ∉ oi.looksAt ops)→Y (a.put d u)
 late:∀a d,Y a→Y { a with defers:=d::a.defers }
 dies:∀c a w,Q (.panic c) (a.put oi.dst v) w→Q (.panic c) a w
theorem Calm.swap {i:Nat} {oi:Oper} {v:Value} {Y:Act→Prop} (C:Calm P ops Q S i oi v Y) (hns:∀(j:Nat) (o:Oper) cs b,ops[j]?=some o→o.op≠.select cs b)
  {j:Nat} {oj:Oper} (hj:ops[j]?=some oj) (hap:oi.apart ops oj=true) {K:Act→World→Prop} {a:Act} {w:World} (hy:Y a) (h:wpOp P ops Q j K (a.put oi.dst v) w) :
  wpOp P ops Q j (fun a' w'=>Y a'∧K (a'.put oi.dst v) w') a w:=by
 obtain ⟨p1,p2,p3⟩:=Oper.apart_spec hap;have E:=execOp_put oj (hns j oj · · hj) a oi.dst v p1;have st:∀b,Y b→∀u,Y (b.put oj.dst u):=fun b hb u=>C.put b _ u hb p3
 unfold wpOp at h ⊢;rw [hj] at h ⊢;dsimp only at h ⊢;rw [wanted_put oj a oi.dst v p1] at h;by_cases hw:Region.wanted oj (yielded ops a.tmps)=true
 ·rw [if_pos hw] at h ⊢;rcases h with h | ⟨hk,hl⟩
  ·left
   unfold Oper.wp at h ⊢;rw [E] at h
   revert h
   cases (execOp a.eval oj).run P w with
   | halt x w'=>cases x <;> (simp only [Oper.upon];intro h) <;> first | exact h | exact C.dies _ _ _ h
   | ok n w' =>
    cases n with
    | value u=>intro h;exact ⟨st a hy u,by rw [←Act.put_comm a v u p2];exact h⟩
    | skip=>intro h;exact ⟨st a hy _,by rw [←Act.put_comm a v undef p2];exact h⟩
    | defer d=>intro h;exact ⟨st _ (C.late a d hy) _,by rw [←Act.put_comm _ v undef p2,←Act.put_defers];exact h⟩
    | row r args=>intro h;exact Rows.mono h fun u _ he=>⟨st a hy u,by rw [←Act.put_comm a v u p2];exact he⟩
    | enter f args =>
     intro h;refine Calls.mono h fun e _ he=>?_
     match e,he with
     | .returned u,he=>exact ⟨st a hy u,by rw [←Act.put_comm a v u p2];exact he⟩
     | .panicked _,he=>exact C.dies _ _ _ he
     | .outgrown,he=>exact he
    | _=>first | exact id | (intro h;exact h)
  ·exact .inr ⟨by unfold Oper.asks at hk ⊢;rw [E] at hk;exact hk,hl⟩
 ·rw [if_neg hw] at h ⊢;exact ⟨st a hy _,by rw [←Act.put_comm a v undef p2];exact h⟩
theorem Calm.first {i:Nat} {oi:Oper} {v:Value} {Y:Act→Prop} (C:Calm P ops Q S i oi v Y) (hns:∀(j:Nat) (o:Oper) cs b,ops[j]?=some o→o.op≠.select cs b) :
  ∀(fuel:Nat) (listed:Array Bool) (a:Act) (w:World),
   (∀j oj,ops[j]?=some oj→j≠i→listed.getD j true=false→(∀e∈oj.after,Region.binds md e=true→e.on≠i)→oi.apart ops oj=true) →
   i∈Region.ready md ops listed→Y a→S w→wpAnyH P md ops Q S fuel (listed.setIfInBounds i true) (a.put oi.dst v) w→wpAnyH P md ops Q S (fuel+1) listed a w
 | 0,listed,a,w,_,hr,hy,hS,H=>by
  refine ⟨fun h=>absurd hr (by rw [h];simp),fun j hj=>?_⟩;by_cases e:j=i
  ·rw [e];exact C.run _ a w hy hS ⟨hS,H⟩
  ·exact absurd (ready_mono hj e) (by rw [H.1];simp)
 | fuel+1,listed,a,w,hf,hr,hy,hS,H=>by
  refine ⟨fun h=>absurd hr (by rw [h];simp),fun j hj=>?_⟩;by_cases e:j=i
  ·rw [e];exact C.run _ a w hy hS ⟨hS,H⟩
  obtain ⟨un,oj,hoj,hall⟩:=mem_ready.1 hj;have hi0:=(mem_ready.1 hr).1
  have waits:∀x∈oj.after,Region.binds md x=true→x.on≠i:=fun x hx hb heq=>by
   have:=hall x hx hb;rw [heq] at this;rcases Nat.lt_or_ge i listed.size with q | q
   ·simp [q] at this hi0;rw [hi0] at this;cases this
   ·simp [Array.getElem?_eq_none q] at this
  refine wpOp_mono (fun b w2 h3=>?_) (C.swap hns hoj (hf j oj hoj e un waits) hy (H.2 j (ready_mono hj e)));refine ⟨h3.2.1,Calm.first C hns fuel (listed.setIfInBounds j true) b w2 (fun k ok hk hki hun hno=>?_) (ready_mono hr (Ne.symm e)) h3.1 h3.2.1 ?_⟩
  ·by_cases q:j=k
   ·exact hf k ok hk hki (by rw [←q];exact un) hno
   ·exact hf k ok hk hki (by rw [getD_set_ne true q] at hun;exact hun) hno
  ·rw [Array.setIfInBounds_comm _ _ e];exact h3.2.2
def PureC (P:Program) (ops:Array Oper) (S:World→Prop) (o:Oper) (v:Value) (a:Act):Prop :=
 Region.wanted o (yielded ops a.tmps)=true∧∃f args,(∀w,(execOp a.eval o).run P w=.ok (.enter f args) w)∧∀w,S w→Calls P f args w fun e w'=>e=.returned v∧w'=w
theorem PureC.calm {i:Nat} {oi:Oper} {v:Value} (hi:ops[i]?=some oi) (hns:∀(j:Nat) (o:Oper) cs b,ops[j]?=some o→o.op≠.select cs b) (hQ:∀c a w,Q (.panic c) (a.put oi.dst v) w→Q (.panic c) a w) :
  Calm P ops Q S i oi v (PureC P ops S oi v):=by
 refine ⟨hi,fun K a w hy hS h=>?_,fun a d u hy hd=>?_,fun a d hy=>hy,hQ⟩
 ·obtain ⟨hw,f,args,hr,hc⟩:=hy;unfold wpOp;simp only [hi,hw,if_true,Oper.wp,hr w,Oper.upon];refine .inl ((hc w hS).mono fun e w' he=>?_);obtain ⟨rfl,rfl⟩:=he;exact h
 ·unfold PureC at *;rw [execOp_put oi (hns i oi · · hi) a d u hd,wanted_put oi a d u hd];exact hy
theorem wpAnyH_takeC {i:Nat} {oi:Oper} {v:Value} {fuel:Nat} {listed:Array Bool} {a:Act} {w:World} (hi:ops[i]?=some oi)
  (hs:Region.noSelect ops=true) (hf:Region.free md ops listed i=true) (hr:(Region.ready md ops listed).contains i=true)
  (hQ:∀c a w,Q (.panic c) (a.put oi.dst v) w→Q (.panic c) a w) (hy:PureC P ops S oi v a) (hS:S w)
  (h:wpAnyH P md ops Q S fuel (listed.setIfInBounds i true) (a.put oi.dst v) w):wpAnyH P md ops Q S (fuel+1) listed a w :=
 (PureC.calm hi (Region.noSelect_spec hs) hQ).first (Region.noSelect_spec hs) fuel listed a w (Region.free_spec hi hf) (by simpa using hr) hy hS h
end
end Go.Proofs.YtifhejahbbnkiaaGreat
namespace Go.Proofs.YtifhejahbbnkiaaGreat
open Go.RowKit
theorem i64w_of {x:Int} (h:I64 x):IntKind.i64.wrap x=x:=by rw [IntKind.wrap_i64];unfold I64 at h;omega
theorem step_app {P:Program} {w:World} {ops:Array Oper} {o:Oper} {a:Act} {K:Act→World→Prop} {Q:Exit→Act→World→Prop} {E:Prop} (hgd:o.guard=none) {s x:Operand} {t:TypeId}
  (ho:o.op=.call { callee:=.builtin .append,args:=#[s,x],argTypes:=#[t,t] }) {F:Nat→Prop} {e:TypeId} {size bytes:Nat} (T:SlT P t e size bytes) {A:Option Addr} {n c:Nat} {cs:List Value} (hs:a.eval s=.slice A n c) (h:Own w e size A n c cs)
  {A2:Option Addr} {m c2:Nat} {news:List Value} (hx:a.eval x=.slice A2 m c2) (hr:Sl w F A2 news) (hl:news.length=m * size) (h1:∀u∈news,u.oneCell'=true) (h63:n+m≤maxLen) (hb:(n+m) * bytes≤140737488355328)
  (k:∀A' c' w',Own w' e size A' (n+m) c' (cs++news)→Upd (At A) w w'→(∀k,At A' k→At A k∨k=w.heap.size)→K (a.put o.dst (.slice A' (n+m) c')) w') :
  if Region.wanted o (yielded ops a.tmps)=true then Oper.wp P o a w K Q else E:=by
 have hw:Region.wanted o (yielded ops a.tmps)=true:=by simp [Region.wanted,hgd]
 rw [if_pos hw];exact wp_app ho T hs h hx hr hl h1 h63 hb k
theorem getD_of {α:Type} {l:List α} {i:Nat} {d:α} (h:i<l.length):l.getD i d=l[i]:=by simp [List.getD,h]
theorem updCell (w:World) (b i:Nat) (v:Value):Upd (·=b) w (w.setCell ⟨b,i,none⟩ v):=Upd.refl.setCell (S:=(·=b)) (p:=⟨b,i,none⟩) (.inl rfl) _
def icells (l:List Int):List Value:=l.map fun x=>Value.int .i64 x
theorem icells_snoc (l:List Int) (x:Int):icells (l++[x])=icells l++[.int .i64 x]:=by simp [icells]
theorem T_ints':SlT Tryz.prog 22 3 1 8:=by
 obtain ⟨i,h1,h2,h3,h4⟩:=info_parts (show (Tryz.prog.info? 3).map (fun i=>(i.zero,i.size,i.bytes))=some (some (.int .i64 0),1,8) from by kernel_rfl)
 exact ⟨Tryz.underlying22,⟨i,_,h1,h2,h3,h4,rfl⟩,by omega⟩
theorem Own.ints {w:World} {A:Option Addr} {n c:Nat} {l:List Int} (h:Own w 3 1 A n c (icells l)):Ints w (At A) A l:=h.sl
theorem Own.le {w:World} {e:TypeId} {size:Nat} {A:Option Addr} {n c:Nat} {cs:List Value} (h:Own w e size A n c cs):n≤c:=by
 rcases h.cases with ⟨_,h,_⟩ | ⟨_,_,_,_,h,_⟩ <;> omega
theorem Own.set_ {w:World} {e:TypeId} {g n c:Nat} {cs:List Value} (h:Own w e 1 (some ⟨g,0,none⟩) n c cs) (i:Nat) (u:Value):Own (w.setCell ⟨g,i,none⟩ u) e 1 (some ⟨g,0,none⟩) n c (cs.set i u):=by
 rcases h.cases with ⟨h0,_⟩ | ⟨g',cur,e1,hb,hn,hm,hs,ht⟩
 ·cases h0
 ·injection e1 with e1;injection e1 with e1;subst e1
  refine Own.mk_ (hb.set_ i u) hn hm (by simpa using hs) ?_;rw [Array.toList_setIfInBounds,List.take_set,ht]
theorem Own.cell_ {w:World} {e:TypeId} {g n c:Nat} {cs:List Value} (h:Own w e 1 (some ⟨g,0,none⟩) n c cs) {i:Nat} (hi:i<cs.length):w.cell? ⟨g,i,none⟩=some cs[i]:=by
 rcases h.cases with ⟨h0,_⟩ | ⟨g',cur,e1,hb,hn,hm,hs,ht⟩
 ·cases h0
 ·injection e1 with e1;injection e1 with e1;subst e1
  subst ht;rw [hb.cell];simp at hi ⊢
theorem Own.frozen_ {w:World} {e:TypeId} {g n c:Nat} {cs:List Value} (h:Own w e 1 (some ⟨g,0,none⟩) n c cs) (i:Nat):w.frozen? ⟨g,i,none⟩=false:=by
 rcases h.cases with ⟨h0,_⟩ | ⟨g',cur,e1,hb,hn,hm,hs,ht⟩
 ·cases h0
 ·injection e1 with e1;injection e1 with e1;subst e1
  exact hb.frozen i
theorem Own.some_ {w:World} {e:TypeId} {size:Nat} {A:Option Addr} {n c:Nat} {cs:List Value} (h:Own w e size A n c cs) (hn:0<n):∃g,A=some ⟨g,0,none⟩:=by
 rcases h.cases with ⟨_,h0,_⟩ | ⟨g,cur,e1,_⟩
 ·omega
 ·exact ⟨g,e1⟩
theorem icells_one (xs:List Int):∀u∈icells xs,u.oneCell'=true:=by
 intro u hu;obtain ⟨x,_,rfl⟩:=List.mem_map.1 hu;rfl
theorem own_empty (w:World) (t:TypeId) (size:Nat):Own (w.alloc (.cells #[] t)) t size (some ⟨w.heap.size,0,none⟩) 0 0 []:=Own.mk_ (Blk.new w t #[]) (Nat.le_refl _) (by simp [maxLen]) (by simp) (by simp)
theorem own_empty' {w:World} (t:TypeId) (size:Nat) {g:Nat} (h:g=w.heap.size):Own (w.alloc (.cells #[] t)) t size (some ⟨g,0,none⟩) 0 0 []:=by subst h;exact own_empty w t size
theorem Sl.cut {w:World} {F:Nat→Prop} {A:Option Addr} {cs:List Value} (h:Sl w F A cs) (k cap:Nat) (hc:cs.length≤cap):Sl w F (if cap=k then A else A.map (·.add k)) (cs.drop k):=by
 rcases h with h | ⟨b,off,rfl,hF,hc'⟩
 ·subst h;exact .inl (by simp)
 ·by_cases hk:k<cs.length
  ·rw [if_neg (by omega)];refine .inr ⟨b,off+k,by simp [Addr.add_lit],hF,fun j hj=>?_⟩;rw [List.length_drop] at hj;rw [Nat.add_assoc,hc' (k+j) (by omega),List.getElem_drop]
  ·exact .inl (List.drop_eq_nil_of_le (by omega))
theorem Sl.take_ {w:World} {F:Nat→Prop} {A:Option Addr} {cs:List Value} (h:Sl w F A cs) (k:Nat):Sl w F A (cs.take k):=by
 rcases h with h | ⟨b,off,rfl,hF,hc'⟩
 ·subst h;exact .inl (by simp)
 ·refine .inr ⟨b,off,rfl,hF,fun j hj=>?_⟩;rw [List.length_take] at hj;rw [hc' j (by omega),List.getElem_take]
theorem Ints.take_ {w:World} {F:Nat→Prop} {A:Option Addr} {xs:List Int} (h:Ints w F A xs) (k:Nat):Ints w F A (xs.take k):=by
 have:=Sl.take_ h k;rw [←List.map_take] at this;exact this
theorem z_:(∀(a:Act) (d:Tmp) (v:Value),a.put (some d) v={ a with tmps:=a.tmps.setIfInBounds d v })∧(∀(a:Act) (v:Value),a.put none v=a) ∧
  (∀(l:List Value) (i:Nat) (v:Value),l.toArray.setIfInBounds i v=(l.set i v).toArray)∧(∀(x v:Value) (l:List Value),(x::l).set 0 v=v::l)∧(∀(x v:Value) (l:List Value) (n:Nat),(x::l).set (n+1) v=x::l.set n v) :=
 ⟨fun _ _ _=>rfl,fun _ _=>rfl,fun _ _ _=>by simp,fun _ _ _=>rfl,fun _ _ _ _=>rfl⟩
theorem y_:(∀(l:List Oper) (i:Nat) (h:i<l.toArray.size),l.toArray[i]'h=l[i]'(by simpa using h))∧(∀(x:Oper) (l:List Oper) (h:0<(x::l).length),(x::l)[0]'h=x) ∧
  (∀(x:Oper) (l:List Oper) (n:Nat) (h:n+1<(x::l).length),(x::l)[n+1]'h=l[n]'(by simpa using h)):=⟨fun _ _ _=>by simp,fun _ _ _=>rfl,fun _ _ _ _=>rfl⟩
def kx (s:ByteArray):List UInt8:=s.data.toList
theorem kx_mk (x:List UInt8):kx ⟨x.toArray⟩=x:=by simp [kx]
theorem kx_len (s:ByteArray):(kx s).length=s.size:=by simp [kx]
theorem take_snoc_ {α:Type} {L:List α} {k:Nat} (h:k<L.length):L.take (k+1)=L.take k++[L[k]]:=by
 rw [List.take_add_one,List.getElem?_eq_getElem h];rfl
section
variable {P:Program} {ops:Array Oper} {Q:Exit→Act→World→Prop} {md:Region.Mode} {S:World→Prop}
theorem wpT (i:Nat) {oi:Oper} {v:Value} {fuel:Nat} {listed:Array Bool} {a:Act} {w:World} (h:wpAnyH P md ops Q S fuel (listed.setIfInBounds i true) (a.put oi.dst v) w) (hi:ops[i]?=some oi:=by rfl)
  (hs:Region.noSelect ops=true:=by kernel_rfl) (hf:Region.free md ops listed i=true:=by kernel_rfl) (hr:(Region.ready md ops listed).contains i=true:=by kernel_rfl)
  (hQ:∀c a w,Q (.panic c) (a.put oi.dst v) w→Q (.panic c) a w:=by exact fun _ _ _ h=>h) (hw:Region.wanted oi (yielded ops a.tmps)=true:=by rfl) (hy:∀w,S w→(execOp a.eval oi).run P w=.ok (.value v) w:=by intro w hSw;(try dsimp only at hSw);go_simp;try with_reducible rfl) (hS:S w:=by assumption):wpAnyH P md ops Q S (fuel+1) listed a w :=
 wpAnyH_take hi hs hf hr hQ (.inl ⟨hw,hy⟩) hS h
theorem wpU (i:Nat) {oi:Oper} {fuel:Nat} {listed:Array Bool} {a:Act} {w:World} (h:wpAnyH P md ops Q S fuel (listed.setIfInBounds i true) (a.put oi.dst undef) w) (hi:ops[i]?=some oi:=by rfl)
  (hs:Region.noSelect ops=true:=by kernel_rfl) (hf:Region.free md ops listed i=true:=by kernel_rfl) (hr:(Region.ready md ops listed).contains i=true:=by kernel_rfl)
  (hQ:∀c a w,Q (.panic c) (a.put oi.dst undef) w→Q (.panic c) a w:=by exact fun _ _ _ h=>h) (hw:Region.wanted oi (yielded ops a.tmps)=false:=by rfl) (hS:S w:=by assumption):wpAnyH P md ops Q S (fuel+1) listed a w :=
 wpAnyH_take hi hs hf hr hQ (.inr ⟨hw,rfl⟩) hS h
end
end Go.Proofs.YtifhejahbbnkiaaGreat
namespace Go.Proofs.YtifhejahbbnkiaaGreat
open Go.RowKit
theorem ret_bool {p q:Prop} [Decidable p] [Decidable q] (h:p↔q):Ending.returned (.bool (decide p))=.returned (.bool (decide q)):=by simp [h]
set_option maxHeartbeats 400000 in
theorem pick_c (n m:Int) (w:World) (hm:0<m) (hm2:m≤4611686018427387904) :
  Calls Tryz.prog 41 #[.int .i64 n,.int .i64 m] w fun e w'=>e=.returned (.int .i64 (n % m))∧w=w':=by
 have H1:=h_ (tmod_pick n m hm);have h2:=Int.tmod_lt_of_pos n hm;have h3:=Int.lt_tmod_of_pos n hm;by_cases ht:n.tmod m<0
 ·have H2:Hid (n % m=n.tmod m+m):=by show _=_;rw [H1.out,if_pos ht]
  go_enter Tryz.func41,Tryz.ntmps41;go_wp2_with fail
  go_ret;exact ⟨by rw [H2.out];rfl,rfl⟩
 ·have H2:Hid (n % m=n.tmod m):=by show _=_;rw [H1.out,if_neg ht]
  go_enter Tryz.func41,Tryz.ntmps41;go_wp2_with fail
  go_ret;exact ⟨by rw [H2.out];rfl,rfl⟩
set_option maxHeartbeats 1000000 in
theorem arity_c (op:Int) (w:World):Calls Tryz.prog 118 #[.int .i64 op] w fun e w'=>e=.returned (.tuple #[.int .i64 (arityF op).1,.bool (arityF op).2])∧w=w':=by
 go_enter Tryz.func118,Tryz.ntmps118
 go_wp2
 all_goals
  go_ret2;refine ⟨?_,rfl⟩
  (try simp only [beq_iff_eq,beq_eq_false_iff_ne,ne_eq] at *)
  unfold arityF
  (repeat' split) <;> first | rfl | (exfalso;omega)
set_option maxHeartbeats 1000000 in
theorem maxImm_c (op:Int) (w:World):Calls Tryz.prog 210 #[.int .i64 op] w fun e w'=>e=.returned (.int .i64 (maxImmF op))∧w=w':=by
 go_enter Tryz.func210,Tryz.ntmps210
 go_wp2
 all_goals
  go_ret;refine ⟨?_,rfl⟩
  (try simp only [beq_iff_eq,beq_eq_false_iff_ne,ne_eq] at *)
  unfold maxImmF
  (repeat' split) <;> first | rfl | (exfalso;omega)
set_option maxHeartbeats 1000000 in
theorem validImm_c (op n:Int) (w:World):Calls Tryz.prog 150 #[.int .i64 op,.int .i64 n] w fun e w'=>e=.returned (.bool (validImmF op n))∧w=w':=by
 obtain ⟨m,Hm⟩:∃m,Hid (maxImmF op=m):=⟨_,rfl⟩;have Hv:Hid (validImmF op n=if op=1 then true else if m<0 then decide (n=0) else decide (0≤n∧n≤m∧(op≠27∨0<n))):=by show _=_;unfold validImmF;rw [Hm.out]
 have C1:=h_ (maxImm_c op w);rw [Hm.out] at C1;go_enter Tryz.func150,Tryz.ntmps150
 go_wp2_with (go_at_call 210;refine C1.out.mono ?_;rintro e w' ⟨rfl,rfl⟩)
 all_goals
  go_ret;refine ⟨?_,rfl⟩;rw [Hv.out]
  (try simp only [beq_iff_eq,beq_eq_false_iff_ne,ne_eq] at *)
  (repeat' split) <;> first | rfl | (exfalso;omega) | (simp;omega) | exact ret_bool (by omega)
set_option maxHeartbeats 1000000 in
theorem pSort_c (op:Int) (w:World):Calls Tryz.prog 88 #[.int .i64 op] w fun e w'=>e=.returned (.int .i64 (pSortF op))∧w=w':=by
 go_enter Tryz.func88,Tryz.ntmps88
 go_wp2
 all_goals
  go_ret;refine ⟨?_,rfl⟩
  (try simp only [beq_iff_eq,beq_eq_false_iff_ne,ne_eq] at *)
  unfold pSortF
  (repeat' split) <;> first | rfl | (exfalso;omega)
set_option maxHeartbeats 1000000 in
theorem operandSort_c (op k:Int) (w:World):Calls Tryz.prog 119 #[.int .i64 op,.int .i64 k] w fun e w'=>e=.returned (.int .i64 (operandSortF op k))∧w=w':=by
 obtain ⟨m,Hm⟩:∃m,Hid (pSortF op=m):=⟨_,rfl⟩;have Hv:Hid (operandSortF op k=if k=0∧(m=2∨op=23∨op=24) then 2 else 1):=by show _=_;unfold operandSortF;rw [Hm.out]
 have C1:=h_ (pSort_c op w);rw [Hm.out] at C1;go_enter Tryz.func119,Tryz.ntmps119
 go_wp2_with (go_at_call 88;refine C1.out.mono ?_;rintro e w' ⟨rfl,rfl⟩)
 all_goals
  go_ret;refine ⟨?_,rfl⟩;rw [Hv.out]
  (try simp only [beq_iff_eq,beq_eq_false_iff_ne,ne_eq] at *)
  (repeat' split) <;> first | rfl | (exfalso;omega)
end Go.Proofs.YtifhejahbbnkiaaGreat
namespace Go.Proofs.YtifhejahbbnkiaaGreat
open Go.RowKit
theorem edges_get {k:Nat} (hk:k=0∨k=1∨k=2∨k=3∨k=4∨k=5∨k=6∨k=7∨k=8∨k=9) {h:k < [Value.int IntKind.i64 0,Value.int IntKind.i64 1,Value.int IntKind.i64 (-1),Value.int IntKind.i64 2,Value.int IntKind.i64 (-9223372036854775808),Value.int IntKind.i64 9223372036854775807,Value.int IntKind.i64 4294967296,Value.int IntKind.i64 (-2147483648),Value.int IntKind.i64 63,Value.int IntKind.i64 64].length} :
  [Value.int IntKind.i64 0,Value.int IntKind.i64 1,Value.int IntKind.i64 (-1),Value.int IntKind.i64 2,Value.int IntKind.i64 (-9223372036854775808),Value.int IntKind.i64 9223372036854775807,Value.int IntKind.i64 4294967296,Value.int IntKind.i64 (-2147483648),Value.int IntKind.i64 63,Value.int IntKind.i64 64][k]=Value.int .i64 (edgesF.getD k 0):=by
 rcases hk with rfl | rfl | rfl | rfl | rfl | rfl | rfl | rfl | rfl | rfl <;> simp [edgesF]
theorem wrap64_of {x:Int} (h:I64 x):wrap64 x=x:=by unfold wrap64;unfold I64 at h;omega
set_option maxHeartbeats 1000000 in
theorem word_c (w:World) (n raw:Int) (hn:I64 n):Calls Tryz.prog 31 #[.int .i64 n,.int .i64 raw] w fun e w'=>e=.returned (.int .i64 (wordF n raw))∧Upd Non w w':=by
 have hm1:=Int.emod_nonneg n (show (24:Int)≠0 by omega);have hm2:=Int.emod_lt_of_pos n (show (0:Int)<24 by omega);have HW:Hid (wordF n raw=if n % 24<10 then edgesF.getD (n % 24).toNat 0 else if n % 24<22 then (n.tdiv 24) % 17 - 6 else raw):=rfl;have C1:=fun (W:World)=>pick_c n 24 W (by omega) (by omega)
 obtain ⟨q,Hq⟩:∃q,Hid (n % 24=q):=nm _;rw [Hq.out] at hm1 hm2 HW;obtain ⟨k,rfl⟩:=Int.eq_ofNat_of_zero_le hm1;simp only [Hq.out] at C1;have C1:=h_ C1;by_cases h1:k<10
 ·have HW2:Hid (wordF n raw=edgesF.getD k 0):=by show _=_;rw [HW.out,if_pos (by omega)];simp
  go_enter Tryz.func31,Tryz.ntmps31;go_wp2_with fail
  refine (C1.out _).mono ?_;rintro e w2 ⟨rfl,rfl⟩;have hk:k=0∨k=1∨k=2∨k=3∨k=4∨k=5∨k=6∨k=7∨k=8∨k=9:=by omega
  clear HW C1 hm1 hm2 Hq;go_wp2_with fail
  go_ret;refine ⟨?_,Upd.refl.alloc _⟩;rw [HW2.out];exact congrArg (fun x=>Ending.returned x) (edges_get hk)
 ·by_cases h2:k<22
  ·have HW2:Hid (wordF n raw=(n.tdiv 24) % 17 - 6):=by show _=_;rw [HW.out,if_neg (by omega),if_pos (by omega)]
   have m1:=Int.emod_nonneg (n.tdiv 24) (show (17:Int)≠0 by omega);have m2:=Int.emod_lt_of_pos (n.tdiv 24) (show (0:Int)<17 by omega);have C2:=h_ (fun (W:World)=>pick_c (n.tdiv 24) 17 W (by omega) (by omega));have e1:wrap64 (n.tdiv 24)=n.tdiv 24:=wrap64_of (hn.tdiv 24 (by omega));generalize (n.tdiv 24) % 17=x at *;go_enter Tryz.func31,Tryz.ntmps31;go_wp2_with fail
   refine (C1.out _).mono ?_;rintro e w2 ⟨rfl,rfl⟩;clear HW C1 Hq;go_wp2_with fail
   refine (C2.out _).mono ?_;rintro e w2 ⟨rfl,rfl⟩;go_wp2_with fail
   go_ret;exact ⟨by rw [HW2.out];rfl,Upd.refl.alloc _⟩
  ·have HW2:Hid (wordF n raw=raw):=by show _=_;rw [HW.out,if_neg (by omega),if_neg (by omega)]
   go_enter Tryz.func31,Tryz.ntmps31;go_wp2_with fail
   refine (C1.out _).mono ?_;rintro e w2 ⟨rfl,rfl⟩;clear HW C1 Hq;go_wp2_with fail
   go_ret;exact ⟨by rw [HW2.out];rfl,Upd.refl.alloc _⟩
end Go.Proofs.YtifhejahbbnkiaaGreat
namespace Go.Proofs.YtifhejahbbnkiaaGreat
open Go.RowKit
inductive Pt where
 | mk (v op imm iv:Int) (kids:List Pt)
def Pt.v:Pt→Int | .mk v _ _ _ _=>v
def Pt.op:Pt→Int | .mk _ op _ _ _=>op
def Pt.imm:Pt→Int | .mk _ _ imm _ _=>imm
def Pt.iv:Pt→Int | .mk _ _ _ iv _=>iv
def Pt.kids:Pt→List Pt | .mk _ _ _ _ kids=>kids
mutual
def Pt.size:Pt→Nat
 | .mk _ _ _ _ kids=>1+Pt.sizeL kids
def Pt.sizeL:List Pt→Nat
 | []=>0
 | k::ks=>k.size+Pt.sizeL ks
end
theorem Pt.size_eq (p:Pt):p.size=1+Pt.sizeL p.kids:=by cases p;simp only [Pt.size,Pt.kids]
theorem Pt.sizeL_take:∀(l:List Pt) (k:Nat) (h:k<l.length),Pt.sizeL (l.take (k+1))=Pt.sizeL (l.take k)+l[k].size
 | [],k,h=>absurd h (by simp)
 | a::l,0,h=>by simp [Pt.sizeL]
 | a::l,k+1,h=>by
  have:=Pt.sizeL_take l k (by simpa using h);simp only [List.take_succ_cons,Pt.sizeL,List.getElem_cons_succ];omega
theorem Pt.sizeL_mem {k:Pt}:∀{l:List Pt},k∈l→k.size≤Pt.sizeL l
 | a::l,h=>by
  simp only [Pt.sizeL];rcases List.mem_cons.1 h with rfl | h
  ·omega
  ·have:=Pt.sizeL_mem h;omega
theorem Pt.sizeL_take_le:∀(l:List Pt) (k:Nat),Pt.sizeL (l.take k)≤Pt.sizeL l
 | [],k=>by simp [Pt.sizeL]
 | a::l,0=>by simp [Pt.sizeL]
 | a::l,k+1=>by have:=Pt.sizeL_take_le l k;simp only [List.take_succ_cons,Pt.sizeL];omega
theorem Pt.kids_lt {p k:Pt} (h:k∈p.kids):k.size<p.size:=by have:=Pt.sizeL_mem h;rw [Pt.size_eq p];omega
theorem Pt.len_le:∀(l:List Pt),l.length≤Pt.sizeL l
 | []=>by simp
 | a::l=>by have:=Pt.len_le l;have:=Pt.size_eq a;simp only [List.length_cons,Pt.sizeL];omega
theorem Pt.ind {Q:Pt→Prop} (h:∀p,(∀k∈p.kids,Q k)→Q p) (p:Pt):Q p:=by
 suffices ∀n p,Pt.size p≤n→Q p from this _ p (Nat.le_refl _)
 intro n
 induction n with
 | zero=>intro p hp;have:=Pt.size_eq p;omega
 | succ n ih=>intro p hp;exact h p fun k hk=>ih k (by have:=Pt.kids_lt hk;omega)
mutual
def PtK (w:World) (F:Nat→Prop):Pt→Option Addr→Nat→Prop
 | .mk _ _ _ _ kids,KA,kc=>kids.length≤kc∧(kids=[]∨∃b o,KA=some ⟨b,o,none⟩∧F b∧PtL w F b kids o)
def PtL (w:World) (F:Nat→Prop) (b:Nat):List Pt→Nat→Prop
 | [],_=>True
 | k::ks,o=>(∃KA kc,w.cell? ⟨b,o,none⟩=some (.int .i64 k.v)∧w.cell? ⟨b,o+1,none⟩=some (.int .i64 k.op)∧w.cell? ⟨b,o+2,none⟩=some (.int .i64 k.imm)∧w.cell? ⟨b,o+3,none⟩=some (.int .i64 k.iv)∧w.cell? ⟨b,o+4,none⟩=some (.slice KA k.kids.length kc)∧PtK w F k KA kc)∧PtL w F b ks (o+5)
end
def PtAt (w:World) (F:Nat→Prop) (b o:Nat) (k:Pt):Prop:=∃KA kc,w.cell? ⟨b,o,none⟩=some (.int .i64 k.v)∧w.cell? ⟨b,o+1,none⟩=some (.int .i64 k.op)∧w.cell? ⟨b,o+2,none⟩=some (.int .i64 k.imm)∧w.cell? ⟨b,o+3,none⟩=some (.int .i64 k.iv)∧w.cell? ⟨b,o+4,none⟩=some (.slice KA k.kids.length kc)∧PtK w F k KA kc
section
variable {w w':World} {F G S:Nat→Prop}
theorem PtK.iff {p:Pt} {KA:Option Addr} {kc:Nat}:PtK w F p KA kc↔p.kids.length≤kc∧(p.kids=[]∨∃b o,KA=some ⟨b,o,none⟩∧F b∧PtL w F b p.kids o):=by
 cases p;simp only [PtK,Pt.kids]
theorem PtL.iff_cons {b o:Nat} {k:Pt} {ks:List Pt}:PtL w F b (k::ks) o↔PtAt w F b o k∧PtL w F b ks (o+5):=by simp only [PtL,PtAt]
theorem PtL.at_ {b:Nat}:∀{ks:List Pt} {o i:Nat},PtL w F b ks o→∀(h:i<ks.length),PtAt w F b (o+i * 5) ks[i]
 | k::ks,o,0,h,_=>by rw [PtL.iff_cons] at h;simpa using h.1
 | k::ks,o,i+1,h,hi=>by
  rw [PtL.iff_cons] at h;have:=PtL.at_ (i:=i) h.2 (by simpa using hi);rw [show o+(i+1) * 5=o+5+i * 5 by omega];exact this
theorem PtL.of {b:Nat}:∀{ks:List Pt} {o:Nat},(∀i (h:i<ks.length),PtAt w F b (o+i * 5) ks[i])→PtL w F b ks o
 | [],_,_=>by simp [PtL]
 | k::ks,o,h=>by
  rw [PtL.iff_cons];refine ⟨by have h0:=h 0 (by simp);rw [Nat.zero_mul,Nat.add_zero] at h0;exact h0,PtL.of fun i hi=>?_⟩;have:=h (i+1) (by simpa using hi);rw [show o+(i+1) * 5=o+5+i * 5 by omega] at this;exact this
theorem PtK.at_ {p:Pt} {KA:Option Addr} {kc:Nat} (h:PtK w F p KA kc) {i:Nat} (hi:i<p.kids.length):∃b o,KA=some ⟨b,o,none⟩∧F b∧b<w.heap.size∧PtAt w F b (o+i * 5) p.kids[i]:=by
 rcases (PtK.iff.1 h).2 with e | ⟨b,o,e,hF,hl⟩
 ·rw [e] at hi;simp at hi
 ·have:=hl.at_ hi;obtain ⟨_,_,h0,_⟩:=id this;exact ⟨b,o,e,hF,World.block_lt_of_cell? _ _ h0,this⟩
theorem PtK.upd (u:Upd S w w') (d:∀k,k<w.heap.size→F k→¬S k):∀(p:Pt) (KA:Option Addr) (kc:Nat),PtK w F p KA kc→PtK w' F p KA kc:=by
 intro p
 induction p using Pt.ind with
 | h p ih =>
  intro KA kc h;rw [PtK.iff] at h ⊢;refine ⟨h.1,h.2.imp_right fun ⟨b,o,e,hF,hl⟩=>⟨b,o,e,hF,PtL.of fun i hi=>?_⟩⟩;obtain ⟨KB,kd,h0,h1,h2,h3,h4,h5⟩:=hl.at_ hi;have hb:¬S b:=d b (World.block_lt_of_cell? _ _ h0) hF;exact ⟨KB,kd,u_ h0 u hb,u_ h1 u hb,u_ h2 u hb,u_ h3 u hb,u_ h4 u hb,ih _ (List.getElem_mem hi) KB kd h5⟩
theorem PtK.mono (hFG:∀k,k<w.heap.size→F k→G k):∀(p:Pt) (KA:Option Addr) (kc:Nat),PtK w F p KA kc→PtK w G p KA kc:=by
 intro p
 induction p using Pt.ind with
 | h p ih =>
  intro KA kc h;rw [PtK.iff] at h ⊢;refine ⟨h.1,?_⟩;rcases h.2 with e | ⟨b,o,e,hF,hl⟩
  ·exact .inl e
  ·by_cases h0:p.kids=[]
   ·exact .inl h0
   ·have hp:0<p.kids.length:=List.length_pos_iff.2 h0;obtain ⟨_,_,g0,_⟩:=hl.at_ hp;refine .inr ⟨b,o,e,hFG b (World.block_lt_of_cell? _ _ g0) hF,PtL.of fun i hi=>?_⟩;obtain ⟨KB,kd,h0,h1,h2,h3,h4,h5⟩:=hl.at_ hi;exact ⟨KB,kd,h0,h1,h2,h3,h4,ih _ (List.getElem_mem hi) KB kd h5⟩
end
def pv (p:Pt) (KA:Option Addr) (kc:Nat):Value:=.agg #[.int .i64 p.v,.int .i64 p.op,.int .i64 p.imm,.int .i64 p.iv,.slice KA p.kids.length kc]
set_option maxHeartbeats 1000000 in
theorem ptSize_c (p:Pt):∀(w:World) (F:Nat→Prop) (KA:Option Addr) (kc:Nat),PtK w F p KA kc→p.size≤1000000000000 →
  Calls Tryz.prog 168 #[pv p KA kc] w fun e w'=>e=.returned (.int .i64 (p.size:Int))∧Upd Non w w':=by
 induction p using Pt.ind with
 | h p ih =>
  intro w F KA kc hp hs;have hse:=Pt.size_eq p;have hle:=Pt.len_le p.kids;have HI:=h_ ih;obtain ⟨W,HW⟩:=nm (w.alloc (.cells #[.int .i64 p.v,.int .i64 p.op,.int .i64 p.imm,.int .i64 p.iv,.slice KA p.kids.length kc] 38));have hU:Upd Non w W:=by rw [←HW.out];exact Upd.refl.alloc _
  have hb:Blk W w.heap.size 38 #[.int .i64 p.v,.int .i64 p.op,.int .i64 p.imm,.int .i64 p.iv,.slice KA p.kids.length kc]:=by rw [←HW.out];exact Blk.new _ _ _
  have e0:=HW.out;have c4:=hb.cell 4;have hpW:=PtK.upd hU (fun _ _ _ f=>f) p KA kc hp;have HS:=h_ hse;unfold pv;clear ih hse hp;obtain ⟨n,Hn⟩:=nm p.kids.length;rw [Hn.out] at c4 hle e0;have hn12:n≤1000000000000:=by have:=HS.out;omega
  rw [Hn.out];go_enter Tryz.func168,Tryz.ntmps168;go_wp2_with fail
  go_loopg [3,5,9] n (fun g v _ i wr=>∃k:Nat,Hid (g=n - k)∧k≤n∧i=.int .i64 k∧v=.int .i64 ((1+Pt.sizeL (p.kids.take k):Nat):Int)∧Upd Non W wr)
  case atStart=>exact ⟨0,rfl,by omega,rfl,by simp [Pt.sizeL],Upd.refl⟩
  case round =>
   obtain ⟨k,Hg,hk,rfl,rfl,hu⟩:=hrel;by_cases hlt:k<n
   ·have hkl:k<p.kids.length:=by rw [Hn.out];exact hlt
    obtain ⟨b,o,rfl,hF,hbw,KB,kd,h0,h1,h2,h3,h4,h5⟩:=(PtK.upd hu (fun _ _ _ f=>f) p KA kc hpW).at_ hkl;have hks:p.kids[k].size≤1000000000000:=by have:=Pt.kids_lt (List.getElem_mem hkl);omega
    have hkk:=Pt.sizeL_take p.kids k hkl;have hkt:=Pt.sizeL_take_le p.kids (k+1);have hmem0:=List.getElem_mem hkl;generalize p.kids[k]=q at *;obtain ⟨W3,HW3⟩:=nm (wr.alloc (.cells #[.int .i64 q.v,.int .i64 q.op,.int .i64 q.imm,.int .i64 q.iv,.slice KB q.kids.length kd] 38));have hq:=PtK.upd (Upd.refl.alloc (S:=Non) (.cells #[.int .i64 q.v,.int .i64 q.op,.int .i64 q.imm,.int .i64 q.iv,.slice KB q.kids.length kd] 38)) (fun _ _ _ f=>f) q KB kd h5
    have hmem:q∈p.kids:=by assumption
    have C1:=h_ (HI.out q hmem _ F KB kd hq hks);unfold pv at C1;obtain ⟨z,Hz⟩:=nm (1+Pt.sizeL (p.kids.take k));have hz1:1+Pt.sizeL (p.kids.take (k+1))=z+q.size:=by rw [←Hz.out];omega
    have HZ:=h_ hz1;have hz2:z+q.size≤2000000000000:=by have:=HS.out;omega
    rw [Hz.out];clear hkk hkt hz1 h5 hq;go_wp2_with fail
    refine C1.out.mono ?_;rintro e w4 ⟨rfl,hu4⟩;go_wp2_with fail
    go_roundg (n - (k+1))
    case measure=>rw [Hg.out];omega
    case rel=>exact ⟨k+1,rfl,by omega,by go_num,by rw [HZ.out];go_num,(hu.alloc _).then_non hu4⟩
   ·obtain rfl:n=k:=by omega
    have HT:Hid (1+Pt.sizeL (p.kids.take n)=p.size):=by show _=_;rw [HS.out,←Hn.out];simp
    rw [HT.out];go_wp2_with fail
    go_ret;exact ⟨rfl,hU.then_non hu⟩
end Go.Proofs.YtifhejahbbnkiaaGreat
namespace Go.Proofs.YtifhejahbbnkiaaGreat
open Go.RowKit
section
variable {w:World} {F:Nat→Prop} {g:Nat}
theorem PtK.leaf {v op imm iv:Int} {KA:Option Addr} {kc:Nat}:PtK w F (.mk v op imm iv []) KA kc:=by rw [PtK.iff];exact ⟨by simp [Pt.kids],.inl rfl⟩
theorem PtK.one {k0:Pt} {KA0:Option Addr} {kc0 kc:Nat} (v op imm iv:Int) (h:Blk w g 38 #[.int .i64 k0.v,.int .i64 k0.op,.int .i64 k0.imm,.int .i64 k0.iv,.slice KA0 k0.kids.length kc0]) (h0:PtK w F k0 KA0 kc0) (hF:F g) (hkc:1≤kc) :
  PtK w F (.mk v op imm iv [k0]) (some ⟨g,0,none⟩) kc:=by
 rw [PtK.iff];refine ⟨hkc,.inr ⟨g,0,rfl,hF,PtL.of fun i hi=>?_⟩⟩;have : i=0:=by simp [Pt.kids] at hi;omega
 subst this;exact ⟨KA0,kc0,h.cell 0,h.cell 1,h.cell 2,h.cell 3,h.cell 4,h0⟩
theorem PtK.two {k0 k1:Pt} {KA0 KA1:Option Addr} {kc0 kc1 kc:Nat} (v op imm iv:Int) (h:Blk w g 38 #[.int .i64 k0.v,.int .i64 k0.op,.int .i64 k0.imm,.int .i64 k0.iv,.slice KA0 k0.kids.length kc0,.int .i64 k1.v,.int .i64 k1.op,.int .i64 k1.imm,.int .i64 k1.iv,.slice KA1 k1.kids.length kc1]) (h0:PtK w F k0 KA0 kc0) (h1:PtK w F k1 KA1 kc1) (hF:F g) (hkc:2≤kc) :
  PtK w F (.mk v op imm iv [k0,k1]) (some ⟨g,0,none⟩) kc:=by
 rw [PtK.iff];refine ⟨hkc,.inr ⟨g,0,rfl,hF,PtL.of fun i hi=>?_⟩⟩;have : i=0∨i=1:=by simp [Pt.kids] at hi;omega
 rcases this with rfl | rfl
 ·exact ⟨KA0,kc0,h.cell 0,h.cell 1,h.cell 2,h.cell 3,h.cell 4,h0⟩
 ·exact ⟨KA1,kc1,h.cell 5,h.cell 6,h.cell 7,h.cell 8,h.cell 9,h1⟩
end
end Go.Proofs.YtifhejahbbnkiaaGreat
namespace Go.Proofs.YtifhejahbbnkiaaGreat
open Go.RowKit
set_option maxRecDepth 100000 in
set_option maxHeartbeats 1000000 in
theorem next_c (w:World) (p:Nat) (A:Option Addr) (c:Nat) (xs:List Int) (lp:Value) (F:Nat→Prop) (hF:∀k,F k→k≠p) (hb:Blk w p 96 #[.slice A xs.length c,lp]) (hx:Ints w F A xs) (hc:xs.length≤c) :
  Calls Tryz.prog 56 #[.pointer (some ⟨p,0,none⟩)] w fun e w'=>e=.returned (.int .i64 (xs.headD 0))∧∃A' c',Blk w' p 96 #[.slice A' xs.tail.length c',lp]∧Ints w' F A' xs.tail∧xs.tail.length≤c'∧Upd (·=p) w w':=by
 have c0:=hb.cell 0
 cases xs with
 | nil =>
  go_enter Tryz.func56,Tryz.ntmps56;go_wp2_with fail
  go_ret;exact ⟨rfl,A,c,hb,Ints.nil,hc,Upd.refl⟩
 | cons x xs =>
  obtain ⟨b,o,rfl,hFb,_,h1⟩:=hx.at_ (k:=0) (by simp);rw [Nat.add_zero] at h1;simp only [List.getElem_cons_zero] at h1;have f0:=hb.frozen 0;have hc':xs.length+1≤c:=by simpa using hc
  have hne:=hF b hFb;by_cases hc1:c=1
  ·subst hc1;obtain rfl:xs=[]:=List.eq_nil_of_length_eq_zero (by omega);go_enter Tryz.func56,Tryz.ntmps56;go_wp2_with fail
   go_ret;have hb2:=hb.set_ 0 (.slice (some ⟨b,o,none⟩) 0 0);refine ⟨rfl,some ⟨b,o,none⟩,0,?_,Ints.nil,by simp,Upd.refl.setCell (S:=(·=p)) (p:=⟨p,0,none⟩) (.inl rfl) _⟩;simpa using hb2
  ·have hb2:=hb.set_ 0 (.slice (some ⟨b,o+1,none⟩) xs.length (c - 1));have hx2:=hx.upd (Upd.refl.setCell (p:=⟨p,0,none⟩) (S:=(·=p)) (.inl rfl) (.slice (some ⟨b,o+1,none⟩) xs.length (c - 1))) (fun k _ h=>hF k h)
   have d:((c:Int)==1)=false:=by simp;omega
   have HX:Hid (Ints (w.setCell ⟨p,0,none⟩ (.slice (some ⟨b,o+1,none⟩) xs.length (c - 1))) F (some ⟨b,o+1,none⟩) xs):=by
    refine .inr ⟨b,o+1,rfl,hFb,fun j hj=>?_⟩;have hj':j<xs.length:=by simpa using hj
    obtain ⟨b',o',e,_,_,hc⟩:=hx2.at_ (k:=j+1) (by simpa using hj');injection e with e;injection e with e1 e2;subst e1;subst e2
    rw [Nat.add_assoc,Nat.add_comm 1 j,hc];simp
   clear hx2 hx;go_enter Tryz.func56,Tryz.ntmps56;go_wp2_with fail
   go_ret;refine ⟨rfl,some ⟨b,o+1,none⟩,c - 1,?_,HX.out,by simp;omega,Upd.refl.setCell (S:=(·=p)) (p:=⟨p,0,none⟩) (.inl rfl) _⟩;simpa using hb2
def Rd (w:World) (F:Nat→Prop) (p:Nat) (xs:List Int):Prop:=∃A c lp,Blk w p 96 #[.slice A xs.length c,lp]∧Ints w F A xs∧xs.length≤c∧∀x∈xs,I64 x
theorem Rd.upd {w w':World} {F S:Nat→Prop} {p:Nat} {xs:List Int} (h:Rd w F p xs) (u:Upd S w w') (d:∀k,k<w.heap.size→F k→¬S k) (hp:¬S p):Rd w' F p xs:=by
 obtain ⟨A,c,lp,h1,h2,h3⟩:=h;exact ⟨A,c,lp,h1.upd u hp,h2.upd u d,h3⟩
theorem Rd.mono {w:World} {F G:Nat→Prop} {p:Nat} {xs:List Int} (h:Rd w F p xs) (d:∀k,k<w.heap.size→F k→G k):Rd w G p xs:=by
 obtain ⟨A,c,lp,h1,h2,h3⟩:=h;exact ⟨A,c,lp,h1,h2.mono d,h3⟩
theorem Rd.lt {w:World} {F:Nat→Prop} {p:Nat} {xs:List Int} (h:Rd w F p xs):p<w.heap.size:=by obtain ⟨_,_,_,h1,_⟩:=h;exact h1.lt
theorem Rd.i64 {w:World} {F:Nat→Prop} {p:Nat} {xs:List Int} (h:Rd w F p xs):I64 (xs.headD 0):=by
 obtain ⟨_,_,_,_,_,_,h⟩:=h
 cases xs with
 | nil=>show I64 0;unfold I64;omega
 | cons x xs=>exact h x (by simp)
theorem rdNext_c {w:World} {F:Nat→Prop} {p:Nat} {xs:List Int} (hF:∀k,F k→k≠p) (h:Rd w F p xs) :
  Calls Tryz.prog 56 #[.pointer (some ⟨p,0,none⟩)] w fun e w'=>e=.returned (.int .i64 (xs.headD 0))∧Rd w' F p xs.tail∧Upd (·=p) w w':=by
 obtain ⟨A,c,lp,h1,h2,h3,h4⟩:=h;refine (next_c w p A c xs lp F hF h1 h2 h3).mono ?_;rintro e w' ⟨rfl,A',c',g1,g2,g3,g4⟩;exact ⟨rfl,⟨A',c',lp,g1,g2,g3,fun x hx=>h4 x (List.mem_of_mem_tail hx)⟩,g4⟩
def set5 (w:World) (g:Nat) (a b c d e:Value):World:=((((w.setCell ⟨g,0,none⟩ a).setCell ⟨g,1,none⟩ b).setCell ⟨g,2,none⟩ c).setCell ⟨g,3,none⟩ d).setCell ⟨g,4,none⟩ e
theorem set5_blk {w:World} {g:Nat} {x0 x1 x2 x3 x4:Value} (h:Blk w g 38 #[x0,x1,x2,x3,x4]) (a b c d e:Value):Blk (set5 w g a b c d e) g 38 #[a,b,c,d,e]:=by
 have h1:=((((h.set_ 0 a).set_ 1 b).set_ 2 c).set_ 3 d).set_ 4 e;simpa [set5] using h1
theorem set5_upd (w:World) (g:Nat) (a b c d e:Value):Upd (·=g) w (set5 w g a b c d e) :=
 ((((Upd.refl.setCell (S:=(·=g)) (p:=⟨g,0,none⟩) (.inl rfl) _).setCell (p:=⟨g,1,none⟩) (.inl rfl) _).setCell (p:=⟨g,2,none⟩) (.inl rfl) _).setCell (p:=⟨g,3,none⟩) (.inl rfl) _).setCell (p:=⟨g,4,none⟩) (.inl rfl) _
theorem wordF_i64 (n:Int) {x:Int} (h:I64 x):I64 (wordF n x):=by
 unfold wordF
 split
 ·have h1:∀k:Fin 10,I64 (edgesF.getD k.val 0):=by unfold I64;decide +kernel
  have h0:0≤n % 24:=Int.emod_nonneg _ (by omega);exact h1 ⟨(n % 24).toNat,by omega⟩
 ·split
  ·unfold I64;omega
  ·exact h
theorem set5_eq (w:World) (g:Nat) (a b c d e:Value):((((w.setCell ⟨g,0,none⟩ a).setCell ⟨g,1,none⟩ b).setCell ⟨g,2,none⟩ c).setCell ⟨g,3,none⟩ d).setCell ⟨g,4,none⟩ e=set5 w g a b c d e:=rfl
def hasImmF (op:Int):Bool:=decide (op=1∨op=23∨op=27∨op=28)
def oSortsF (op:Int):List Int×Int×Bool :=
 if op=1 then ([],1,true) else if op=23 then ([2,1],1,true) else if op=24 then ([2],1,true) else if op=27∨op=29 then ([2,1],2,true) else if op=28 then ([2,1,1],2,true)
 else if 4≤op∧op≤22 then ((if op=20∨op=21 then [1] else if op=22 then [1,1,1] else [1,1]),1,true) else ([],0,false)
def pImmF (p:Pt) (imms:Int):Bool :=
 if p.iv≠0 then hasImmF p.op&&decide (p.imm=0∧1≤p.iv∧p.iv≤imms) else if p.op=23∨p.op=28 then decide (0≤p.imm∧p.imm<4) else if p.op=27 then decide (1≤p.imm∧p.imm≤1000016) else decide (p.op=1∨p.imm=0)
theorem ptArity_c (op:Int) (w:World):Calls Tryz.prog 242 #[.int .i64 op] w fun e w'=>e=.returned (.tuple #[.int .i64 (arityF op).1,.bool (arityF op).2])∧w=w':=by
 go_enter Tryz.func242,Tryz.ntmps242
 go_wp2
 all_goals
  go_ret2;refine ⟨?_,rfl⟩
  (try simp only [beq_iff_eq,beq_eq_false_iff_ne,ne_eq] at *)
  unfold arityF
  (repeat' split) <;> first | rfl | (exfalso;omega)
theorem ptHasImm_c (op:Int) (w:World):Calls Tryz.prog 243 #[.int .i64 op] w fun e w'=>e=.returned (.bool (hasImmF op))∧w=w':=by
 go_enter Tryz.func243,Tryz.ntmps243
 go_wp2
 all_goals
  go_ret;refine ⟨?_,rfl⟩;show Ending.returned (Value.bool _)=_
  congr 2
  unfold hasImmF
  (try simp only [beq_iff_eq,beq_eq_false_iff_ne,ne_eq] at *)
  rw [Bool.eq_iff_iff];simp;omega
theorem ptOpSorts_c (op:Int) (w:World):Calls Tryz.prog 223 #[.int .i64 op] w fun e w'=>∃A c,e=.returned (.tuple #[.slice A (oSortsF op).1.length c,.int .i64 (oSortsF op).2.1,.bool (oSortsF op).2.2])∧Ints w' (fun k=>w.heap.size≤k) A (oSortsF op).1∧Upd Non w w':=by
 have C1:=h_ (fun w=>ptArity_c op w)
 have hI:∀(w:World) (xs:List Int) (cs:Array Value),cs=(xs.map fun x=>Value.int .i64 x).toArray→Ints (w.alloc (.cells cs 3)) (fun k=>w.heap.size≤k) (some ⟨w.heap.size,0,none⟩) xs:=fun w xs cs h=>by
  have:=Sl.new w 3 (xs.map fun x=>Value.int .i64 x);rw [←h] at this;exact this.mono (fun k _ hk=>by have : k=w.heap.size:=hk;omega)
 by_cases h4:4≤op∧op≤22
 ·obtain ⟨m,hm,ha,ho⟩:∃m:Nat,1≤m∧(m≤3∧arityF op=((m:Int),true))∧oSortsF op=(([1,1,1]:List Int).take m,1,true):=by
   have h0:oSortsF op=((if op=20∨op=21 then [1] else if op=22 then [1,1,1] else [1,1]),1,true):=by
    unfold oSortsF;rw [if_neg (by omega),if_neg (by omega),if_neg (by omega),if_neg (by omega),if_neg (by omega),if_pos h4]
   by_cases h1:op=20∨op=21
   ·refine ⟨1,by omega,⟨by omega,?_⟩,by rw [h0,if_pos h1];rfl⟩;unfold arityF;rw [if_neg (by omega),if_pos (by omega)];rfl
   ·by_cases h2:op=22
    ·refine ⟨3,by omega,⟨by omega,?_⟩,by rw [h0,if_neg h1,if_pos h2];rfl⟩;unfold arityF;rw [if_neg (by omega),if_neg (by omega),if_neg (by omega),if_pos (by omega)];rfl
    ·refine ⟨2,by omega,⟨by omega,?_⟩,by rw [h0,if_neg h1,if_neg h2];rfl⟩;unfold arityF;rw [if_neg (by omega),if_neg (by omega),if_pos (by omega)];rfl
  obtain ⟨hm3,ha⟩:=ha;rw [ha] at C1;have ho:=h_ ho;have hl:(([1,1,1]:List Int).take m).length=m:=by simp;omega
  rw [ho.out,hl];have n1:(op==1)=false:=by rw [beq_eq_false_iff_ne];omega
  have n2:(op==23)=false:=by rw [beq_eq_false_iff_ne];omega
  have n3:(op==24)=false:=by rw [beq_eq_false_iff_ne];omega
  have n4:(op==27)=false:=by rw [beq_eq_false_iff_ne];omega
  have n5:(op==29)=false:=by rw [beq_eq_false_iff_ne];omega
  have n6:(op==28)=false:=by rw [beq_eq_false_iff_ne];omega
  have n7:decide (op<4)=false:=dF_ (by omega);have n8:decide (op > 22)=false:=dF_ (by omega);have r1:(0:Int)≤(m:Int):=by omega
  have r2:(m:Int)≤3:=by omega
  clear ha h4 hl;go_enter Tryz.func223,Tryz.ntmps223;go_wp2_with fail
  refine (C1.out _).mono ?_;rintro e w1 ⟨rfl,rfl⟩;go_wp2_with fail
  go_ret3
  refine ⟨some ⟨w.heap.size,0,none⟩,3,rfl,?_,Upd.refl.alloc _⟩;exact (hI w [1,1,1] _ rfl).take_ m
 ·have c1:op=1∨op=23∨op=24∨op=27∨op=29∨op=28∨(op≠1∧op≠23∧op≠24∧op≠27∧op≠29∧op≠28):=by omega
  rcases c1 with rfl | rfl | rfl | rfl | rfl | rfl | hne
  ·clear C1;go_enter Tryz.func223,Tryz.ntmps223;go_wp2_with fail
   go_ret3
   exact ⟨none,0,rfl,.nil,Upd.refl⟩
  ·clear C1;go_enter Tryz.func223,Tryz.ntmps223;go_wp2_with fail
   go_ret3
   exact ⟨_,2,rfl,hI w [2,1] _ rfl,Upd.refl.alloc _⟩
  ·clear C1;go_enter Tryz.func223,Tryz.ntmps223;go_wp2_with fail
   go_ret3
   exact ⟨_,1,rfl,hI w [2] _ rfl,Upd.refl.alloc _⟩
  ·clear C1;go_enter Tryz.func223,Tryz.ntmps223;go_wp2_with fail
   go_ret3
   exact ⟨_,2,rfl,hI w [2,1] _ rfl,Upd.refl.alloc _⟩
  ·clear C1;go_enter Tryz.func223,Tryz.ntmps223;go_wp2_with fail
   go_ret3
   exact ⟨_,2,rfl,hI w [2,1] _ rfl,Upd.refl.alloc _⟩
  ·clear C1;go_enter Tryz.func223,Tryz.ntmps223;go_wp2_with fail
   go_ret3
   exact ⟨_,3,rfl,hI w [2,1,1] _ rfl,Upd.refl.alloc _⟩
  ·obtain ⟨m1,m2,m3,m4,m5,m6⟩:=hne
   have ho:Hid (oSortsF op=([],0,false)):=by
    show _=_;unfold oSortsF;rw [if_neg m1,if_neg m2,if_neg m3,if_neg (by omega),if_neg m6,if_neg h4]
   rw [ho.out];have n1:(op==1)=false:=by rw [beq_eq_false_iff_ne];omega
   have n2:(op==23)=false:=by rw [beq_eq_false_iff_ne];omega
   have n3:(op==24)=false:=by rw [beq_eq_false_iff_ne];omega
   have n4:(op==27)=false:=by rw [beq_eq_false_iff_ne];omega
   have n5:(op==29)=false:=by rw [beq_eq_false_iff_ne];omega
   have n6:(op==28)=false:=by rw [beq_eq_false_iff_ne];omega
   obtain ⟨z,Hz⟩:∃z,arityF op=z:=⟨_,rfl⟩;rw [Hz] at C1;obtain ⟨x,y⟩:=z;dsimp only at C1;clear Hz;by_cases hlt:op<4
   ·have n7:decide (op<4)=true:=dT_ hlt;cases y <;>
    ·go_enter Tryz.func223,Tryz.ntmps223;go_wp2_with fail
     refine (C1.out _).mono ?_;rintro e w1 ⟨rfl,rfl⟩;go_wp2_with fail
     go_ret3
     exact ⟨none,0,rfl,.nil,Upd.refl⟩
   ·have n7:decide (op<4)=false:=dF_ hlt;have n8:decide (op > 22)=true:=dT_ (by omega);cases y <;>
    ·go_enter Tryz.func223,Tryz.ntmps223;go_wp2_with fail
     refine (C1.out _).mono ?_;rintro e w1 ⟨rfl,rfl⟩;go_wp2_with fail
     go_ret3
     exact ⟨none,0,rfl,.nil,Upd.refl⟩
set_option maxHeartbeats 4000000 in
theorem ptValidImm_c (p:Pt) (KA:Option Addr) (kc:Nat) (imms:Int) (w:World):Calls Tryz.prog 224 #[pv p KA kc,.int .i64 imms] w fun e w'=>e=.returned (.bool (pImmF p imms))∧Upd Non w w':=by
 obtain ⟨v,op,imm,iv,kids⟩:=p;obtain ⟨W,HW⟩:=nm (w.alloc (.cells #[.int .i64 v,.int .i64 op,.int .i64 imm,.int .i64 iv,.slice KA kids.length kc] 38));have hU:Upd Non w W:=by rw [←HW.out];exact Upd.refl.alloc _
 have hb:Blk W w.heap.size 38 #[.int .i64 v,.int .i64 op,.int .i64 imm,.int .i64 iv,.slice KA kids.length kc]:=by rw [←HW.out];exact Blk.new _ _ _
 have e0:=HW.out;have c1:=hb.cell 1;have c2:=hb.cell 2;have c3:=hb.cell 3;have C1:=h_ (fun W=>ptHasImm_c op W);obtain ⟨R,HR⟩:=nm (pImmF (.mk v op imm iv kids) imms);rw [HR.out];unfold pv;simp only [Pt.v,Pt.op,Pt.imm,Pt.iv,Pt.kids];obtain ⟨hi,Hhi⟩:=nm (hasImmF op);rw [Hhi.out] at C1;have HF:Hid (R=if iv≠0 then hi&&decide (imm=0∧1≤iv∧iv≤imms) else if op=23∨op=28 then decide (0≤imm∧imm<4) else if op=27 then decide (1≤imm∧imm≤1000016) else decide (op=1∨imm=0)):=by show _=_;rw [←HR.out,←Hhi.out];rfl
 obtain ⟨b1,f1⟩:∃b,(op==23)=b:=⟨_,rfl⟩;obtain ⟨b2,f2⟩:∃b,(op==28)=b:=⟨_,rfl⟩;obtain ⟨b3,f3⟩:∃b,(op==27)=b:=⟨_,rfl⟩;obtain ⟨b4,f4⟩:∃b,(op==1)=b:=⟨_,rfl⟩;obtain ⟨b5,f5⟩:∃b,decide (imm ≥ 0)=b:=⟨_,rfl⟩;obtain ⟨b6,f6⟩:∃b,decide (imm<4)=b:=⟨_,rfl⟩;obtain ⟨b7,f7⟩:∃b,decide (imm ≥ 1)=b:=⟨_,rfl⟩;obtain ⟨b8,f8⟩:∃b,decide (imm≤1000016)=b:=⟨_,rfl⟩;obtain ⟨b9,f9⟩:∃b,(imm==0)=b:=⟨_,rfl⟩;obtain ⟨b10,f10⟩:∃b,decide (iv ≥ 1)=b:=⟨_,rfl⟩;obtain ⟨b11,f11⟩:∃b,decide (iv≤imms)=b:=⟨_,rfl⟩
 have close:∀x:Bool,(Hid (x=(if iv≠0 then hi&&(b9&&(b10&&b11)) else if b1 || b2 then b5&&b6 else if b3 then b7&&b8 else b4 || b9)))→x=R:=fun x hx=>by
  rw [hx.out,HF.out,←f1,←f2,←f3,←f4,←f5,←f6,←f7,←f8,←f9,←f10,←f11];by_cases a1:iv=0
  ·by_cases a2:op=23 <;> by_cases a3:op=28 <;> by_cases a4:op=27 <;> simp [a1,a2,a3,a4,Bool.beq_eq_decide_eq,Bool.decide_and,Bool.decide_or]
  ·cases hi <;> by_cases a5:imm=0 <;> simp [a1,a5,Bool.beq_eq_decide_eq,Bool.decide_and]
 have Hcl:=h_ close;by_cases h1:iv=0
 ·have t1:(iv != 0)=false:=by simpa using h1
  clear HF HR close;have h1:=h_ h1
  cases b1 with
  | true =>
   cases b5 <;> cases b6
   all_goals
    go_enter Tryz.func224,Tryz.ntmps224;go_wp2_with fail
    go_ret;refine ⟨congrArg (fun b=>Ending.returned (Value.bool b)) (Hcl.out _ ?_),by first | exact hU | exact Upd.refl.alloc _⟩;show _=_;rw [if_neg (fun q=>q h1.out)];rfl
  | false =>
   cases b2 with
   | true =>
    cases b5 <;> cases b6
    all_goals
     go_enter Tryz.func224,Tryz.ntmps224;go_wp2_with fail
     go_ret;refine ⟨congrArg (fun b=>Ending.returned (Value.bool b)) (Hcl.out _ ?_),by first | exact hU | exact Upd.refl.alloc _⟩;show _=_;rw [if_neg (fun q=>q h1.out)];rfl
   | false =>
    cases b3 with
    | true =>
     cases b7 <;> cases b8
     all_goals
      go_enter Tryz.func224,Tryz.ntmps224;go_wp2_with fail
      go_ret;refine ⟨congrArg (fun b=>Ending.returned (Value.bool b)) (Hcl.out _ ?_),by first | exact hU | exact Upd.refl.alloc _⟩;show _=_;rw [if_neg (fun q=>q h1.out)];rfl
    | false =>
     cases b4 <;> cases b9
     all_goals
      go_enter Tryz.func224,Tryz.ntmps224;go_wp2_with fail
      go_ret;refine ⟨congrArg (fun b=>Ending.returned (Value.bool b)) (Hcl.out _ ?_),by first | exact hU | exact Upd.refl.alloc _⟩;show _=_;rw [if_neg (fun q=>q h1.out)];rfl
 ·have t1:(iv != 0)=true:=by simpa using h1
  clear HF HR close;have h1:=h_ h1;cases hi <;> cases b9 <;> cases b10 <;> cases b11
  all_goals
   go_enter Tryz.func224,Tryz.ntmps224;go_wp2_with fail
   refine (C1.out _).mono ?_;rintro e w1 ⟨rfl,rfl⟩;go_wp2_with fail
   go_ret;refine ⟨congrArg (fun b=>Ending.returned (Value.bool b)) (Hcl.out _ ?_),by first | exact hU | exact Upd.refl.alloc _⟩;show _=_;rw [if_pos h1.out];rfl
mutual
def vPt:Pt→Int→Int→List Int→Bool×List Int
 | .mk v op imm iv kids,s,m,vs =>
  if v≠0 then
   if v<1∨v > vs.length∨op≠0∨imm≠0∨iv≠0∨0<kids.length then (false,vs)
   else if vs.getD (v - 1).toNat 0=0 then (true,vs.set (v - 1).toNat s) else (decide (s=0∨s=vs.getD (v - 1).toNat 0),vs)
  else if (oSortsF op).2.2=true∧kids.length=(oSortsF op).1.length∧(s=0∨s=(oSortsF op).2.1)∧pImmF (.mk v op imm iv kids) m=true then vKids kids (oSortsF op).1 m vs
  else (false,vs)
def vKids:List Pt→List Int→Int→List Int→Bool×List Int
 | [],_,_,vs=>(true,vs)
 | k::ks,ss,m,vs=>if (vPt k (ss.headD 0) m vs).1 then vKids ks ss.tail m (vPt k (ss.headD 0) m vs).2 else (false,(vPt k (ss.headD 0) m vs).2)
end
theorem vPt_var {p:Pt} (hv:p.v≠0) (s m:Int) (vs:List Int):vPt p s m vs =
  if p.v<1∨p.v > vs.length∨p.op≠0∨p.imm≠0∨p.iv≠0∨0<p.kids.length then (false,vs)
   else if vs.getD (p.v - 1).toNat 0=0 then (true,vs.set (p.v - 1).toNat s) else (decide (s=0∨s=vs.getD (p.v - 1).toNat 0),vs):=by
 obtain ⟨v,op,imm,iv,kids⟩:=p;simp only [vPt,Pt.v,Pt.op,Pt.imm,Pt.iv,Pt.kids] at hv ⊢;rw [if_pos hv];rfl
theorem vPt_op {p:Pt} (hv:p.v=0) (s m:Int) (vs:List Int):vPt p s m vs =
  if (oSortsF p.op).2.2=true∧p.kids.length=(oSortsF p.op).1.length∧(s=0∨s=(oSortsF p.op).2.1)∧pImmF p m=true then vKids p.kids (oSortsF p.op).1 m vs else (false,vs):=by
 obtain ⟨v,op,imm,iv,kids⟩:=p;simp only [vPt,Pt.v,Pt.op,Pt.kids] at hv ⊢;rw [if_neg (by omega)];rfl
theorem vKids_step {ks:List Pt} {ss:List Int} {m:Int} {vs:List Int} {k:Nat} (hk:k<ks.length) (hs:ks.length=ss.length) :
  vKids (ks.drop k) (ss.drop k) m vs=if (vPt ks[k] (ss[k]'(by omega)) m vs).1 then vKids (ks.drop (k+1)) (ss.drop (k+1)) m (vPt ks[k] (ss[k]'(by omega)) m vs).2 else (false,(vPt ks[k] (ss[k]'(by omega)) m vs).2):=by
 rw [List.drop_eq_getElem_cons hk,List.drop_eq_getElem_cons (show k<ss.length by omega)];simp only [vKids,List.headD_cons,List.tail_cons];rfl
theorem vPt_len (p:Pt):∀(s m:Int) (vs:List Int),(vPt p s m vs).2.length=vs.length:=by
 induction p using Pt.ind with
 | h p ih =>
  intro s m vs;by_cases hv:p.v=0
  ·rw [vPt_op hv]
   split
   ·suffices ∀(ks:List Pt) (ss:List Int) (vs:List Int),(∀k∈ks,∀(s m:Int) (vs:List Int),(vPt k s m vs).2.length=vs.length)→(vKids ks ss m vs).2.length=vs.length from this _ _ _ ih
    intro ks
    induction ks with
    | nil=>intro ss vs _;simp only [vKids]
    | cons k ks ihk =>
     intro ss vs hk;simp only [vKids]
     split
     ·rw [ihk _ _ (fun x hx=>hk x (List.mem_cons_of_mem _ hx))];exact hk k (by simp) _ _ _
     ·exact hk k (by simp) _ _ _
   ·rfl
  ·rw [vPt_var hv]
   split
   ·rfl
   ·split
    ·simp
    ·rfl
def VBlk (w:World) (g:Nat) (vs:List Int):Prop:=Blk w g 3 (icells vs).toArray
theorem VBlk.cell {w:World} {g:Nat} {vs:List Int} (h:VBlk w g vs) {i:Nat} (hi:i<vs.length):w.cell? ⟨g,i,none⟩=some (.int .i64 (vs.getD i 0)):=by
 rw [Blk.cell h];simp [icells,List.getD,hi]
theorem VBlk.set_ {w:World} {g:Nat} {vs:List Int} (h:VBlk w g vs) (i:Nat) (x:Int):VBlk (w.setCell ⟨g,i,none⟩ (.int .i64 x)) g (vs.set i x):=by
 have:=Blk.set_ h i (.int .i64 x);unfold VBlk;rw [show (icells (vs.set i x)).toArray=(icells vs).toArray.setIfInBounds i (.int .i64 x) by simp [icells,List.map_set]];exact this
set_option maxRecDepth 100000 in
set_option maxHeartbeats 4000000 in
theorem ptvalid_c (p:Pt):∀(w:World) (F:Nat→Prop) (KA:Option Addr) (kc g c:Nat) (s m:Int) (vs:List Int),PtK w F p KA kc→¬F g→VBlk w g vs→p.size≤1000000000000→vs.length≤1000000 →
  Calls Tryz.prog 169 #[pv p KA kc,.int .i64 s,.int .i64 m,.slice (some ⟨g,0,none⟩) vs.length c] w fun e w'=>e=.returned (.bool (vPt p s m vs).1)∧VBlk w' g (vPt p s m vs).2∧Upd (·=g) w w':=by
 induction p using Pt.ind with
 | h p ih =>
  intro w F KA kc g c s m vs hp hFg hg hs hvs;have hle:=Pt.len_le p.kids;have hse:=Pt.size_eq p;have HI:=h_ ih;have HPS:=h_ hs;have HV:=h_ (@vPt_var p);have HO:=h_ (@vPt_op p);obtain ⟨W,HW⟩:=nm (w.alloc (.cells #[.int .i64 p.v,.int .i64 p.op,.int .i64 p.imm,.int .i64 p.iv,.slice KA p.kids.length kc] 38));have hU:Upd Non w W:=by rw [←HW.out];exact Upd.refl.alloc _
  have hb:Blk W w.heap.size 38 #[.int .i64 p.v,.int .i64 p.op,.int .i64 p.imm,.int .i64 p.iv,.slice KA p.kids.length kc]:=by rw [←HW.out];exact Blk.new _ _ _
  have e0:=HW.out;have hgW:VBlk W g vs:=Blk.upd hg hU (fun f=>f);have hpW:=PtK.upd hU (fun _ _ _ f=>f) p KA kc hp;have hUg:Upd (·=g) w W:=hU.mono (fun _ _ f=>f.elim);have hglt:g<w.heap.size:=Blk.lt hg;have hsz:=hU.size;have c0:=hb.cell 0;have c1:=hb.cell 1;have c2:=hb.cell 2;have c3:=hb.cell 3;have c4:=hb.cell 4;have hn12:p.kids.length≤1000000000000:=by omega
  have CO:=h_ (fun w=>ptOpSorts_c p.op w);have CI:=h_ (fun w=>ptValidImm_c p KA kc m w);unfold pv at CI ⊢;obtain ⟨R,HR⟩:=nm (vPt p s m vs);rw [HR.out];obtain ⟨v,Hv⟩:=nm p.v;obtain ⟨op,Hop⟩:=nm p.op;obtain ⟨imm,Him⟩:=nm p.imm;obtain ⟨iv,Hiv⟩:=nm p.iv;obtain ⟨n,Hn⟩:=nm p.kids.length;rw [Hv.out] at c0 e0 CI;rw [Hop.out] at c1 e0 CI CO;rw [Him.out] at c2 e0 CI;rw [Hiv.out] at c3 e0 CI;rw [Hn.out] at c4 e0 CI hn12;rw [Hv.out,Hop.out,Him.out,Hiv.out,Hn.out] at hb;rw [Hv.out,Hop.out,Him.out,Hiv.out,Hn.out];clear ih hp hse hle hg hs;by_cases hv:v=0
  ·subst hv;obtain ⟨z,Hz⟩:∃z,oSortsF op=z:=⟨_,rfl⟩;obtain ⟨ss,own,ok⟩:=z
   have HO2:Hid (R=if ok=true∧n=ss.length∧(s=0∨s=own)∧pImmF p m=true then vKids p.kids ss m vs else (false,vs)):=by
    show _=_;rw [←HR.out,HO.out Hv.out,Hop.out,Hz,Hn.out]
   rw [Hz] at CO;dsimp only at CO;clear HV HO HR Hz;obtain ⟨bi,Hbi⟩:=nm (pImmF p m);rw [Hbi.out] at CI HO2;go_enter Tryz.func169,Tryz.ntmps169;go_wp2_with fail
   refine (CO.out W).mono ?_;rintro e w2 ⟨SA,sc,rfl,hiS,hu2⟩;have hU2:=hU.then_non hu2;have hUg2:Upd (·=g) w w2:=hUg.then_non hu2;have hg2:=Blk.upd hgW hu2 (fun f=>f);have hp2:=PtK.upd hu2 (fun _ _ _ f=>f) p KA kc hpW;have hb2:=hb.upd hu2 (fun f=>f);have c0:=hb2.cell 0;have c1:=hb2.cell 1;have c2:=hb2.cell 2;have c3:=hb2.cell 3;have c4:=hb2.cell 4;have hl2:=hb2.lt;clear CO hpW hgW e0
   cases ok with
   | false =>
    have HR2:Hid (R=(false,vs)):=by show _=_;rw [HO2.out];simp
    go_wp2_with fail
    go_ret;exact ⟨by rw [HR2.out];rfl,by rw [HR2.out];exact hg2,hUg2⟩
   | true =>
    by_cases hns:n=ss.length
    ·have t1:((n:Int) != (ss.length:Int))=false:=by rw [hns];simp
     by_cases hso:s=0∨s=own
     ·obtain ⟨b3,f3⟩:∃b,(s != 0)=b:=⟨_,rfl⟩;obtain ⟨b4,f4⟩:∃b,(s != own)=b:=⟨_,rfl⟩
      have HB:Hid ((b3&&b4)=false):=by
       show _=_;rw [←f3,←f4];rcases hso with q | q <;> simp [q]
      have HNS:=h_ hns;have HSO:=h_ hso;clear hns hso
      go_upto_region 11 with fail
      go_cut [101] (fun t wx=>t=.bool (!bi)∧Upd Non w2 wx)
      case first =>
       cases b3 <;> cases b4
       case true.true=>exact absurd HB.out (by simp)
       all_goals
        go_wp2_with fail
        refine (CI.out _).mono ?_;rintro e w3 ⟨rfl,hu3⟩;go_wp2_with fail
        go_meet;exact ⟨rfl,hu3⟩
      case rest =>
      obtain ⟨rfl,hu3⟩:=hcut;have hU3:=hUg2.then_non hu3;have hg3:=Blk.upd hg2 hu3 (fun f=>f);have hb3:=hb2.upd hu3 (fun f=>f);have c4:=hb3.cell 4;have hp3:=PtK.upd hu3 (fun _ _ _ f=>f) p KA kc hp2;have hiS3:=hiS.upd hu3 (fun _ _ _ f=>f);have hsz2:=hu2.size
      cases bi with
      | false =>
       have HR2:Hid (R=(false,vs)):=by show _=_;rw [HO2.out,if_neg (fun q=>by simpa using q.2.2.2)]
       clear HO2;go_wp2_with fail
       go_ret;exact ⟨by rw [HR2.out];rfl,by rw [HR2.out];exact hg3,hU3⟩
      | true =>
       have HR2:Hid (R=vKids (p.kids.drop 0) (ss.drop 0) m vs):=by show _=_;rw [HO2.out,if_pos (by refine ⟨?_,HNS.out,HSO.out,?_⟩ <;> simp)];simp
       have HST:=h_ (fun k (hk:k<p.kids.length) vk=>@vKids_step p.kids ss m vk k hk (by rw [Hn.out];exact HNS.out));have HVL:=h_ (fun (q:Pt) (s m:Int) vs=>vPt_len q s m vs);clear HO2 hp2 hg2 hb2 hiS CI c0 c1 c2 c3;go_wp2_with fail
       go_loopg [13,14,105] n (fun gg _ _ i wr=>∃(k:Nat) (vk:List Int),Hid (gg=n - k)∧k≤n∧i=.int .i64 k∧VBlk wr g vk∧vk.length=vs.length∧Hid (R=vKids (p.kids.drop k) (ss.drop k) m vk)∧Upd (·=g) wc wr)
       case atStart=>exact ⟨0,vs,rfl,by omega,rfl,hg3,rfl,HR2,Upd.refl⟩
       case round =>
        obtain ⟨k,vk,Hg,hk,rfl,hgk,hvk,HRk,hu⟩:=hrel;by_cases hlt:k<n
        ·have hkl:k<p.kids.length:=by rw [Hn.out];exact hlt
         have hks:k<ss.length:=by have:=HNS.out;omega
         obtain ⟨b,o,rfl,hF,hbw,KB,kd,h0,h1,h2,h3,h4,h5⟩:=(PtK.upd hu (fun k _ hF e=>hFg (by rw [←e];exact hF)) p KA kc hp3).at_ hkl;obtain ⟨sb,so,rfl,hsb,hsbw,hsc⟩:=(hiS3.upd hu (fun k _ q e=>by omega)).at_ hks;have hmem0:=List.getElem_mem hkl;have hqs:=Pt.kids_lt hmem0;have HRs:=HST.out k hkl vk;have hps:p.size≤1000000000000:=HPS.out;rw [HRs] at HRk;clear HRs;generalize p.kids[k]=q at *;generalize ss[k]=x at *;have hge:wr.heap.size > g:=Blk.lt hgk;have i0:(0:Int)≤(k:Int):=by omega
         have i1:(k:Int)<(ss.length:Int):=by omega
         obtain ⟨W3,HW3⟩:=nm (wr.alloc (.cells #[.int .i64 q.v,.int .i64 q.op,.int .i64 q.imm,.int .i64 q.iv,.slice KB q.kids.length kd] 38));have u3:Upd Non wr W3:=by rw [←HW3.out];exact Upd.refl.alloc _
         have bq:Blk W3 wr.heap.size 38 #[.int .i64 q.v,.int .i64 q.op,.int .i64 q.imm,.int .i64 q.iv,.slice KB q.kids.length kd]:=by rw [←HW3.out];exact Blk.new _ _ _
         have eW3:=HW3.out;have hq3:=PtK.upd u3 (fun _ _ _ f=>f) q KB kd h5;have hs3:=u_ hsc u3 (fun f=>f);have hg4:VBlk W3 g vk:=Blk.upd hgk u3 (fun f=>f);have C1:=h_ (HI.out q hmem0 W3.drew F KB kd g c x m vk (PtK.upd (Upd.refl.drew (S:=Non)) (fun _ _ _ f=>f) q KB kd hq3) hFg hg4 (by omega) (by omega));unfold pv at C1;rw [hvk] at C1;have q0:W3.cell? ⟨wr.heap.size,0,none⟩=some (.int .i64 q.v):=bq.cell 0;have q1:W3.cell? ⟨wr.heap.size,1,none⟩=some (.int .i64 q.op):=bq.cell 1;have q2:W3.cell? ⟨wr.heap.size,2,none⟩=some (.int .i64 q.imm):=bq.cell 2;have q3:W3.cell? ⟨wr.heap.size,3,none⟩=some (.int .i64 q.iv):=bq.cell 3;have q4:W3.cell? ⟨wr.heap.size,4,none⟩=some (.slice KB q.kids.length kd):=bq.cell 4;have HV1:=h_ (HVL.out q x m vk);obtain ⟨r,Hr⟩:=nm (vPt q x m vk);obtain ⟨rb,rv⟩:=r;rw [Hr.out] at C1 HRk HV1;have hrv:rv.length=vs.length:=by rw [←hvk];exact HV1.out
         clear h5 hq3 hps hqs bq;have hS:∀w',Upd (·=g) W3 w'→w'.cell? ⟨wr.heap.size,0,none⟩=some (.int .i64 q.v)∧w'.cell? ⟨wr.heap.size,1,none⟩=some (.int .i64 q.op)∧w'.cell? ⟨wr.heap.size,2,none⟩=some (.int .i64 q.imm)∧w'.cell? ⟨wr.heap.size,3,none⟩=some (.int .i64 q.iv)∧w'.cell? ⟨wr.heap.size,4,none⟩=some (.slice KB q.kids.length kd)∧w'.cell? ⟨sb,so+k,none⟩=some (.int .i64 x):=fun w' u=>⟨u_ q0 u (by omega),u_ q1 u (by omega),u_ q2 u (by omega),u_ q3 u (by omega),u_ q4 u (by omega),u_ hs3 u (by omega)⟩
         go_wp2_with fail
         refine wp_region_held_drew (S:=fun w'=>w'.cell? ⟨wr.heap.size,0,none⟩=some (.int .i64 q.v)∧w'.cell? ⟨wr.heap.size,1,none⟩=some (.int .i64 q.op)∧w'.cell? ⟨wr.heap.size,2,none⟩=some (.int .i64 q.imm)∧w'.cell? ⟨wr.heap.size,3,none⟩=some (.int .i64 q.iv)∧w'.cell? ⟨wr.heap.size,4,none⟩=some (.slice KB q.kids.length kd)∧w'.cell? ⟨sb,so+k,none⟩=some (.int .i64 x)) (by kernel_rfl) (by first | exact hS _ (Upd.refl (S:=(·=g))).drew | (rw [eW3];exact hS _ (Upd.refl (S:=(·=g))).drew)) (fun hHeld=>?_)
         try rw [eW3] at hHeld ⊢
         refine wpT 0 ?_;(try simp only [y_,z_]);refine wpT 1 ?_;(try simp only [y_,z_]);refine wpT 2 ?_;(try simp only [y_,z_]);refine wpT 3 ?_;(try simp only [y_,z_]);refine wpT 4 ?_;(try simp only [y_,z_]);refine wpT 5 ?_;(try simp only [y_,z_]);refine wpT 6 ?_;(try simp only [y_,z_]);refine aR_ (rs:=[7]) (by kernel_rfl) (by simp) ?_;refine aC_ rfl (fun K hK=>?_) aN_;go_simp;refine C1.out.mono ?_;rintro e w5 ⟨rfl,hg5,hu5'⟩;have hu5:Upd (·=g) W3 w5:=(Upd.refl.drew (S:=(·=g))).trans hu5' (fun _ _ q=>q);have hu6:Upd (·=g) wr w5:=(u3.mono (T:=(·=g)) (fun _ _ f=>f.elim)).trans hu5 (fun _ _ q=>q);go_wp2_with fail
         refine hK.out _ _ ?_ (fun hHeld=>?_)
         ·exact hS _ hu5
         clear hK K;(try simp only [y_,z_]);refine wpT 8 ?_;(try simp only [y_,z_]);refine aD_ (by kernel_rfl) ?_ _
         cases rb with
         | true =>
          have HRn:Hid (R=vKids (p.kids.drop (k+1)) (ss.drop (k+1)) m rv):=by show _=_;rw [HRk.out];rfl
          clear C1 hS q0 q1 q2 q3 q4;go_wp2_with fail
          go_roundg (n - (k+1))
          case measure=>rw [Hg.out];omega
          case rel=>exact ⟨k+1,rv,rfl,by omega,by go_num,hg5,hrv,HRn,hu.trans hu6 (fun _ _ q=>q)⟩
         | false =>
          have HRn:Hid (R=(false,rv)):=by show _=_;rw [HRk.out];rfl
          clear C1 hS q0 q1 q2 q3 q4;go_wp2_with fail
          go_ret;exact ⟨by rw [HRn.out];rfl,by rw [HRn.out];exact hg5,(hU3.trans hu (fun _ _ q=>q)).trans hu6 (fun _ _ q=>q)⟩
        ·obtain rfl:n=k:=by omega
         have HRz:Hid (R=(true,vk)):=by
          show _=_;rw [HRk.out,List.drop_eq_nil_of_le (by rw [Hn.out];exact Nat.le_refl _)];rfl
         go_wp2_with fail
         go_ret;exact ⟨by rw [HRz.out];rfl,by rw [HRz.out];exact hgk,hU3.trans hu (fun _ _ q=>q)⟩
     ·have t2:(s != 0)=true:=by simp;omega
      have t3:(s != own)=true:=by simp;omega
      have HR2:Hid (R=(false,vs)):=by show _=_;rw [HO2.out,if_neg (fun q=>hso q.2.2.1)]
      clear HO2 hso;have hns:=h_ hns;go_wp2_with fail
      go_ret;exact ⟨by rw [HR2.out];rfl,by rw [HR2.out];exact hg2,hUg2⟩
    ·have t1:((n:Int) != (ss.length:Int))=true:=by simp;omega
     have HR2:Hid (R=(false,vs)):=by show _=_;rw [HO2.out,if_neg (fun q=>hns q.2.1)]
     clear HO2;go_wp2_with fail
     go_ret;exact ⟨by rw [HR2.out];rfl,by rw [HR2.out];exact hg2,hUg2⟩
  ·have t0:(v != 0)=true:=by simpa using hv
   clear CO CI
   have HV2:Hid (R=if v<1∨v > vs.length∨op≠0∨imm≠0∨iv≠0∨0<n then (false,vs) else if vs.getD (v - 1).toNat 0=0 then (true,vs.set (v - 1).toNat s) else (decide (s=0∨s=vs.getD (v - 1).toNat 0),vs)):=by
    show _=_;rw [←HR.out,HV.out (by rw [Hv.out];exact hv),Hv.out,Hop.out,Him.out,Hiv.out,Hn.out]
   clear HV HO HI;by_cases hbad:v<1∨v > vs.length∨op≠0∨imm≠0∨iv≠0∨0<n
   ·have HRv:Hid (R=(false,vs)):=by show _=_;rw [HV2.out,if_pos hbad]
    rw [HRv.out];have Hbad:=h_ hbad;obtain ⟨b1,f1⟩:∃b,decide (v<1)=b:=⟨_,rfl⟩;obtain ⟨b2,f2⟩:∃b,decide (v > (vs.length:Int))=b:=⟨_,rfl⟩;obtain ⟨b3,f3⟩:∃b,(op != 0)=b:=⟨_,rfl⟩;obtain ⟨b4,f4⟩:∃b,(imm != 0)=b:=⟨_,rfl⟩;obtain ⟨b5,f5⟩:∃b,(iv != 0)=b:=⟨_,rfl⟩;obtain ⟨b6,f6⟩:∃b,decide ((n:Int) > 0)=b:=⟨_,rfl⟩
    have HB:Hid ((b1 || b2 || b3 || b4 || b5 || b6)=true):=by
     show _=_;rw [←f1,←f2,←f3,←f4,←f5,←f6];simp;omega
    clear hbad
    cases b1 with
    | true =>
     go_enter Tryz.func169,Tryz.ntmps169;go_wp2_with fail
     go_ret;exact ⟨rfl,hgW,hUg⟩
    | false=>cases b2 with
     | true =>
      go_enter Tryz.func169,Tryz.ntmps169;go_wp2_with fail
      go_ret;exact ⟨rfl,hgW,hUg⟩
     | false=>cases b3 with
      | true =>
       go_enter Tryz.func169,Tryz.ntmps169;go_wp2_with fail
       go_ret;exact ⟨rfl,hgW,hUg⟩
      | false=>cases b4 with
       | true =>
        go_enter Tryz.func169,Tryz.ntmps169;go_wp2_with fail
        go_ret;exact ⟨rfl,hgW,hUg⟩
       | false=>cases b5 with
        | true =>
         go_enter Tryz.func169,Tryz.ntmps169;go_wp2_with fail
         go_ret;exact ⟨rfl,hgW,hUg⟩
        | false=>cases b6 with
         | true =>
          have hn0:0<n:=by simpa using f6
          have hn1:decide (0<n)=true:=dT_ hn0;go_enter Tryz.func169,Tryz.ntmps169;go_wp2_with fail
          go_ret;exact ⟨rfl,hgW,hUg⟩
         | false=>exact absurd HB.out (by simp)
   ·rw [if_neg hbad] at HV2;obtain ⟨i,hi⟩:=Int.eq_ofNat_of_zero_le (show 0≤v - 1 by omega);have hil:i<vs.length:=by omega
    obtain rfl:op=0:=by omega
    obtain rfl:imm=0:=by omega
    obtain rfl:iv=0:=by omega
    obtain rfl:n=0:=by omega
    have t1:decide (v<1)=false:=dF_ (by omega);have t2:decide (v > (vs.length:Int))=false:=dF_ (by omega);have hw:wrap64 (v - 1)=(i:Int):=by unfold wrap64;omega
    have hw2:IntKind.i64.wrap (v - 1)=(i:Int):=by rw [i64w_of (by unfold I64;omega)];exact hi
    have cg:=VBlk.cell hgW hil;have fg:=Blk.frozen hgW i;have i0:(0:Int)≤(i:Int):=by omega
    have i1:(i:Int)<(vs.length:Int):=by omega
    rw [hi,Int.toNat_natCast] at HV2;have hset:=VBlk.set_ hgW i s;have uset:=updCell W g i (.int .i64 s);clear hbad HR Hv Hop Him Hiv Hn hpW;obtain ⟨y,Hy⟩:=nm (vs.getD i 0);rw [Hy.out] at HV2 cg;by_cases hy:y=0
    ·rw [if_pos hy] at HV2;subst hy;rw [HV2.out];clear HV2;go_enter Tryz.func169,Tryz.ntmps169;go_wp2_with fail
     go_ret;exact ⟨rfl,hset,hUg.trans uset (fun _ _ q=>q)⟩
    ·rw [if_neg hy] at HV2;have ty:(y==0)=false:=by simpa using hy
     by_cases hs0:s=0
     ·subst hs0;have HV2:Hid (R=(true,vs)):=by show _=_;rw [HV2.out];simp
      rw [HV2.out];clear HV2;go_enter Tryz.func169,Tryz.ntmps169;go_wp2_with fail
      go_ret;exact ⟨rfl,hgW,hUg⟩
     ·have ts:(s != 0)=true:=by simpa using hs0
      by_cases hsy:s=y
      ·subst hsy;have tt:(s != s)=false:=by simp
       have HV2:Hid (R=(true,vs)):=by show _=_;rw [HV2.out];simp
       rw [HV2.out];clear HV2;go_enter Tryz.func169,Tryz.ntmps169;go_wp2_with fail
       go_ret;exact ⟨rfl,hgW,hUg⟩
      ·have tt:(s != y)=true:=by simpa using hsy
       have HV2:Hid (R=(false,vs)):=by show _=_;rw [HV2.out];simp [hs0,hsy]
       rw [HV2.out];clear HV2;go_enter Tryz.func169,Tryz.ntmps169;go_wp2_with fail
       go_ret;exact ⟨rfl,hgW,hUg⟩
def validF (p:Pt) (vars imms:Int):Bool:=decide (0≤vars∧vars≤6∧0≤imms∧imms≤6∧p.size≤24)&&(vPt p 0 imms (List.replicate vars.toNat 0)).1
theorem zero_int_:(Tryz.prog.info? 3).bind (·.zero)=some (.int .i64 0):=by kernel_rfl
set_option maxRecDepth 100000 in
set_option maxHeartbeats 4000000 in
theorem ptValid_c (p:Pt) (w:World) (F:Nat→Prop) (KA:Option Addr) (kc:Nat) (vars imms:Int) (hp:PtK w F p KA kc) (hs:p.size≤1000000000000) :
  Calls Tryz.prog 105 #[pv p KA kc,.int .i64 vars,.int .i64 imms] w fun e w'=>e=.returned (.bool (validF p vars imms))∧Upd Non w w':=by
 have hp0:=PtK.mono (G:=(·<w.heap.size)) (fun k hk _=>hk) p KA kc hp;obtain ⟨W,HW⟩:=nm (w.alloc (.cells #[.int .i64 p.v,.int .i64 p.op,.int .i64 p.imm,.int .i64 p.iv,.slice KA p.kids.length kc] 38));have hU:Upd Non w W:=by rw [←HW.out];exact Upd.refl.alloc _
 have hb:Blk W w.heap.size 38 #[.int .i64 p.v,.int .i64 p.op,.int .i64 p.imm,.int .i64 p.iv,.slice KA p.kids.length kc]:=by rw [←HW.out];exact Blk.new _ _ _
 have e0:=HW.out;have hpW:=PtK.upd hU (fun _ _ _ f=>f) p KA kc hp0;have C1:=h_ (ptSize_c p W _ KA kc hpW hs);have c0:W.cell? ⟨w.heap.size,0,none⟩=some (.int .i64 p.v):=hb.cell 0;have c1:W.cell? ⟨w.heap.size,1,none⟩=some (.int .i64 p.op):=hb.cell 1;have c2:W.cell? ⟨w.heap.size,2,none⟩=some (.int .i64 p.imm):=hb.cell 2;have c3:W.cell? ⟨w.heap.size,3,none⟩=some (.int .i64 p.iv):=hb.cell 3;have c4:W.cell? ⟨w.heap.size,4,none⟩=some (.slice KA p.kids.length kc):=hb.cell 4;have hlt:=hb.lt;obtain ⟨R,HR⟩:=nm (validF p vars imms);rw [HR.out];unfold pv at C1 ⊢;have HR2:Hid (R=(decide (0≤vars∧vars≤6∧0≤imms∧imms≤6∧p.size≤24)&&(vPt p 0 imms (List.replicate vars.toNat 0)).1)):=HR.out.symm
 have HV:=h_ (fun w g c vs h1 h2 h3=>ptvalid_c p w (·<W.heap.size) KA kc g c 0 imms vs h1 h2 h3 hs);clear hp hp0 HR;by_cases h1:0≤vars∧vars≤6∧0≤imms∧imms≤6
 ·obtain ⟨g1,g2,g3,g4⟩:=h1;obtain ⟨n,rfl⟩:=Int.eq_ofNat_of_zero_le g1;have t1:decide ((n:Int)<0)=false:=by simp
  have t2:decide ((n:Int) > 6)=false:=dF_ (by omega);have t3:decide (imms<0)=false:=dF_ (by omega);have t4:decide (imms > 6)=false:=dF_ (by omega);by_cases h24:p.size≤24
  ·have t5:decide ((p.size:Int) > 24)=false:=dF_ (by omega);have hmk:=run_mk (P:=Tryz.prog) T_ints' zero_int_ rfl n (by omega) (by omega);have HR3:Hid (R=(vPt p 0 imms (List.replicate n 0)).1):=by show _=_;rw [HR2.out,dT_ ⟨g1,g2,g3,g4,h24⟩];simp
   clear HR2;go_enter Tryz.func105,Tryz.ntmps105;go_wp2_with fail
   refine C1.out.mono ?_;rintro e w2 ⟨rfl,hu2⟩;go_wp2_with fail
   obtain ⟨wD,HwD⟩:=nm w2.drew;have uD:Upd Non W wD:=hu2.then_non (by rw [←HwD.out];exact Upd.refl.drew)
   have hS:∀w',Upd Non wD w'→w'.cell? ⟨w.heap.size,0,none⟩=some (.int .i64 p.v)∧w'.cell? ⟨w.heap.size,1,none⟩=some (.int .i64 p.op)∧w'.cell? ⟨w.heap.size,2,none⟩=some (.int .i64 p.imm)∧w'.cell? ⟨w.heap.size,3,none⟩=some (.int .i64 p.iv)∧w'.cell? ⟨w.heap.size,4,none⟩=some (.slice KA p.kids.length kc):=fun w' u=>by
    have u2:=uD.then_non u;exact ⟨u_ c0 u2 (fun f=>f),u_ c1 u2 (fun f=>f),u_ c2 u2 (fun f=>f),u_ c3 u2 (fun f=>f),u_ c4 u2 (fun f=>f)⟩
   have hsz:=uD.size;have uM:Upd Non wD (wD.alloc (.cells (Array.replicate n (.int .i64 0)) 3)):=Upd.refl.alloc _
   have hgM:VBlk (wD.alloc (.cells (Array.replicate n (.int .i64 0)) 3)) wD.heap.size (List.replicate n 0):=by
    unfold VBlk;rw [show (icells (List.replicate n 0)).toArray=Array.replicate n (Value.int .i64 0) by simp [icells]];exact Blk.new _ _ _
   have C2:=h_ (HV.out _ wD.heap.size n (List.replicate n 0) (PtK.mono (fun k _ hk=>Nat.lt_of_lt_of_le (show k<w.heap.size from hk) hU.size) p KA kc (PtK.upd (uD.then_non uM) (fun _ _ _ f=>f) p KA kc hpW)) (by omega) hgM (by simp;omega))
   rw [List.length_replicate] at C2;unfold pv at C2;clear HV C1;refine wp_region_held_drew (S:=fun w'=>w'.cell? ⟨w.heap.size,0,none⟩=some (.int .i64 p.v)∧w'.cell? ⟨w.heap.size,1,none⟩=some (.int .i64 p.op)∧w'.cell? ⟨w.heap.size,2,none⟩=some (.int .i64 p.imm)∧w'.cell? ⟨w.heap.size,3,none⟩=some (.int .i64 p.iv)∧w'.cell? ⟨w.heap.size,4,none⟩=some (.slice KA p.kids.length kc)) (by kernel_rfl) (by rw [HwD.out];exact hS _ Upd.refl) (fun hHeld=>?_)
   rw [HwD.out] at hHeld ⊢;refine wpT 0 ?_;(try simp only [y_,z_]);refine wpT 1 ?_;(try simp only [y_,z_]);refine wpT 2 ?_;(try simp only [y_,z_]);refine aR_ (rs:=[3]) (by kernel_rfl) (by simp) ?_;refine aC_ rfl (fun K hK=>?_) aN_;go_simp;refine hK.out _ _ ?_ (fun hHeld=>?_)
   ·exact hS _ uM
   clear hK K;(try simp only [y_,z_]);refine aR_ (rs:=[4]) (by kernel_rfl) (by simp) ?_;refine aC_ rfl (fun K hK=>?_) aN_;go_simp;refine C2.out.mono ?_;rintro e w5 ⟨rfl,_,hu5⟩;have hu6:Upd Non wD w5:=uM.trans hu5 (fun k hk q=>by omega);go_wp2_with fail
   refine hK.out _ _ ?_ (fun hHeld=>?_)
   ·exact hS _ hu6
   clear hK K;(try simp only [y_,z_]);refine wpT 5 ?_;(try simp only [y_,z_]);refine aD_ (by kernel_rfl) ?_ _;go_wp2_with fail
   go_ret;exact ⟨by rw [HR3.out];rfl,hU.then_non (uD.then_non hu6)⟩
  ·have t5:decide ((p.size:Int) > 24)=true:=dT_ (by omega);have HR3:Hid (R=false):=by show _=_;rw [HR2.out,dF_ (fun q=>h24 q.2.2.2.2)];rfl
   clear HR2;go_enter Tryz.func105,Tryz.ntmps105;go_wp2_with fail
   refine C1.out.mono ?_;rintro e w2 ⟨rfl,hu2⟩;go_wp2_with fail
   go_ret;exact ⟨by rw [HR3.out];rfl,hU.then_non hu2⟩
 ·have HR3:Hid (R=false):=by show _=_;rw [HR2.out,dF_ (fun q=>h1 ⟨q.1,q.2.1,q.2.2.1,q.2.2.2.1⟩)];rfl
  obtain ⟨b1,f1⟩:∃b,decide (vars<0)=b:=⟨_,rfl⟩;obtain ⟨b2,f2⟩:∃b,decide (vars > 6)=b:=⟨_,rfl⟩;obtain ⟨b3,f3⟩:∃b,decide (imms<0)=b:=⟨_,rfl⟩;obtain ⟨b4,f4⟩:∃b,decide (imms > 6)=b:=⟨_,rfl⟩
  have HB:Hid ((b1 || b2 || b3 || b4)=true):=by
   show _=_;rw [←f1,←f2,←f3,←f4];simp;omega
  clear h1 HR2 C1 HV
  cases b1 with
  | true =>
   go_enter Tryz.func105,Tryz.ntmps105;go_wp2_with fail
   go_ret;exact ⟨by rw [HR3.out];rfl,hU⟩
  | false=>cases b2 with
   | true =>
    go_enter Tryz.func105,Tryz.ntmps105;go_wp2_with fail
    go_ret;exact ⟨by rw [HR3.out];rfl,hU⟩
   | false=>cases b3 with
    | true =>
     go_enter Tryz.func105,Tryz.ntmps105;go_wp2_with fail
     go_ret;exact ⟨by rw [HR3.out];rfl,hU⟩
    | false=>cases b4 with
     | true =>
      go_enter Tryz.func105,Tryz.ntmps105;go_wp2_with fail
      go_ret;exact ⟨by rw [HR3.out];rfl,hU⟩
     | false=>exact absurd HB.out (by simp)
def allowedF (op:Int):Bool:=decide (op=1∨(4≤op∧op≤24)∨op=27∨op=28∨op=29)
theorem allowed_ok (op:Int):allowedF op=(oSortsF op).2.2:=by
 unfold allowedF oSortsF;rw [Bool.eq_iff_iff,decide_eq_true_iff]
 (repeat' split) <;> simp <;> omega
theorem allowed_parts {op:Int} (h:(oSortsF op).2.2=true):(arityF op).1=((oSortsF op).1.length:Int)∧pSortF op=(oSortsF op).2.1∧∀i (hi:i<(oSortsF op).1.length),operandSortF op i=(oSortsF op).1[i]:=by
 have ho:op=1∨op=23∨op=24∨op=27∨op=29∨op=28∨op=20∨op=21∨op=22∨(4≤op∧op≤19):=by
  rw [←allowed_ok] at h;simp only [allowedF,decide_eq_true_iff] at h;omega
 have fin:∀(l:List Int) (x y:Int) (b:Bool),oSortsF op=(l,y,b)→(arityF op).1=(l.length:Int)→pSortF op=y→(∀i (hi:i<l.length),operandSortF op i=l[i])→(arityF op).1=((oSortsF op).1.length:Int)∧pSortF op=(oSortsF op).2.1∧∀i (hi:i<(oSortsF op).1.length),operandSortF op i=(oSortsF op).1[i]:=fun l x y b e h1 h2 h3=>by
  refine ⟨by rw [e];exact h1,by rw [e];exact h2,?_⟩;rw [e];exact h3
 rcases ho with rfl | rfl | rfl | rfl | rfl | rfl | rfl | rfl | rfl | hr
 ·exact fin [] 0 1 true rfl rfl rfl (fun i hi=>by simp at hi)
 ·exact fin [2,1] 0 1 true rfl rfl rfl (fun i hi=>by match i,hi with | 0,_=>rfl | 1,_=>rfl)
 ·exact fin [2] 0 1 true rfl rfl rfl (fun i hi=>by match i,hi with | 0,_=>rfl)
 ·exact fin [2,1] 0 2 true rfl rfl rfl (fun i hi=>by match i,hi with | 0,_=>rfl | 1,_=>rfl)
 ·exact fin [2,1] 0 2 true rfl rfl rfl (fun i hi=>by match i,hi with | 0,_=>rfl | 1,_=>rfl)
 ·exact fin [2,1,1] 0 2 true rfl rfl rfl (fun i hi=>by match i,hi with | 0,_=>rfl | 1,_=>rfl | 2,_=>rfl)
 ·exact fin [1] 0 1 true rfl rfl rfl (fun i hi=>by match i,hi with | 0,_=>rfl)
 ·exact fin [1] 0 1 true rfl rfl rfl (fun i hi=>by match i,hi with | 0,_=>rfl)
 ·exact fin [1,1,1] 0 1 true rfl rfl rfl (fun i hi=>by match i,hi with | 0,_=>rfl | 1,_=>rfl | 2,_=>rfl)
 ·have hp:pSortF op=1:=by unfold pSortF;rw [if_neg (by omega)]
  refine fin [1,1] 0 1 true ?_ ?_ hp (fun i hi=>?_)
  ·unfold oSortsF;rw [if_neg (by omega),if_neg (by omega),if_neg (by omega),if_neg (by omega),if_neg (by omega),if_pos (by omega),if_neg (by omega),if_neg (by omega)]
  ·unfold arityF;rw [if_neg (by omega),if_neg (by omega),if_pos (by omega)];rfl
  ·have : operandSortF op i=1:=by unfold operandSortF;rw [hp,if_neg (by omega)]
   rw [this]
   match i,hi with | 0,_=>rfl | 1,_=>rfl
theorem imm_ok {p:Pt} {m:Int} (hm:0≤m) (h:(oSortsF p.op).2.2=true) :
  pImmF p m=(!(decide (p.iv<0) || decide (p.iv > m))&&!(decide (p.iv > 0)&&(!decide (p.imm=0) || !hasImmF p.op) || decide (p.iv=0)&&!validImmF p.op p.imm)):=by
 have ho:p.op=1∨p.op=23∨p.op=24∨p.op=27∨p.op=29∨p.op=28∨(4≤p.op∧p.op≤22):=by
  rw [←allowed_ok] at h;simp only [allowedF,decide_eq_true_iff] at h;omega
 obtain ⟨v,op,imm,iv,kids⟩:=p;have ho:op=1∨op=23∨op=24∨op=27∨op=29∨op=28∨(4≤op∧op≤22):=ho;show _=(!(decide (iv<0) || decide (iv > m))&&!(decide (iv > 0)&&(!decide (imm=0) || !hasImmF op) || decide (iv=0)&&!validImmF op imm));by_cases h0:iv=0
 ·have e:pImmF (.mk v op imm iv kids) m=(if op=23∨op=28 then decide (0≤imm∧imm<4) else if op=27 then decide (1≤imm∧imm≤1000016) else decide (op=1∨imm=0)):=if_neg (fun q=>q h0)
  have e2:validImmF op imm=(if op=23∨op=28 then decide (0≤imm∧imm<4) else if op=27 then decide (1≤imm∧imm≤1000016) else decide (op=1∨imm=0)):=by
   unfold validImmF maxImmF;rw [Bool.eq_iff_iff]
   (repeat' split) <;> simp <;> omega
  rw [e,e2];have a1:decide (iv<0)=false:=dF_ (by omega);have a2:decide (iv > m)=false:=dF_ (by omega);have a3:decide (iv > 0)=false:=dF_ (by omega);have a4:decide (iv=0)=true:=dT_ h0;rw [a1,a2,a3,a4];simp
 ·have e:pImmF (.mk v op imm iv kids) m=(hasImmF op&&decide (imm=0∧1≤iv∧iv≤m)):=if_pos h0;have a4:decide (iv=0)=false:=dF_ h0;rw [e,a4];rw [Bool.eq_iff_iff];cases hasImmF op <;> by_cases h4:0<iv <;> by_cases h2:iv≤m <;> by_cases h3:imm=0 <;> simp [h4,h2,h3] <;> omega
theorem r15allowed_c (op:Int) (w:World):Calls Tryz.prog 149 #[.int .i64 op] w fun e w'=>e=.returned (.bool (allowedF op))∧w=w':=by
 go_enter Tryz.func149,Tryz.ntmps149
 go_wp2
 all_goals
  go_ret;refine ⟨?_,rfl⟩;show Ending.returned (Value.bool _)=_
  congr 2
  unfold allowedF
  (try simp only [beq_iff_eq,beq_eq_false_iff_ne,ne_eq] at *)
  rw [Bool.eq_iff_iff];simp;omega
theorem r15HasImm_c (op:Int) (w:World):Calls Tryz.prog 120 #[.int .i64 op] w fun e w'=>e=.returned (.bool (hasImmF op))∧w=w':=by
 go_enter Tryz.func120,Tryz.ntmps120
 go_wp2
 all_goals
  go_ret;refine ⟨?_,rfl⟩;show Ending.returned (Value.bool _)=_
  congr 2
  unfold hasImmF
  (try simp only [beq_iff_eq,beq_eq_false_iff_ne,ne_eq] at *)
  rw [Bool.eq_iff_iff];simp;omega
theorem Pt.indL {Q:Pt→Prop} {QL:List Pt→List Int→Prop} (hn:∀ss,QL [] ss) (hc:∀k ks ss,Q k→QL ks ss.tail→QL (k::ks) ss) (l:List Pt) (h:∀k∈l,Q k):∀ss,QL l ss:=by
 induction l with
 | nil=>exact hn
 | cons k ks ih=>exact fun ss=>hc k ks ss (h k (by simp)) (ih (fun x hx=>h x (by simp [hx])) _)
mutual
def occ:Pt→Int→List (Int×Int)
 | .mk v op _ _ kids,s=>if v≠0 then [(v,s)] else occL kids (oSortsF op).1
def occL:List Pt→List Int→List (Int×Int)
 | [],_=>[]
 | k::ks,ss=>occ k (ss.headD 0)++occL ks ss.tail
end
mutual
def shp:Pt→Int→Int→Nat→Bool
 | .mk v op imm iv kids,s,m,n =>
  if v≠0 then decide (¬(v<1∨v > n∨op≠0∨imm≠0∨iv≠0∨0<kids.length))
  else decide ((oSortsF op).2.2=true∧kids.length=(oSortsF op).1.length∧(s=0∨s=(oSortsF op).2.1)∧pImmF (.mk v op imm iv kids) m=true)&&shpL kids (oSortsF op).1 m n
def shpL:List Pt→List Int→Int→Nat→Bool
 | [],_,_,_=>true
 | k::ks,ss,m,n=>shp k (ss.headD 0) m n&&shpL ks ss.tail m n
end
mutual
def nodes:Pt→List Pt
 | .mk v op imm iv kids=>.mk v op imm iv kids::nodesL kids
def nodesL:List Pt→List Pt
 | []=>[]
 | k::ks=>nodes k++nodesL ks
end
theorem occ_var {p:Pt} (h:p.v≠0) (s:Int):occ p s=[(p.v,s)]:=by cases p;simp only [occ,Pt.v] at h ⊢;rw [if_pos h]
theorem occ_op {p:Pt} (h:p.v=0) (s:Int):occ p s=occL p.kids (oSortsF p.op).1:=by cases p;simp only [occ,Pt.v,Pt.kids,Pt.op] at h ⊢;rw [if_neg (by omega)]
theorem shp_var {p:Pt} (h:p.v≠0) (s m:Int) (n:Nat):shp p s m n=decide (¬(p.v<1∨p.v > n∨p.op≠0∨p.imm≠0∨p.iv≠0∨0<p.kids.length)):=by cases p;simp only [shp,Pt.v] at h ⊢;rw [if_pos h];rfl
theorem shp_op {p:Pt} (h:p.v=0) (s m:Int) (n:Nat):shp p s m n=(decide ((oSortsF p.op).2.2=true∧p.kids.length=(oSortsF p.op).1.length∧(s=0∨s=(oSortsF p.op).2.1)∧pImmF p m=true)&&shpL p.kids (oSortsF p.op).1 m n):=by
 cases p;simp only [shp,Pt.v] at h ⊢;rw [if_neg (by omega)];rfl
theorem nodes_eq (p:Pt):nodes p=p::nodesL p.kids:=by cases p;simp only [nodes,Pt.kids]
def run1 (vs:List Int) (t:Int×Int):Option (List Int) :=
 if vs.getD (t.1 - 1).toNat 0=0 then some (vs.set (t.1 - 1).toNat t.2) else if t.2=0∨t.2=vs.getD (t.1 - 1).toNat 0 then some vs else none
def run:List (Int×Int)→List Int→Option (List Int)
 | [],vs=>some vs
 | t::l,vs=>match run1 vs t with
  | none=>none
  | some v=>run l v
theorem run1_len {vs vs':List Int} {t:Int×Int} (h:run1 vs t=some vs'):vs'.length=vs.length:=by
 unfold run1 at h
 split at h
 ·injection h with h;subst h;simp
 ·split at h
  ·injection h with h;subst h;rfl
  ·cases h
theorem run_len:∀{l:List (Int×Int)} {vs vs':List Int},run l vs=some vs'→vs'.length=vs.length
 | [],vs,vs',h=>by injection h with h;subst h;rfl
 | t::l,vs,vs',h=>by
  simp only [run] at h
  split at h
  ·cases h
  ·rename_i v hv;rw [run_len h,run1_len hv]
theorem run_append:∀(a b:List (Int×Int)) (vs:List Int),run (a++b) vs=match run a vs with | none=>none | some v=>run b v
 | [],b,vs=>rfl
 | t::a,b,vs=>by
  simp only [List.cons_append,run]
  cases run1 vs t with
  | none=>rfl
  | some v=>exact run_append a b v
theorem vPt_iff (p:Pt):∀(s m:Int) (vs vs':List Int),vPt p s m vs=(true,vs')↔shp p s m vs.length=true∧run (occ p s) vs=some vs':=by
 induction p using Pt.ind with
 | h p ih =>
  intro s m vs vs';by_cases hv:p.v=0
  ·rw [vPt_op hv,shp_op hv,occ_op hv]
   have key:∀ss,(fun (ks:List Pt) (ss:List Int)=>∀(vs vs':List Int),vKids ks ss m vs=(true,vs')↔shpL ks ss m vs.length=true∧run (occL ks ss) vs=some vs') p.kids ss:=by
    refine Pt.indL (Q:=fun k=>∀(s m:Int) (vs vs':List Int),vPt k s m vs=(true,vs')↔shp k s m vs.length=true∧run (occ k s) vs=some vs') (QL:=fun (ks:List Pt) (ss:List Int)=>∀(vs vs':List Int),vKids ks ss m vs=(true,vs')↔shpL ks ss m vs.length=true∧run (occL ks ss) vs=some vs') ?_ ?_ _ ih
    ·intro ss vs vs';simp [vKids,shpL,occL,run]
    ·intro k ks ss hk hks vs vs';have hk:=hk (ss.headD 0) m vs;simp only [vKids,shpL,occL,run_append,Bool.and_eq_true];rcases hq:vPt k (ss.headD 0) m vs with ⟨b,v1⟩
     cases b with
     | false =>
      constructor
      ·intro h;simp at h
      ·rintro ⟨⟨h1,_⟩,h3⟩
       cases hr:run (occ k (ss.headD 0)) vs with
       | none=>rw [hr] at h3;cases h3
       | some v =>
        have:=(hk v).2 ⟨h1,hr⟩;rw [hq] at this;injection this with this _;cases this
     | true =>
      obtain ⟨h1,h2⟩:=(hk v1).1 hq;rw [h2];simp only [if_true,h1,true_and];rw [hks v1 vs',run_len h2]
   constructor
   ·intro h
    split at h
    ·rename_i hc;obtain ⟨k1,k2⟩:=(key _ vs vs').1 h;exact ⟨by rw [dT_ hc,k1];rfl,k2⟩
    ·injection h with h _;cases h
   ·rintro ⟨h1,h2⟩;rw [Bool.and_eq_true,decide_eq_true_eq] at h1;rw [if_pos h1.1];exact (key _ vs vs').2 ⟨h1.2,h2⟩
  ·rw [vPt_var hv,shp_var hv,occ_var hv];simp only [run,run1];by_cases hb:p.v<1∨p.v > vs.length∨p.op≠0∨p.imm≠0∨p.iv≠0∨0<p.kids.length
   ·rw [if_pos hb,dF_ (fun q=>q hb)];simp
   ·rw [if_neg hb,dT_ hb];by_cases h0:vs.getD (p.v - 1).toNat 0=0
    ·rw [if_pos h0,if_pos h0];simp
    ·rw [if_neg h0,if_neg h0];by_cases h1:s=0∨s=vs.getD (p.v - 1).toNat 0
     ·rw [if_pos h1,dT_ h1];simp
     ·rw [if_neg h1,dF_ h1];simp
def InR (n:Nat) (l:List (Int×Int)):Prop:=∀t∈l,1≤t.1∧t.1≤n∧(t.2=1∨t.2=2)
theorem osort_kid {op:Int}:∀x∈(oSortsF op).1,x=1∨x=2:=by
 intro x hx;unfold oSortsF at hx
 (repeat' split at hx) <;> simp at hx <;> omega
theorem osort_own {op:Int} (h:(oSortsF op).2.2=true):(oSortsF op).2.1=1∨(oSortsF op).2.1=2:=by
 unfold oSortsF at h ⊢
 (repeat' split at h) <;> (repeat' split) <;> simp_all
theorem shp_inR (p:Pt):∀(s m:Int) (n:Nat),shp p s m n=true→(s=1∨s=2∨p.v=0)→InR n (occ p s):=by
 induction p using Pt.ind with
 | h p ih =>
  intro s m n h hs;by_cases hv:p.v=0
  ·rw [shp_op hv,Bool.and_eq_true,decide_eq_true_eq] at h;rw [occ_op hv];have hl:p.kids.length≤(oSortsF p.op).1.length:=by omega
   have key:∀ss,(fun (ks:List Pt) (ss:List Int)=>ks.length≤ss.length→(∀x∈ss,x=1∨x=2)→shpL ks ss m n=true→InR n (occL ks ss)) p.kids ss:=by
    refine Pt.indL (Q:=fun k=>∀(s m:Int) (n:Nat),shp k s m n=true→(s=1∨s=2∨k.v=0)→InR n (occ k s)) (QL:=fun (ks:List Pt) (ss:List Int)=>ks.length≤ss.length→(∀x∈ss,x=1∨x=2)→shpL ks ss m n=true→InR n (occL ks ss)) ?_ ?_ _ ih
    ·intro ss _ _ _ t ht;simp [occL] at ht
    ·intro k ks ss hk hks h1 h2 h3 t ht;rw [shpL,Bool.and_eq_true] at h3;rw [occL] at ht
     cases ss with
     | nil=>simp at h1
     | cons x ss =>
      rcases List.mem_append.1 ht with ht | ht
      ·have:=h2 x (by simp);exact hk x m n h3.1 (by omega) t ht
      ·exact hks (by simpa using h1) (fun y hy=>h2 y (List.mem_cons_of_mem _ hy)) h3.2 t ht
   exact key _ hl osort_kid h.2
  ·rw [shp_var hv,decide_eq_true_eq] at h;rw [occ_var hv];intro t ht;simp only [List.mem_singleton] at ht;subst ht;exact ⟨by omega,by omega,by omega⟩
theorem set_getD {vs:List Int} {i j:Nat} {x:Int} (hi:i<vs.length):(vs.set i x).getD j 0=if i=j then x else vs.getD j 0:=by
 by_cases e:i=j
 ·subst e;rw [if_pos rfl];simp [List.getD,hi]
 ·rw [if_neg e];simp [List.getD,e]
theorem run_sound:∀{l:List (Int×Int)} {vs vs':List Int},InR vs.length l→run l vs=some vs'→(∀i,vs.getD i 0≠0→vs'.getD i 0=vs.getD i 0)∧∀t∈l,vs'.getD (t.1 - 1).toNat 0=t.2
 | [],vs,vs',_,h=>by injection h with h;subst h;exact ⟨fun _ _=>rfl,by simp⟩
 | t::l,vs,vs',hr,h=>by
  have ht:=hr t (by simp);simp only [run] at h
  split at h
  ·cases h
  ·rename_i v hv;have hl:=run1_len hv;obtain ⟨i1,i2⟩:=run_sound (fun x hx=>by rw [hl];exact hr x (List.mem_cons_of_mem _ hx)) h
   have k1:∀i,vs.getD i 0≠0→v.getD i 0=vs.getD i 0:=by
    unfold run1 at hv
    split at hv
    ·injection hv with hv;subst hv
     intro i hi;rw [set_getD (by omega)]
     split
     ·rename_i e q;rw [q] at e;exact absurd e hi
     ·rfl
    ·split at hv
     ·injection hv with hv;subst hv;exact fun _ _=>rfl
     ·cases hv
   have k2:v.getD (t.1 - 1).toNat 0=t.2:=by
    unfold run1 at hv
    split at hv
    ·injection hv with hv;subst hv
     rw [set_getD (by omega),if_pos rfl]
    ·split at hv
     ·rename_i q1 q2;injection hv with hv;subst hv
      rcases q2 with q2 | q2
      ·omega
      ·exact q2.symm
     ·cases hv
   refine ⟨fun i hi=>?_,fun x hx=>?_⟩
   ·rw [i1 i (by rw [k1 i hi];exact hi),k1 i hi]
   ·rcases List.mem_cons.1 hx with rfl | hx
    ·rw [i1 _ (by rw [k2];omega),k2]
    ·exact i2 x hx
theorem run_some (f:Int→Int):∀{l:List (Int×Int)} {vs:List Int},InR vs.length l→(∀t∈l,t.2=f t.1)→(∀i:Nat,vs.getD i 0=0∨vs.getD i 0=f ((i:Int)+1)) →
  ∃vs',run l vs=some vs'∧(∀i:Nat,vs'.getD i 0=0∨vs'.getD i 0=f ((i:Int)+1))∧∀i:Nat,vs.getD i 0=0→(∀t∈l,t.1≠(i:Int)+1)→vs'.getD i 0=0
 | [],vs,_,_,h=>⟨vs,rfl,h,fun _ q _=>q⟩
 | t::l,vs,hr,hf,h=>by
  have ht:=hr t (by simp);have hft:=hf t (by simp);have hidx:(((t.1 - 1).toNat:Nat):Int)+1=t.1:=by omega
  have h1:∃v,run1 vs t=some v∧(∀i:Nat,v.getD i 0=0∨v.getD i 0=f ((i:Int)+1))∧∀i:Nat,vs.getD i 0=0→t.1≠(i:Int)+1→v.getD i 0=0:=by
   unfold run1;by_cases q:vs.getD (t.1 - 1).toNat 0=0
   ·rw [if_pos q];refine ⟨_,rfl,fun i=>?_,fun i hi hne=>?_⟩
    ·rw [set_getD (by omega)]
     split
     ·rename_i e;right;rw [←e,hidx];exact hft
     ·exact h i
    ·rw [set_getD (by omega),if_neg (by omega)];exact hi
   ·rw [if_neg q];have:=h (t.1 - 1).toNat;rw [hidx] at this;rw [if_pos (Or.inr (by omega))];exact ⟨vs,rfl,h,fun i hi _=>hi⟩
  obtain ⟨v,e,g1,g2⟩:=h1;obtain ⟨vs',r1,r2,r3⟩:=run_some f (l:=l) (vs:=v) (fun x hx=>by rw [run1_len e];exact hr x (List.mem_cons_of_mem _ hx)) (fun x hx=>hf x (List.mem_cons_of_mem _ hx)) g1
  refine ⟨vs',?_,r2,fun i hi hne=>?_⟩
  ·simp only [run,e,r1]
  ·exact r3 i (g2 i hi (hne t (by simp))) (fun x hx=>hne x (List.mem_cons_of_mem _ hx))
end Go.Proofs.YtifhejahbbnkiaaGreat
namespace Go.Proofs.YtifhejahbbnkiaaGreat
open Go.RowKit
structure Cd where
 kind:Int
 a:Int
 b:Int
 n:Int
deriving DecidableEq
structure Rl where
 name:ByteArray
 l:Pt
 r:Pt
 conds:List Cd
 vars:Int
 imms:Int
def nmCh (c:UInt8):Bool:=decide (97≤c.toNat∧c.toNat≤122∨48≤c.toNat∧c.toNat≤57∨c.toNat=45)
def nameF (s:ByteArray):Bool:=s.data.toList.all nmCh&&decide (1≤s.size∧s.size≤16)
def isValF (ss:List Int) (n:Int):Bool:=decide (1≤n∧n<ss.length∧ss.getD n.toNat 0=1)
def isImmF (m n:Int):Bool:=decide (1≤n∧n≤m)
def condF (c:Cd) (ss:List Int) (m:Int):Bool :=
 if c.kind=1 then isValF ss c.a&&decide (c.b=0)&&decide (c.n=0)
 else if c.kind=2∨c.kind=3 then isValF ss c.a&&decide (c.b=0)
 else if c.kind=4 then isValF ss c.a&&isValF ss c.b&&decide (c.a≠c.b)&&decide (c.n=0)
 else if c.kind=5 then isValF ss c.a&&isImmF m c.b&&decide (c.n=0)
 else if c.kind=6 then isImmF m c.a&&isImmF m c.b&&decide (c.a≠c.b)&&decide (c.n=0)
 else false
theorem condF_congr {c:Cd} {ss ss':List Int} {m:Int} (hl:ss.length=ss'.length) (h:∀i:Nat,1≤i→i<ss.length→(ss.getD i 0=1↔ss'.getD i 0=1)):condF c ss m=condF c ss' m:=by
 have e:∀n,isValF ss n=isValF ss' n:=fun n=>by
  unfold isValF;rw [←hl];by_cases q:1≤n∧n<ss.length
  ·have:=h n.toNat (by omega) (by omega);rw [Bool.eq_iff_iff,decide_eq_true_iff,decide_eq_true_iff,this]
  ·rw [dF_ (fun r=>q ⟨r.1,r.2.1⟩),dF_ (fun r=>q ⟨r.1,r.2.1⟩)]
 unfold condF;rw [e,e]
def orB (a b:Int):Int:=bits BinOp.or IntKind.i64 a b
def colV (l:List (Int×Int)) (vs:List Int):List Int:=l.foldl (fun vs t=>vs.set t.1.toNat (orB (vs.getD t.1.toNat 0) t.2)) vs
def occI (p:Pt):List Int:=((nodes p).filter fun q=>decide (q.v=0)).map Pt.iv
def colI (l:List Int) (ms:List Int):List Int:=l.foldl (fun ms i=>ms.set i.toNat 1) ms
def rsF (op:Int):List Int×Int :=
 if op=23 then ([2,1,0],1) else if op=24 then ([2,0,0],1) else if op=27∨op=29 then ([2,1,0],2) else if op=28 then ([2,1,1],2) else ([1,1,1],1)
theorem rs_parts {op:Int} (h:(oSortsF op).2.2=true):(rsF op).2=(oSortsF op).2.1∧(oSortsF op).1.length≤3∧∀i (hi:i<(oSortsF op).1.length),(rsF op).1.getD i 0=(oSortsF op).1[i]:=by
 have ho:op=1∨op=23∨op=24∨op=27∨op=29∨op=28∨op=20∨op=21∨op=22∨(4≤op∧op≤19):=by
  rw [←allowed_ok] at h;simp only [allowedF,decide_eq_true_iff] at h;omega
 have fin:∀(l l':List Int) (x:Int) (b:Bool),oSortsF op=(l,x,b)→rsF op=(l',x)→l.length≤3→(∀i (hi:i<l.length),l'.getD i 0=l[i])→(rsF op).2=(oSortsF op).2.1∧(oSortsF op).1.length≤3∧∀i (hi:i<(oSortsF op).1.length),(rsF op).1.getD i 0=(oSortsF op).1[i]:=fun l l' x b e e' h1 h2=>by
  refine ⟨by rw [e,e'],by rw [e];exact h1,?_⟩;rw [e,e'];exact h2
 rcases ho with rfl | rfl | rfl | rfl | rfl | rfl | rfl | rfl | rfl | hr
 ·exact fin [] [1,1,1] 1 true rfl rfl (by simp) (fun i hi=>by simp at hi)
 ·exact fin [2,1] [2,1,0] 1 true rfl rfl (by simp) (fun i hi=>by match i,hi with | 0,_=>rfl | 1,_=>rfl)
 ·exact fin [2] [2,0,0] 1 true rfl rfl (by simp) (fun i hi=>by match i,hi with | 0,_=>rfl)
 ·exact fin [2,1] [2,1,0] 2 true rfl rfl (by simp) (fun i hi=>by match i,hi with | 0,_=>rfl | 1,_=>rfl)
 ·exact fin [2,1] [2,1,0] 2 true rfl rfl (by simp) (fun i hi=>by match i,hi with | 0,_=>rfl | 1,_=>rfl)
 ·exact fin [2,1,1] [2,1,1] 2 true rfl rfl (by simp) (fun i hi=>by match i,hi with | 0,_=>rfl | 1,_=>rfl | 2,_=>rfl)
 ·exact fin [1] [1,1,1] 1 true rfl rfl (by simp) (fun i hi=>by match i,hi with | 0,_=>rfl)
 ·exact fin [1] [1,1,1] 1 true rfl rfl (by simp) (fun i hi=>by match i,hi with | 0,_=>rfl)
 ·exact fin [1,1,1] [1,1,1] 1 true rfl rfl (by simp) (fun i hi=>by match i,hi with | 0,_=>rfl | 1,_=>rfl | 2,_=>rfl)
 ·refine fin [1,1] [1,1,1] 1 true ?_ ?_ (by simp) (fun i hi=>by match i,hi with | 0,_=>rfl | 1,_=>rfl)
  ·unfold oSortsF;rw [if_neg (by omega),if_neg (by omega),if_neg (by omega),if_neg (by omega),if_neg (by omega),if_pos (by omega),if_neg (by omega),if_neg (by omega)]
  ·unfold rsF;rw [if_neg (by omega),if_neg (by omega),if_neg (by omega),if_neg (by omega)]
def implG (r:Rl):Bool :=
 (((colV (occ r.l (rsF r.l.op).2) (List.replicate (r.vars.toNat+1) 0)).drop 1).all fun x=>decide (x≠0)) &&
 (((colI (occI r.l) (List.replicate (r.imms.toNat+1) 0)).drop 1).all fun x=>decide (x≠0)) &&
 (decide (r.r.v≠0) || decide ((rsF r.r.op).2=(rsF r.l.op).2)) &&
 (((colV (occ r.r (rsF r.l.op).2) (colV (occ r.l (rsF r.l.op).2) (List.replicate (r.vars.toNat+1) 0))).drop 1).all fun x=>decide (x≠3)) &&
 (r.conds.all fun c=>condF c (colV (occ r.r (rsF r.l.op).2) (colV (occ r.l (rsF r.l.op).2) (List.replicate (r.vars.toNat+1) 0))) r.imms)
def implF (r:Rl):Bool:=decide (r.l.v=0)&&validF r.l r.vars r.imms&&validF r.r r.vars r.imms&&nameF r.name&&decide (r.conds.length≤6)&&implG r
def markV (l:List Pt) (bs:List Bool):List Bool:=l.foldl (fun bs q=>if 0<q.v∧q.v<(bs.length:Int) then bs.set q.v.toNat true else bs) bs
def markI (l:List Pt) (bs:List Bool):List Bool:=l.foldl (fun bs q=>if 0<q.iv∧q.iv<(bs.length:Int) then bs.set q.iv.toNat true else bs) bs
def refF (r:Rl):Bool :=
 decide (0≤r.vars∧r.vars≤6∧0≤r.imms∧r.imms≤6)&&nameF r.name&&decide (r.conds.length≤6)&&decide (r.l.v=0∧r.l.size≤24∧r.r.size≤24) &&
 (vPt r.l 0 r.imms (List.replicate r.vars.toNat 0)).1&&(vPt r.r (pSortF r.l.op) r.imms (vPt r.l 0 r.imms (List.replicate r.vars.toNat 0)).2).1 &&
 ((markV (nodes r.l) (List.replicate (r.vars.toNat+1) false)).drop 1).all id&&((markI (nodes r.l) (List.replicate (r.imms.toNat+1) false)).drop 1).all id &&
 (r.conds.all fun c=>condF c (0::(vPt r.r (pSortF r.l.op) r.imms (vPt r.l 0 r.imms (List.replicate r.vars.toNat 0)).2).2) r.imms)
def code (a b:Bool):Int:=(if a then 1 else 0)+(if b then 2 else 0)
theorem orB_code:∀a b:Bool,orB (code a b) 1=code true b∧orB (code a b) 2=code a true:=by decide +kernel
def hasO (l:List (Int×Int)) (i s:Int):Bool:=decide ((i,s)∈l)
theorem colV_len:∀(l:List (Int×Int)) (vs:List Int),(colV l vs).length=vs.length
 | [],_=>rfl
 | t::l,vs=>by
  show (colV l _).length=_;rw [colV_len l];simp
theorem colV_code:∀{l:List (Int×Int)} {vs:List Int} {n:Nat} (fa fb:Nat→Bool),vs.length=n+1→InR n l→(∀i:Nat,i<n+1→vs.getD i 0=code (fa i) (fb i))→∀i:Nat,i<n+1→(colV l vs).getD i 0=code (fa i || hasO l i 1) (fb i || hasO l i 2)
 | [],vs,n,fa,fb,_,_,h=>fun i hi=>by
  show vs.getD i 0=_;rw [h i hi];simp [hasO]
 | t::l,vs,n,fa,fb,hl,hr,h=>fun i hi=>by
  obtain ⟨a1,a2,a3⟩:=hr t (by simp);obtain ⟨j,hj⟩:∃j:Nat,t.1=(j:Int):=Int.eq_ofNat_of_zero_le (by omega);have hjn:j<n+1:=by omega
  have hv:=h j hjn
  have key:∀k:Nat,k<n+1→(vs.set t.1.toNat (orB (vs.getD t.1.toNat 0) t.2)).getD k 0=code (fa k || decide ((k:Int)=t.1∧t.2=1)) (fb k || decide ((k:Int)=t.1∧t.2=2)):=by
   intro k hk;rw [hj,Int.toNat_natCast,set_getD (by omega),hv];have oc:=orB_code (fa j) (fb j);by_cases e:j=k
   ·subst e;rw [if_pos rfl];rcases a3 with q | q
    ·rw [q,oc.1];simp
    ·rw [q,oc.2];simp
   ·rw [if_neg e,h k hk];have e2:¬((k:Int)=(j:Int)):=by omega
    simp [e2]
  show (colV l (vs.set t.1.toNat (orB (vs.getD t.1.toNat 0) t.2))).getD i 0=_;rw [colV_code _ _ (by simpa using hl) (fun x hx=>hr x (List.mem_cons_of_mem _ hx)) key i hi]
  have e1:hasO (t::l) i 1=(decide ((i:Int)=t.1∧t.2=1) || hasO l i 1):=by
   unfold hasO;rw [Bool.eq_iff_iff];simp only [decide_eq_true_eq,Bool.or_eq_true,List.mem_cons,Prod.ext_iff];constructor
   ·rintro (⟨x,y⟩ | h);exact .inl ⟨x,y.symm⟩;exact .inr h
   ·rintro (⟨x,y⟩ | h);exact .inl ⟨x,y.symm⟩;exact .inr h
  have e2:hasO (t::l) i 2=(decide ((i:Int)=t.1∧t.2=2) || hasO l i 2):=by
   unfold hasO;rw [Bool.eq_iff_iff];simp only [decide_eq_true_eq,Bool.or_eq_true,List.mem_cons,Prod.ext_iff];constructor
   ·rintro (⟨x,y⟩ | h);exact .inl ⟨x,y.symm⟩;exact .inr h
   ·rintro (⟨x,y⟩ | h);exact .inl ⟨x,y.symm⟩;exact .inr h
  rw [e1,e2,Bool.or_assoc,Bool.or_assoc]
theorem colV_zero {l:List (Int×Int)} {n:Nat} (hr:InR n l) (i:Nat) (hi:i<n+1):(colV l (List.replicate (n+1) 0)).getD i 0=code (hasO l i 1) (hasO l i 2):=by
 have:=colV_code (fun _=>false) (fun _=>false) (vs:=List.replicate (n+1) 0) (by simp) hr (fun i hi=>by simp [List.getD,code,hi]) i hi;simpa using this
theorem colV_app (a b:List (Int×Int)) (vs:List Int):colV b (colV a vs)=colV (a++b) vs:=by simp [colV]
theorem colI_len:∀(l:List Int) (ms:List Int),(colI l ms).length=ms.length
 | [],_=>rfl
 | t::l,ms=>by
  show (colI l _).length=_;rw [colI_len l];simp
theorem colI_mem:∀{l:List Int} {ms:List Int} {m:Nat},ms.length=m+1→(∀x∈l,0≤x∧x≤m)→∀i:Nat,i<m+1→((colI l ms).getD i 0≠0↔ms.getD i 0≠0∨(i:Int)∈l)
 | [],ms,m,_,_=>fun i _=>by simp [colI]
 | t::l,ms,m,hl,hr=>fun i hi=>by
  have a:=hr t (by simp);show (colI l (ms.set t.toNat 1)).getD i 0≠0↔_;rw [colI_mem (by simpa using hl) (fun x hx=>hr x (List.mem_cons_of_mem _ hx)) i hi,set_getD (by omega)];by_cases e:t.toNat=i
  ·rw [if_pos e];have : (i:Int)=t:=by omega
   simp [this]
  ·rw [if_neg e];have : ¬((i:Int)=t):=by omega
   simp [this]
theorem mark_get (g:Pt→Int):∀(l:List Pt) (bs:List Bool) (i:Nat),(l.foldl (fun bs q=>if 0<g q∧g q<bs.length then bs.set (g q).toNat true else bs) bs).length=bs.length∧(1≤i→i<bs.length→((l.foldl (fun bs q=>if 0<g q∧g q<bs.length then bs.set (g q).toNat true else bs) bs).getD i false=true↔bs.getD i false=true∨∃q∈l,g q=(i:Int)))
 | [],bs,i=>⟨rfl,fun _ _=>by simp⟩
 | t::l,bs,i=>by
  have hs:(if 0<g t∧g t<bs.length then bs.set (g t).toNat true else bs).length=bs.length:=by split <;> simp
  obtain ⟨i1,i2⟩:=mark_get g l (if 0<g t∧g t<bs.length then bs.set (g t).toNat true else bs) i;refine ⟨i1.trans hs,fun h1 h2=>?_⟩;rw [List.foldl_cons,i2 h1 (by omega)]
  have : (if 0<g t∧g t<bs.length then bs.set (g t).toNat true else bs).getD i false=true↔bs.getD i false=true∨g t=(i:Int):=by
   by_cases q:0<g t∧g t<bs.length
   ·rw [if_pos q];by_cases e:(g t).toNat=i
    ·have : g t=(i:Int):=by omega
     simp [List.getD,h2,this]
    ·have : ¬(g t=(i:Int)):=by omega
     simp [List.getD,e,this]
   ·rw [if_neg q];have : ¬(g t=(i:Int)):=by omega
    simp [this]
  rw [this];simp only [List.mem_cons,exists_eq_or_imp,or_assoc]
theorem all_drop {α:Type} {l:List α} {n:Nat} {d:α} {f:α→Bool} (hl:l.length=n+1):(l.drop 1).all f=true↔∀i:Nat,1≤i→i≤n→f (l.getD i d)=true:=by
 rw [List.all_eq_true];constructor
 ·intro h i h1 h2
  have : l.getD i d∈l.drop 1:=by
   rw [getD_of (by omega:i<l.length)];rw [List.mem_iff_getElem];exact ⟨i - 1,by simp;omega,by simp;congr 1;omega⟩
  exact h _ this
 ·intro h x hx;obtain ⟨i,hi,rfl⟩:=List.mem_iff_getElem.1 hx;have h3:i<l.length - 1:=by simpa using hi
  have:=h (1+i) (by omega) (by omega);rw [getD_of (by omega:1+i<l.length)] at this;simpa [Nat.add_comm] using this
theorem shp_nodes (p:Pt):∀(s m:Int) (n:Nat),shp p s m n=true→(∀i,i≠0→((∃q∈nodes p,q.v=i)↔∃s',(i,s')∈occ p s))∧(∀q∈nodes p,(q.v≠0→q.iv=0)∧(0≤m→0≤q.iv∧q.iv≤m)∧q.kids.length≤3):=by
 induction p using Pt.ind with
 | h p ih =>
  intro s m n h;rw [nodes_eq];by_cases hv:p.v=0
  ·rw [shp_op hv,Bool.and_eq_true,decide_eq_true_eq] at h;obtain ⟨⟨h1,h2,_,h4⟩,h5⟩:=h;rw [occ_op hv]
   have key:=Pt.indL (Q:=fun k=>∀(s m:Int) (n:Nat),shp k s m n=true→(∀i,i≠0→((∃q∈nodes k,q.v=i)↔∃s',(i,s')∈occ k s))∧(∀q∈nodes k,(q.v≠0→q.iv=0)∧(0≤m→0≤q.iv∧q.iv≤m)∧q.kids.length≤3))
    (QL:=fun (ks:List Pt) (ss:List Int)=>shpL ks ss m n=true→(∀i,i≠0→((∃q∈nodesL ks,q.v=i)↔∃s',(i,s')∈occL ks ss))∧(∀q∈nodesL ks,(q.v≠0→q.iv=0)∧(0≤m→0≤q.iv∧q.iv≤m)∧q.kids.length≤3))
    (fun ss _=>⟨fun i _=>by simp [nodesL,occL],fun q hq=>by simp [nodesL] at hq⟩)
    (fun k ks ss hk hks h=>by
     rw [shpL,Bool.and_eq_true] at h;obtain ⟨a1,a2⟩:=hk _ _ _ h.1;obtain ⟨b1,b2⟩:=hks h.2;refine ⟨fun i hi=>?_,fun q hq=>?_⟩
     ·simp only [nodesL,occL,List.mem_append,or_and_right,exists_or];rw [a1 i hi,b1 i hi]
     ·rw [nodesL] at hq;rcases List.mem_append.1 hq with hq | hq
      ·exact a2 q hq
      ·exact b2 q hq) p.kids ih _ h5
   obtain ⟨k1,k2⟩:=key;refine ⟨fun i hi=>?_,fun q hq=>?_⟩
   ·rw [←k1 i hi];simp only [List.mem_cons,exists_eq_or_imp];constructor
    ·rintro (h | h)
     ·omega
     ·exact h
    ·exact .inr
   ·rcases List.mem_cons.1 hq with rfl | hq
    ·refine ⟨fun q=>absurd hv q,fun hm=>?_,?_⟩
     ·by_cases h0:q.iv=0
      ·omega
      ·have : pImmF q m=(hasImmF q.op&&decide (q.imm=0∧1≤q.iv∧q.iv≤m)):=if_pos h0;rw [this,Bool.and_eq_true,decide_eq_true_eq] at h4;omega
     ·have:=(rs_parts h1).2.1;omega
    ·exact k2 q hq
  ·rw [shp_var hv,decide_eq_true_eq] at h;have hk:p.kids=[]:=List.eq_nil_of_length_eq_zero (by omega);rw [occ_var hv,hk];refine ⟨fun i hi=>?_,fun q hq=>?_⟩
   ·simp only [nodesL,List.mem_singleton,exists_eq_left,Prod.mk.injEq];constructor
    ·rintro rfl;exact ⟨s,rfl,rfl⟩
    ·rintro ⟨_,h,_⟩;exact h.symm
   ·simp only [nodesL,List.mem_singleton] at hq;subst hq;refine ⟨fun _=>by omega,fun _=>by omega,by rw [hk];simp⟩
theorem shp_sort {p:Pt} {s m:Int} {n:Nat} (h:shp p s m n=true):shp p 0 m n=true:=by
 by_cases hv:p.v=0
 ·rw [shp_op hv,Bool.and_eq_true,decide_eq_true_eq] at h ⊢;exact ⟨⟨h.1.1,h.1.2.1,.inl rfl,h.1.2.2.2⟩,h.2⟩
 ·rw [shp_var hv] at h ⊢;exact h
theorem shp_own {p:Pt} {s m:Int} {n:Nat} (h:shp p 0 m n=true) (hs:p.v=0→s=(oSortsF p.op).2.1):shp p s m n=true:=by
 by_cases hv:p.v=0
 ·rw [shp_op hv,Bool.and_eq_true,decide_eq_true_eq] at h ⊢;exact ⟨⟨h.1.1,h.1.2.1,.inr (hs hv),h.1.2.2.2⟩,h.2⟩
 ·rw [shp_var hv] at h ⊢;exact h
theorem shp_ok {p:Pt} {s m:Int} {n:Nat} (hv:p.v=0) (h:shp p s m n=true):(oSortsF p.op).2.2=true:=by
 rw [shp_op hv,Bool.and_eq_true,decide_eq_true_eq] at h;exact h.1.1
theorem shp_root {p:Pt} {s m:Int} {n:Nat} (h:shp p s m n=true) (hs:s≠0) (hv:p.v=0):s=(oSortsF p.op).2.1:=by
 rw [shp_op hv,Bool.and_eq_true,decide_eq_true_eq] at h;omega
structure RuleOk (r:Rl):Prop where
 vars:0≤r.vars∧r.vars≤6
 imms:0≤r.imms∧r.imms≤6
 name:nameF r.name=true
 few:r.conds.length≤6
 root:r.l.v=0
 sizes:r.l.size≤24∧r.r.size≤24
 shl:shp r.l 0 r.imms r.vars.toNat=true
 shr:shp r.r (oSortsF r.l.op).2.1 r.imms r.vars.toNat=true
 all:∀i:Nat,1≤i→i≤r.vars.toNat→∃s,((i:Int),s)∈occ r.l 0
 one:∀i s s',(i,s)∈occ r.l 0++occ r.r (oSortsF r.l.op).2.1→(i,s')∈occ r.l 0++occ r.r (oSortsF r.l.op).2.1→s=s'
 im:∀i:Nat,1≤i→i≤r.imms.toNat→(i:Int)∈occI r.l
 cnd:∀c∈r.conds,condF c (0::(List.range r.vars.toNat).map fun (i:Nat)=>if ((i:Int)+1,(1:Int))∈occ r.l 0 then (1:Int) else 2) r.imms=true
end Go.Proofs.YtifhejahbbnkiaaGreat
namespace Go.Proofs.YtifhejahbbnkiaaGreat
open Go.RowKit
theorem sorts_get {n:Nat} {f:Nat→Int} {i:Nat} (h1:1≤i) (h2:i≤n):(0::(List.range n).map f).getD i 0=f (i - 1):=by
 obtain ⟨k,rfl⟩:∃k,i=k+1:=⟨i - 1,by omega⟩;simp [List.getD,show k<n by omega]
theorem vPt_fst {p:Pt} {s m:Int} {vs:List Int}:(vPt p s m vs).1=true↔∃v,shp p s m vs.length=true∧run (occ p s) vs=some v:=by
 constructor
 ·intro h;exact ⟨_,(vPt_iff p s m vs (vPt p s m vs).2).1 (by rw [←h])⟩
 ·rintro ⟨v,h⟩;rw [(vPt_iff p s m vs v).2 h]
theorem occ_root {p:Pt} (h:p.v=0) (s t:Int):occ p s=occ p t:=by rw [occ_op h,occ_op h]
theorem InR.app {n:Nat} {a b:List (Int×Int)} (h:InR n a) (g:InR n b):InR n (a++b):=fun t ht=>(List.mem_append.1 ht).elim (h t) (g t)
theorem zeros_get (n i:Nat):(List.replicate n (0:Int)).getD i 0=0:=by
 simp only [List.getD,List.getElem?_replicate]
 split <;> rfl
section
variable {r:Rl}
theorem RuleOk.own (h:RuleOk r):(oSortsF r.l.op).2.1=1∨(oSortsF r.l.op).2.1=2:=osort_own (shp_ok h.root h.shl)
theorem RuleOk.inL (h:RuleOk r):InR r.vars.toNat (occ r.l 0):=shp_inR _ _ _ _ h.shl (.inr (.inr h.root))
theorem RuleOk.inR (h:RuleOk r):InR r.vars.toNat (occ r.r (oSortsF r.l.op).2.1):=shp_inR _ _ _ _ h.shr (by have:=h.own;omega)
theorem RuleOk.srt (h:RuleOk r):∀t∈occ r.l 0++occ r.r (oSortsF r.l.op).2.1,t.2=if (t.1,(1:Int))∈occ r.l 0 then 1 else 2:=by
 intro t ht;have hr:=h.inL.app h.inR t ht;obtain ⟨s,hs⟩:=h.all t.1.toNat (by omega) (by omega);rw [show ((t.1.toNat:Nat):Int)=t.1 by omega] at hs;have e:=h.one t.1 t.2 s ht (List.mem_append_left _ hs)
 split
 ·rename_i q;exact h.one t.1 t.2 1 ht (List.mem_append_left _ q)
 ·rename_i q;rcases hr.2.2 with q2 | q2
  ·exfalso;exact q (by rw [←e,q2] at hs;exact hs)
  ·exact q2
theorem sorts_len (n:Nat) (f:Nat→Int):(0::(List.range n).map f).length=n+1:=by simp
theorem imp_ok (h:implF r=true):RuleOk r:=by
 unfold implF implG at h;simp only [Bool.and_eq_true,decide_eq_true_eq,Bool.or_eq_true] at h;obtain ⟨⟨⟨⟨⟨h1,h2⟩,h3⟩,h4⟩,h5⟩,⟨⟨⟨⟨g1,g2⟩,g3⟩,g4⟩,g5⟩⟩:=h;unfold validF at h2 h3;simp only [Bool.and_eq_true,decide_eq_true_eq] at h2 h3;obtain ⟨v1,a1,a2⟩:=vPt_fst.1 h2.2;obtain ⟨v2,b1,b2⟩:=vPt_fst.1 h3.2;rw [List.length_replicate] at a1 b1;have ho:=shp_ok h1 a1;have hown:=(rs_parts ho).1;have hown12:=osort_own ho;have hl:=shp_inR _ _ _ _ a1 (.inr (.inr h1))
 have hsr:shp r.r (oSortsF r.l.op).2.1 r.imms r.vars.toNat=true:=shp_own b1 (fun hv=>by
  rcases g3 with q | q
  ·exact absurd hv q
  ·rw [←hown,←q];exact (rs_parts (shp_ok hv b1)).1)
 have hr:=shp_inR _ _ _ _ hsr (by omega);rw [hown,occ_root h1 _ 0] at g1 g4 g5;rw [colV_app] at g4 g5;have hlr:=hl.app hr;rw [all_drop (n:=r.vars.toNat) (d:=0) (by rw [colV_len];simp)] at g1 g4
 have hone:∀i s s',(i,s)∈occ r.l 0++occ r.r (oSortsF r.l.op).2.1→(i,s')∈occ r.l 0++occ r.r (oSortsF r.l.op).2.1→s=s':=by
  intro i s s' k1 k2;have q1:=hlr _ k1;have q2:=hlr _ k2;have:=g4 i.toNat (by omega) (by omega);rw [decide_eq_true_eq,colV_zero hlr _ (by omega)] at this;have e:((i.toNat:Nat):Int)=i:=by omega
  rw [e] at this
  have : ¬((i,(1:Int))∈occ r.l 0++occ r.r (oSortsF r.l.op).2.1∧(i,(2:Int))∈occ r.l 0++occ r.r (oSortsF r.l.op).2.1):=by
   rintro ⟨x,y⟩;apply this;unfold hasO;rw [dT_ x,dT_ y];rfl
  rcases q1.2.2 with z1 | z1 <;> rcases q2.2.2 with z2 | z2
  ·have z1:s=1:=z1;have z2:s'=1:=z2;omega
  ·exfalso;have z1:s=1:=z1;have z2:s'=2:=z2;subst z1;subst z2;exact this ⟨k1,k2⟩
  ·exfalso;have z1:s=2:=z1;have z2:s'=1:=z2;subst z1;subst z2;exact this ⟨k2,k1⟩
  ·have z1:s=2:=z1;have z2:s'=2:=z2;omega
 have hall:∀i:Nat,1≤i→i≤r.vars.toNat→∃s,((i:Int),s)∈occ r.l 0:=by
  intro i i1 i2;have:=g1 i i1 i2;rw [decide_eq_true_eq,colV_zero hl _ (by omega)] at this;by_cases q:((i:Int),(1:Int))∈occ r.l 0
  ·exact ⟨_,q⟩
  ·by_cases q2:((i:Int),(2:Int))∈occ r.l 0
   ·exact ⟨_,q2⟩
   ·exfalso
    apply this;unfold hasO;rw [dF_ q,dF_ q2];rfl
 have hnd:=(shp_nodes _ _ _ _ a1).2
 have him:∀i:Nat,1≤i→i≤r.imms.toNat→(i:Int)∈occI r.l:=by
  intro i i1 i2;rw [all_drop (n:=r.imms.toNat) (d:=0) (by rw [colI_len];simp)] at g2;have:=g2 i i1 i2
  rw [decide_eq_true_eq,colI_mem (m:=r.imms.toNat) (by simp) (fun x hx=>by
   obtain ⟨q,hq,rfl⟩:=List.mem_map.1 hx;have:=(hnd q (List.mem_filter.1 hq).1).2.1 (by omega)
   omega) i (by omega)] at this
  rcases this with q | q
  ·exfalso;exact q (zeros_get _ _)
  ·exact q
 refine ⟨by omega,by omega,h4,h5,h1,by omega,a1,hsr,hall,hone,him,fun c hc=>?_⟩;have:=List.all_eq_true.1 g5 c hc;rw [←this];refine condF_congr (by rw [colV_len];simp) (fun i i1 i2=>?_);rw [sorts_len] at i2;rw [sorts_get i1 (by omega),colV_zero hlr _ (by omega)];have e:((i - 1:Nat):Int)+1=i:=by omega
 rw [e];obtain ⟨s,hs⟩:=hall i i1 (by omega);have hs':=List.mem_append_left (occ r.r (oSortsF r.l.op).2.1) hs;unfold hasO;rcases (hl _ hs).2.2 with q | q
 ·have q:s=1:=q;subst q;rw [if_pos hs,dT_ hs',dF_ (fun q2=>by have:=hone _ _ _ hs' q2;omega)];simp [code]
 ·have q:s=2:=q;subst q;rw [if_neg (fun q2=>by have:=hone _ _ _ hs' (List.mem_append_left _ q2);omega),dT_ hs',dF_ (fun q2=>by have:=hone _ _ _ hs' q2;omega)]
  simp [code]
theorem RuleOk.runL (h:RuleOk r):∃v1,run (occ r.l 0) (List.replicate r.vars.toNat 0)=some v1∧(∀i:Nat,v1.getD i 0=0∨v1.getD i 0=if ((i:Int)+1,(1:Int))∈occ r.l 0 then 1 else 2):=by
 obtain ⟨v1,e1,e2,_⟩:=run_some (fun i=>if (i,(1:Int))∈occ r.l 0 then 1 else 2) (l:=occ r.l 0) (vs:=List.replicate r.vars.toNat 0) (by rw [List.length_replicate];exact h.inL) (fun t ht=>h.srt t (List.mem_append_left _ ht)) (fun i=>.inl (zeros_get _ _))
 exact ⟨v1,e1,e2⟩
theorem RuleOk.runR (h:RuleOk r) {v1:List Int} (e1:run (occ r.l 0) (List.replicate r.vars.toNat 0)=some v1) (e2:∀i:Nat,v1.getD i 0=0∨v1.getD i 0=if ((i:Int)+1,(1:Int))∈occ r.l 0 then 1 else 2) :
  ∃v2,run (occ r.r (oSortsF r.l.op).2.1) v1=some v2:=by
 have hl1:v1.length=r.vars.toNat:=by rw [run_len e1];simp
 obtain ⟨v2,f1,_⟩:=run_some (fun i=>if (i,(1:Int))∈occ r.l 0 then 1 else 2) (l:=occ r.r (oSortsF r.l.op).2.1) (vs:=v1) (by rw [hl1];exact h.inR) (fun t ht=>h.srt t (List.mem_append_right _ ht)) e2
 exact ⟨v2,f1⟩
theorem ok_imp (h:RuleOk r):implF r=true:=by
 obtain ⟨v1,e1,e2⟩:=h.runL;have ho:=shp_ok h.root h.shl;have hown:=(rs_parts ho).1;have hnd:=(shp_nodes _ _ _ _ h.shl).2;have hV:=h.vars;have hI:=h.imms;have hS:=h.sizes;have hlr:=h.inL.app h.inR;unfold implF implG;simp only [Bool.and_eq_true,decide_eq_true_eq,Bool.or_eq_true];rw [hown,occ_root h.root _ 0,colV_app];refine ⟨⟨⟨⟨⟨h.root,?_⟩,?_⟩,h.name⟩,h.few⟩,⟨⟨⟨⟨?_,?_⟩,?_⟩,?_⟩,?_⟩⟩
 ·unfold validF;simp only [Bool.and_eq_true,decide_eq_true_eq];exact ⟨by omega,vPt_fst.2 ⟨v1,by rw [List.length_replicate];exact h.shl,e1⟩⟩
 ·unfold validF;simp only [Bool.and_eq_true,decide_eq_true_eq];refine ⟨by omega,vPt_fst.2 ?_⟩;rw [List.length_replicate];by_cases hv:r.r.v=0
  ·obtain ⟨v2,f1,_⟩:=run_some (fun i=>if (i,(1:Int))∈occ r.l 0 then 1 else 2) (l:=occ r.r (oSortsF r.l.op).2.1) (vs:=List.replicate r.vars.toNat 0) (by rw [List.length_replicate];exact h.inR) (fun t ht=>h.srt t (List.mem_append_right _ ht)) (fun i=>.inl (zeros_get _ _))
   rw [occ_root hv _ 0] at f1;exact ⟨v2,shp_sort h.shr,f1⟩
  ·refine ⟨(List.replicate r.vars.toNat 0).set (r.r.v - 1).toNat 0,shp_sort h.shr,?_⟩;rw [occ_var hv];simp only [run,run1];rw [if_pos (zeros_get _ _)]
 ·rw [all_drop (n:=r.vars.toNat) (d:=0) (by rw [colV_len];simp)];intro i i1 i2;rw [decide_eq_true_eq,colV_zero h.inL _ (by omega)];obtain ⟨s,hs⟩:=h.all i i1 i2;unfold hasO;rcases (h.inL _ hs).2.2 with q | q
  ·have q:s=1:=q;subst q;rw [dT_ hs];cases decide (((i:Int),(2:Int))∈occ r.l 0) <;> decide
  ·have q:s=2:=q;subst q;rw [dT_ hs];cases decide (((i:Int),(1:Int))∈occ r.l 0) <;> decide
 ·rw [all_drop (n:=r.imms.toNat) (d:=0) (by rw [colI_len];simp)];intro i i1 i2
  rw [decide_eq_true_eq,colI_mem (m:=r.imms.toNat) (by simp) (fun x hx=>by
   obtain ⟨q,hq,rfl⟩:=List.mem_map.1 hx;have:=(hnd q (List.mem_filter.1 hq).1).2.1 (by omega)
   omega) i (by omega)]
  exact .inr (h.im i i1 i2)
 ·by_cases hv:r.r.v=0
  ·right
   rw [(rs_parts (shp_ok hv h.shr)).1];exact (shp_root h.shr (by have:=h.own;omega) hv).symm
  ·exact .inl hv
 ·rw [all_drop (n:=r.vars.toNat) (d:=0) (by rw [colV_len];simp)];intro i i1 i2;rw [decide_eq_true_eq,colV_zero hlr _ (by omega)];unfold hasO;by_cases q:((i:Int),(1:Int))∈occ r.l 0++occ r.r (oSortsF r.l.op).2.1
  ·have : ¬((i:Int),(2:Int))∈occ r.l 0++occ r.r (oSortsF r.l.op).2.1:=fun q2=>by have:=h.one _ _ _ q q2;omega
   rw [dT_ q,dF_ this];decide
  ·rw [dF_ q];cases decide (((i:Int),(2:Int))∈occ r.l 0++occ r.r (oSortsF r.l.op).2.1) <;> decide
 ·rw [List.all_eq_true];intro c hc;rw [←h.cnd c hc];refine condF_congr (by rw [colV_len];simp) (fun i i1 i2=>?_);rw [colV_len,List.length_replicate] at i2;rw [sorts_get i1 (by omega),colV_zero hlr _ (by omega)];have e:((i - 1:Nat):Int)+1=i:=by omega
  rw [e];obtain ⟨s,hs⟩:=h.all i i1 (by omega);have hs':=List.mem_append_left (occ r.r (oSortsF r.l.op).2.1) hs;unfold hasO;rcases (h.inL _ hs).2.2 with q | q
  ·have q:s=1:=q;subst q;rw [if_pos hs,dT_ hs',dF_ (fun q2=>by have:=h.one _ _ _ hs' q2;omega)];simp [code]
  ·have q:s=2:=q;subst q;rw [if_neg (fun q2=>by have:=h.one _ _ _ hs' (List.mem_append_left _ q2);omega),dT_ hs',dF_ (fun q2=>by have:=h.one _ _ _ hs' q2;omega)]
   simp [code]
theorem mark_len (l:List Pt) (bs:List Bool):(markV l bs).length=bs.length∧(markI l bs).length=bs.length:=⟨(mark_get Pt.v l bs 0).1,(mark_get Pt.iv l bs 0).1⟩
theorem false_get (n i:Nat):¬((List.replicate n false).getD i false=true):=by
 simp only [List.getD,List.getElem?_replicate]
 split <;> simp
theorem ref_ok (h:refF r=true):RuleOk r:=by
 unfold refF at h;simp only [Bool.and_eq_true,decide_eq_true_eq] at h;obtain ⟨⟨⟨⟨⟨⟨⟨⟨h1,h2⟩,h3⟩,h4⟩,h5⟩,h6⟩,h7⟩,h8⟩,h9⟩:=h;obtain ⟨v1,a1,a2⟩:=vPt_fst.1 h5;have e5:=(vPt_iff _ _ _ _ _).2 ⟨a1,a2⟩;rw [List.length_replicate] at a1;have ho:=shp_ok h4.1 a1;have hps:=(allowed_parts ho).2.1;rw [hps,e5] at h6 h9;have hl1:v1.length=r.vars.toNat:=by rw [run_len a2];simp
 obtain ⟨v2,b1,b2⟩:=vPt_fst.1 h6;have e6:=(vPt_iff _ _ _ _ _).2 ⟨b1,b2⟩;rw [e6] at h9;rw [hl1] at b1;have hown12:=osort_own ho;have hl:=shp_inR _ _ _ _ a1 (.inr (.inr h4.1));have hr:=shp_inR _ _ _ _ b1 (by omega);have hlr:=hl.app hr;obtain ⟨s1,s2⟩:=run_sound (by rw [List.length_replicate];exact hl) a2;obtain ⟨t1,t2⟩:=run_sound (by rw [hl1];exact hr) b2
 have hv2:∀t∈occ r.l 0++occ r.r (oSortsF r.l.op).2.1,v2.getD (t.1 - 1).toNat 0=t.2:=by
  intro t ht;rcases List.mem_append.1 ht with ht | ht
  ·have e:=s2 t ht;have:=(hl t ht).2.2;rw [t1 _ (by rw [e];omega),e]
  ·exact t2 t ht
 have hone:∀i s s',(i,s)∈occ r.l 0++occ r.r (oSortsF r.l.op).2.1→(i,s')∈occ r.l 0++occ r.r (oSortsF r.l.op).2.1→s=s':=by
  intro i s s' k1 k2;have q1:=hv2 _ k1;have q2:=hv2 _ k2;exact q1.symm.trans q2
 obtain ⟨n1,n2⟩:=shp_nodes _ _ _ _ a1
 have hall:∀i:Nat,1≤i→i≤r.vars.toNat→∃s,((i:Int),s)∈occ r.l 0:=by
  intro i i1 i2;rw [all_drop (n:=r.vars.toNat) (d:=false) (by rw [(mark_len _ _).1];simp)] at h7;have:=(((mark_get Pt.v (nodes r.l) _ i).2 i1 (by simp;omega)).1 (h7 i i1 i2));rcases this with q | q
  ·exact absurd q (false_get _ _)
  ·exact (n1 i (by omega)).1 q
 have him:∀i:Nat,1≤i→i≤r.imms.toNat→(i:Int)∈occI r.l:=by
  intro i i1 i2;rw [all_drop (n:=r.imms.toNat) (d:=false) (by rw [(mark_len _ _).2];simp)] at h8;have:=(((mark_get Pt.iv (nodes r.l) _ i).2 i1 (by simp;omega)).1 (h8 i i1 i2));rcases this with q | ⟨q,hq,e⟩
  ·exact absurd q (false_get _ _)
  ·refine List.mem_map.2 ⟨q,List.mem_filter.2 ⟨hq,?_⟩,e⟩;rw [decide_eq_true_eq];exact Decidable.byContradiction fun hv=>by have:=(n2 q hq).1 hv;omega
 refine ⟨by omega,by omega,h2,h3,h4.1,h4.2,a1,b1,hall,hone,him,fun c hc=>?_⟩;have:=List.all_eq_true.1 h9 c hc;rw [←this];refine condF_congr (by rw [sorts_len];simp [run_len b2,hl1]) (fun i i1 i2=>?_);rw [sorts_len] at i2;rw [sorts_get i1 (by omega)];have e:((i - 1:Nat):Int)+1=i:=by omega
 rw [e];obtain ⟨s,hs⟩:=hall i i1 (by omega);have hg:=hv2 _ (List.mem_append_left _ hs)
 have e3:(0::v2).getD i 0=s:=by
  obtain ⟨k,rfl⟩:∃k,i=k+1:=⟨i - 1,by omega⟩;rw [List.getD_cons_succ];have : (((k+1:Nat):Int) - 1).toNat=k:=by omega
  rw [this] at hg;exact hg
 rw [e3];rcases (hl _ hs).2.2 with q | q
 ·have q:s=1:=q;subst q;rw [if_pos hs]
 ·have q:s=2:=q;subst q;rw [if_neg (fun q2=>by have:=hone _ _ _ (List.mem_append_left _ hs) (List.mem_append_left _ q2);omega)]
theorem ok_ref (h:RuleOk r):refF r=true:=by
 obtain ⟨v1,e1,e2⟩:=h.runL;obtain ⟨v2,f1⟩:=h.runR e1 e2;have hl1:v1.length=r.vars.toNat:=by rw [run_len e1];simp
 have ho:=shp_ok h.root h.shl;have hps:=(allowed_parts ho).2.1;obtain ⟨n1,n2⟩:=shp_nodes _ _ _ _ h.shl;have hV:=h.vars;have hI:=h.imms;have hS:=h.sizes;have q1:=(vPt_iff r.l 0 r.imms (List.replicate r.vars.toNat 0) v1).2 ⟨by rw [List.length_replicate];exact h.shl,e1⟩;have q2:=(vPt_iff r.r (oSortsF r.l.op).2.1 r.imms v1 v2).2 ⟨by rw [hl1];exact h.shr,f1⟩;unfold refF;rw [q1,hps];dsimp only;rw [q2];simp only [Bool.and_eq_true,decide_eq_true_eq];refine ⟨⟨⟨⟨⟨⟨⟨⟨by omega,h.name⟩,h.few⟩,h.root,h.sizes⟩,trivial⟩,trivial⟩,?_⟩,?_⟩,?_⟩
 ·rw [all_drop (n:=r.vars.toNat) (d:=false) (by rw [(mark_len _ _).1];simp)];intro i i1 i2;exact ((mark_get Pt.v (nodes r.l) _ i).2 i1 (by simp;omega)).2 (.inr ((n1 i (by omega)).2 (h.all i i1 i2)))
 ·rw [all_drop (n:=r.imms.toNat) (d:=false) (by rw [(mark_len _ _).2];simp)];intro i i1 i2;obtain ⟨q,hq,e⟩:=List.mem_map.1 (h.im i i1 i2);exact ((mark_get Pt.iv (nodes r.l) _ i).2 i1 (by simp;omega)).2 (.inr ⟨q,(List.mem_filter.1 hq).1,e⟩)
 ·rw [List.all_eq_true];intro c hc;rw [←h.cnd c hc];refine condF_congr (by rw [sorts_len];simp [run_len f1,hl1]) (fun i i1 i2=>?_);have hlen:(0::v2).length=r.vars.toNat+1:=by simp [run_len f1,hl1]
  rw [sorts_get i1 (by omega)];have e:((i - 1:Nat):Int)+1=i:=by omega
  rw [e];obtain ⟨s,hs⟩:=h.all i i1 (by omega);obtain ⟨s1,s2⟩:=run_sound (by rw [List.length_replicate];exact h.inL) e1;obtain ⟨t1,t2⟩:=run_sound (by rw [hl1];exact h.inR) f1
  have hg:v2.getD ((i:Int) - 1).toNat 0=s:=by
   have e:=s2 _ hs;have:=(h.inL _ hs).2.2;rw [t1 _ (by rw [e];omega),e]
  have e3:(0::v2).getD i 0=s:=by
   obtain ⟨k,rfl⟩:∃k,i=k+1:=⟨i - 1,by omega⟩;rw [List.getD_cons_succ];have : (((k+1:Nat):Int) - 1).toNat=k:=by omega
   rw [this] at hg;exact hg
  rw [e3];rcases (h.inL _ hs).2.2 with q | q
  ·have q:s=1:=q;subst q;rw [if_pos hs]
  ·have q:s=2:=q;subst q;rw [if_neg (fun q2=>by have:=h.one _ _ _ (List.mem_append_left _ hs) (List.mem_append_left _ q2);omega)]
theorem imp_ref (r:Rl):implF r=refF r:=by
 rw [Bool.eq_iff_iff];exact ⟨fun h=>ok_ref (imp_ok h),fun h=>ok_imp (ref_ok h)⟩
end
end Go.Proofs.YtifhejahbbnkiaaGreat
namespace Go.Proofs.YtifhejahbbnkiaaGreat
open Go.RowKit
theorem take_snoc' {α:Type} {L:List α} {k:Nat} (h:k<L.length):L.take (k+1)=L.take k++[L[k]]:=by
 rw [List.take_add_one,List.getElem?_eq_getElem h];rfl
def CondsV (w:World) (F:Nat→Prop) (A:Option Addr) (cs:List Cd):Prop :=
 cs=[]∨∃b o,A=some ⟨b,o,none⟩∧F b∧∀i (h:i<cs.length),w.cell? ⟨b,o+i * 4,none⟩=some (.int .i64 cs[i].kind)∧w.cell? ⟨b,o+i * 4+1,none⟩=some (.int .i64 cs[i].a)∧w.cell? ⟨b,o+i * 4+2,none⟩=some (.int .i64 cs[i].b)∧w.cell? ⟨b,o+i * 4+3,none⟩=some (.int .i64 cs[i].n)
section
variable {w w':World} {F G S:Nat→Prop} {A:Option Addr} {cs:List Cd}
theorem CondsV.nil:CondsV w F A []:=.inl rfl
theorem CondsV.at_ (h:CondsV w F A cs) {i:Nat} (hi:i<cs.length):∃b o,A=some ⟨b,o,none⟩∧F b∧b<w.heap.size∧w.cell? ⟨b,o+i * 4,none⟩=some (.int .i64 cs[i].kind)∧w.cell? ⟨b,o+i * 4+1,none⟩=some (.int .i64 cs[i].a)∧w.cell? ⟨b,o+i * 4+2,none⟩=some (.int .i64 cs[i].b)∧w.cell? ⟨b,o+i * 4+3,none⟩=some (.int .i64 cs[i].n):=by
 rcases h with h | ⟨b,o,e,hF,h⟩
 ·subst h;simp at hi
 ·exact ⟨b,o,e,hF,World.block_lt_of_cell? _ _ (h i hi).1,h i hi⟩
theorem CondsV.upd (h:CondsV w F A cs) (u:Upd S w w') (d:∀k,k<w.heap.size→F k→¬S k):CondsV w' F A cs:=by
 rcases h with h | ⟨b,o,e,hF,h⟩
 ·exact .inl h
 ·refine .inr ⟨b,o,e,hF,fun i hi=>?_⟩;have hb:¬S b:=d b (World.block_lt_of_cell? _ _ (h i hi).1) hF;obtain ⟨h0,h1,h2,h3⟩:=h i hi;exact ⟨u_ h0 u hb,u_ h1 u hb,u_ h2 u hb,u_ h3 u hb⟩
theorem CondsV.mono (h:CondsV w F A cs) (hFG:∀k,k<w.heap.size→F k→G k):CondsV w G A cs:=by
 rcases h with h | ⟨b,o,e,hF,h⟩
 ·exact .inl h
 ·by_cases hn:cs=[]
  ·exact .inl hn
  ·exact .inr ⟨b,o,e,hFG b (World.block_lt_of_cell? _ _ (h 0 (List.length_pos_iff.2 hn)).1) hF,h⟩
end
structure RlA where
 la:Option Addr
 lc:Nat
 ra:Option Addr
 rc:Nat
 ca:Option Addr
 cc:Nat
def rlCells (r:Rl) (a:RlA):Array Value:=#[.string r.name,.int .i64 r.l.v,.int .i64 r.l.op,.int .i64 r.l.imm,.int .i64 r.l.iv,.slice a.la r.l.kids.length a.lc,.int .i64 r.r.v,.int .i64 r.r.op,.int .i64 r.r.imm,.int .i64 r.r.iv,.slice a.ra r.r.kids.length a.rc,.slice a.ca r.conds.length a.cc,.int .i64 r.vars,.int .i64 r.imms]
def rlv (r:Rl) (a:RlA):Value:=.agg (rlCells r a)
structure RlK (w:World) (F:Nat→Prop) (x:Rl) (a:RlA):Prop where
 l:PtK w F x.l a.la a.lc
 r:PtK w F x.r a.ra a.rc
 c:CondsV w F a.ca x.conds
 le:x.conds.length≤a.cc
theorem RlK.upd {w w':World} {F S:Nat→Prop} {r:Rl} {a:RlA} (h:RlK w F r a) (u:Upd S w w') (d:∀k,k<w.heap.size→F k→¬S k):RlK w' F r a :=
 ⟨PtK.upd u d _ _ _ h.l,PtK.upd u d _ _ _ h.r,h.c.upd u d,h.le⟩
theorem RlK.mono {w:World} {F G:Nat→Prop} {r:Rl} {a:RlA} (h:RlK w F r a) (g:∀k,k<w.heap.size→F k→G k):RlK w G r a :=
 ⟨PtK.mono g _ _ _ h.l,PtK.mono g _ _ _ h.r,h.c.mono g,h.le⟩
theorem results_cell_row_tmp {P:Program} {fn:Func} {p u:Tmp} {ty:TypeId} (h:fn.results=#[.cell p ty,.tmp u]) (tmps:Array Value) (w:World) (g:Nat) (t:TypeId) (cs:Array Value) (fr:Nat×Nat) (d:TypeDesc)
  (hp:tmps.getD p undef=.pointer (some ⟨g,0,none⟩)) (hg:w.heap[g]?=some (.cells cs t fr))
  (hu:P.underlying ty=some d) (hd:(match d with | .struct _ | .array _ _=>true | _=>false)=true) (hi:(P.info? ty).map (·.size)=some cs.size) :
  (results fn tmps).run P w=.ok (.tuple #[.agg cs,tmps.getD u undef]) w:=by
 rw [results_cell_tmp h,hp];simp [asAddr,run_loadVar_row w g t ty cs fr d hg hu hd hi,Result.andThen]
set_option maxRecDepth 100000 in
set_option maxHeartbeats 4000000 in
theorem rlSorts_c (op:Int) (w:World):Calls Tryz.prog 107 #[.int .i64 op] w fun e w'=>e=.returned (.tuple #[.agg #[.int .i64 ((rsF op).1.getD 0 0),.int .i64 ((rsF op).1.getD 1 0),.int .i64 ((rsF op).1.getD 2 0)],.int .i64 (rsF op).2])∧Upd Non w w':=by
 have uA:∀o,Upd Non w (w.alloc o):=fun o=>Upd.refl.alloc o
 by_cases h1:op=23
 ·subst h1;go_enter Tryz.func107,Tryz.ntmps107;go_wp2_with fail
  refine bodyPost_ret (results_cell_row_tmp rfl _ _ w.heap.size 162 _ (0,0) _ rfl (Blk.new _ _ _) Tryz.underlying162 rfl (by kernel_rfl)) rfl ?_;exact ⟨rfl,uA _⟩
 by_cases h2:op=24
 ·subst h2;go_enter Tryz.func107,Tryz.ntmps107;go_wp2_with fail
  refine bodyPost_ret (results_cell_row_tmp rfl _ _ w.heap.size 162 _ (0,0) _ rfl (Blk.new _ _ _) Tryz.underlying162 rfl (by kernel_rfl)) rfl ?_;exact ⟨rfl,uA _⟩
 by_cases h3:op=27
 ·subst h3;go_enter Tryz.func107,Tryz.ntmps107;go_wp2_with fail
  refine bodyPost_ret (results_cell_row_tmp rfl _ _ w.heap.size 162 _ (0,0) _ rfl (Blk.new _ _ _) Tryz.underlying162 rfl (by kernel_rfl)) rfl ?_;exact ⟨rfl,uA _⟩
 by_cases h4:op=29
 ·subst h4;go_enter Tryz.func107,Tryz.ntmps107;go_wp2_with fail
  refine bodyPost_ret (results_cell_row_tmp rfl _ _ w.heap.size 162 _ (0,0) _ rfl (Blk.new _ _ _) Tryz.underlying162 rfl (by kernel_rfl)) rfl ?_;exact ⟨rfl,uA _⟩
 by_cases h5:op=28
 ·subst h5;go_enter Tryz.func107,Tryz.ntmps107;go_wp2_with fail
  refine bodyPost_ret (results_cell_row_tmp rfl _ _ w.heap.size 162 _ (0,0) _ rfl (Blk.new _ _ _) Tryz.underlying162 rfl (by kernel_rfl)) rfl ?_;exact ⟨rfl,uA _⟩
 ·have t1:(op==23)=false:=by simpa using h1
  have t2:(op==24)=false:=by simpa using h2
  have t3:(op==27)=false:=by simpa using h3
  have t4:(op==29)=false:=by simpa using h4
  have t5:(op==28)=false:=by simpa using h5
  have e:rsF op=([1,1,1],1):=by unfold rsF;rw [if_neg h1,if_neg h2,if_neg (by omega),if_neg h5]
  rw [e];clear h1 h2 h3 h4 h5 e;go_enter Tryz.func107,Tryz.ntmps107;go_wp2_with fail
  refine bodyPost_ret (results_cell_row_tmp rfl _ _ w.heap.size 162 _ (0,0) _ rfl (Blk.new _ _ _) Tryz.underlying162 rfl (by kernel_rfl)) rfl ?_;exact ⟨rfl,uA _⟩
def occIL (ks:List Pt):List Int:=((nodesL ks).filter fun q=>decide (q.v=0)).map Pt.iv
theorem occI_op {p:Pt} (h:p.v=0):occI p=p.iv::occIL p.kids:=by
 unfold occI occIL;rw [nodes_eq];simp [h]
theorem occI_var {p:Pt} {s m:Int} {n:Nat} (hs:shp p s m n=true) (h:p.v≠0):occI p=[]:=by
 rw [shp_var h,decide_eq_true_eq] at hs;have hk:p.kids=[]:=List.eq_nil_of_length_eq_zero (by omega);unfold occI;rw [nodes_eq,hk];simp [nodesL,h]
theorem nodesL_snoc:∀(ks:List Pt) (k:Pt),nodesL (ks++[k])=nodesL ks++nodes k
 | [],k=>by simp [nodesL]
 | x::ks,k=>by simp [nodesL,nodesL_snoc ks k]
theorem occIL_snoc (ks:List Pt) (k:Pt):occIL (ks++[k])=occIL ks++occI k:=by
 unfold occIL occI;rw [nodesL_snoc,List.filter_append,List.map_append]
theorem occL_snoc:∀(ks:List Pt) (k:Pt) (ss:List Int),occL (ks++[k]) ss=occL ks ss++occ k (ss.getD ks.length 0)
 | [],k,ss=>by
  cases ss <;> simp [occL]
 | x::ks,k,ss=>by
  cases ss with
  | nil=>simp [occL,occL_snoc ks k]
  | cons y ss=>simp [occL,occL_snoc ks k]
theorem shpL_at {m:Int} {n:Nat}:∀{ks:List Pt} {ss:List Int} {i:Nat} (hi:i<ks.length),shpL ks ss m n=true→shp ks[i] (ss.getD i 0) m n=true
 | k::ks,ss,0,_,h=>by
  rw [shpL,Bool.and_eq_true] at h;have:=h.1;cases ss <;> simpa using this
 | k::ks,ss,i+1,hi,h=>by
  rw [shpL,Bool.and_eq_true] at h;have:=shpL_at (i:=i) (by simpa using hi) h.2;cases ss <;> simpa using this
theorem colV_snoc (a b:List (Int×Int)) (vs:List Int):colV (a++b) vs=colV b (colV a vs):=by simp [colV]
theorem colI_snoc (a b:List Int) (ms:List Int):colI (a++b) ms=colI b (colI a ms):=by simp [colI]
end Go.Proofs.YtifhejahbbnkiaaGreat
