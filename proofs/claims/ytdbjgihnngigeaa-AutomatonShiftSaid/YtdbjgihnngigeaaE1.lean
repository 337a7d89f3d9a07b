/-
  Lemmas and walks that the claim rests on, part 1 (packed by a program).
-/
import Derived.WalkKit
import Derived.WalkSpells
import Derived.WalkLawsBesides
import Derived.Lib.Hide
import Derived.Maps.AppendAt
import Derived.Deep.Draws
import Derived.Laws.MakeOwn
import Derived.Deep.LoopGhost
import Derived.Deep.QuietTactic
import Derived.BigQuiet
import Derived.Deep.DeepCutAuto
import Derived.OrdersHeld
import Derived.Test.YtdbjgihnngigeaaProg
import Derived.Deep.CutBlock
import Derived.Deep.RegionHeld3
import Derived.IntWalk
import Derived.Laws.AppendOwn
import Derived.StillTailTactics
import Derived.OwnWalk
import Derived.Laws.ResultCell
import Derived.Laws.Rows
namespace Go.Proofs.Ytdbjgihnngigeaa
open Go.RowKit
theorem h_ {p:Prop} (h:p):Hid p:=h
theorem dT_ {p:Prop} [Decidable p] (h:p):decide p=true:=decide_eq_true h
theorem dF_ {p:Prop} [Decidable p] (h:¬p):decide p=false:=decide_eq_false h
section
variable {P:Program} {ops:Array Oper} {Q:Exit→Act→World→Prop} {md:Region.Mode} {S:World→Prop} {fuel:Nat} {listed:Array Bool} {a:Act} {w:World} {rs:List Nat}
theorem aN_:AllReadyH P md ops Q S fuel listed a w []:=.nil
theorem aC_ {i:Nat} {o:Oper} (ho:ops[i]?=some o) (h:∀K':Act→World→Prop,Shut (∀a w,S w→(S w→wpAnyH P md ops Q S fuel (listed.setIfInBounds i true) a w)→K' a w)→if Region.wanted o (yielded ops a.tmps)=true then Oper.wp P o a w K' Q else K' (a.put o.dst undef) w) (hs:AllReadyH P md ops Q S fuel listed a w rs):AllReadyH P md ops Q S fuel listed a w (i::rs):=.cons ho h hs
theorem aR_ (hr:Region.ready md ops listed=rs) (hne:rs≠[]) (h:AllReadyH P md ops Q S fuel listed a w rs):wpAnyH P md ops Q S (fuel+1) listed a w:=wpAnyH_ready hr hne h
theorem aD_ (hr:Region.ready md ops listed=[]) (h:Q .normal a w):∀fuel,wpAnyH P md ops Q S fuel listed a w:=wpAnyH_done hr h
end
structure Upd (S:Nat→Prop) (w w':World):Prop where
 os:w'.os=w.os
 tape:w'.tape=w.tape
 output:w'.output=w.output
 size:w.heap.size≤w'.heap.size
 block:∀k,k<w.heap.size→¬S k→w'.heap[k]?=w.heap[k]?
def Non:Nat→Prop:=fun _=>False
theorem Upd.refl {S:Nat→Prop} {w:World}:Upd S w w:=⟨rfl,rfl,rfl,Nat.le_refl _,fun _ _ _=>rfl⟩
theorem Upd.trans {S T:Nat→Prop} {a b c:World} (h:Upd S a b) (k:Upd T b c) (hT:∀i,i<a.heap.size→T i→S i):Upd S a c :=
 ⟨k.os.trans h.os,k.tape.trans h.tape,k.output.trans h.output,Nat.le_trans h.size k.size,fun i hi hn=>(k.block i (Nat.lt_of_lt_of_le hi h.size) (fun t=>hn (hT i hi t))).trans (h.block i hi hn)⟩
theorem Upd.mono {S T:Nat→Prop} {a b:World} (h:Upd S a b) (hT:∀i,i<a.heap.size→S i→T i):Upd T a b :=
 ⟨h.os,h.tape,h.output,h.size,fun i hi hn=>h.block i hi (fun s=>hn (hT i hi s))⟩
theorem Upd.then_non {S:Nat→Prop} {a b c:World} (h:Upd S a b) (k:Upd Non b c):Upd S a c:=h.trans k (fun _ _ f=>f.elim)
theorem Upd.alloc {S:Nat→Prop} {a w:World} (h:Upd S a w) (o:Obj):Upd S a (w.alloc o) :=
 ⟨h.os,h.tape,h.output,Nat.le_trans h.size (by simp),fun i hi hn=>(Below.heap_alloc w o i (Nat.lt_of_lt_of_le hi h.size)).trans (h.block i hi hn)⟩
theorem Upd.setCell {S:Nat→Prop} {a w:World} (h:Upd S a w) {p:Addr} (hp:S p.block∨a.heap.size≤p.block) (u:Value):Upd S a (w.setCell p u) :=
 ⟨h.os,h.tape,h.output,by simpa [World.setCell] using h.size,fun k hk hn=>(Below.heap_setCell w p u k (by rintro rfl;rcases hp with hp | hp;exact hn hp;omega)).trans (h.block k hk hn)⟩
theorem Upd.drew {S:Nat→Prop} {a w:World} (h:Upd S a w):Upd S a w.drew:=⟨h.os,h.tape,h.output,h.size,h.block⟩
theorem Upd.drewN {S:Nat→Prop} {a w:World} (h:Upd S a w) (n:Nat):Upd S a (w.drewN n):=⟨h.os,h.tape,h.output,h.size,h.block⟩
theorem Upd.of_grown {w w':World} {row:Option Nat} (hg:w.grownBy w' row):Upd (fun k=>some k=row) w w':=⟨hg.os,hg.tape,hg.output,hg.size,hg.block⟩
theorem Upd.toBelow {w w':World} (h:Upd Non w w'):Below w.heap.size w w':=⟨h.os,h.tape,h.output,h.size,fun k hk=>h.block k hk (fun f=>f)⟩
def Blk (w:World) (g:Nat) (t:TypeId) (cs:Array Value):Prop:=w.heap[g]?=some (.cells cs t (0,0))
section
variable {w w':World} {g:Nat} {t:TypeId} {cs:Array Value}
theorem lt_of_heap {o:Obj} (h:w.heap[g]?=some o):g<w.heap.size:=by
 rcases Nat.lt_or_ge g w.heap.size with hlt | hge
 ·exact hlt
 ·rw [Array.getElem?_eq_none hge] at h;cases h
theorem Blk.lt (h:Blk w g t cs):g<w.heap.size:=lt_of_heap h
theorem Blk.cell (h:Blk w g t cs) (i:Nat):w.cell? ⟨g,i,none⟩=cs[i]?:=cell_of_row w g i cs t (0,0) h
theorem Blk.frozen (h:Blk w g t cs) (i:Nat):w.frozen? ⟨g,i,none⟩=false:=by
 unfold Blk at h;simp [World.frozen?,h]
theorem Blk.new (w:World) (t:TypeId) (cs:Array Value):Blk (w.alloc (.cells cs t)) w.heap.size t cs:=heap_alloc_new w _
theorem Blk.alloc (h:Blk w g t cs) (o:Obj):Blk (w.alloc o) g t cs:=(Below.heap_alloc w o g h.lt).trans h
theorem Blk.set_ (h:Blk w g t cs) (i:Nat) (u:Value):Blk (w.setCell ⟨g,i,none⟩ u) g t (cs.setIfInBounds i u):=by
 unfold Blk at h ⊢;simp [World.setCell,Array.getElem?_modify,h]
theorem Blk.far (h:Blk w g t cs) {p:Addr} (hp:g≠p.block) (u:Value):Blk (w.setCell p u) g t cs:=(Below.heap_setCell w p u g hp).trans h
theorem Blk.upd {S:Nat→Prop} (h:Blk w g t cs) (u:Upd S w w') (hS:¬S g):Blk w' g t cs:=(u.block g h.lt hS).trans h
theorem Blk.ne_ {g':Nat} {t':TypeId} {cs':Array Value} (h:Blk w g t cs) (h':Blk w g' t' cs') (hne:t≠t'):g≠g':=by
 rintro rfl;unfold Blk at h h';rw [h] at h';injection h' with h'
 injection h' with _ ht
 exact hne ht
end
def Sl (w:World) (F:Nat→Prop) (A:Option Addr) (cs:List Value):Prop :=
 cs=[]∨∃b off,A=some ⟨b,off,none⟩∧F b∧∀j (h:j<cs.length),w.cell? ⟨b,off+j,none⟩=some cs[j]
section
variable {w w':World} {F G S:Nat→Prop} {A:Option Addr} {cs:List Value}
theorem Sl.nil:Sl w F A []:=.inl rfl
theorem Sl.mono (h:Sl w F A cs) (hFG:∀k,k<w.heap.size→F k→G k):Sl w G A cs:=by
 rcases h with h | ⟨b,off,e,hF,hc⟩
 ·exact .inl h
 ·by_cases hn:cs=[]
  ·exact .inl hn
  ·have h0:0<cs.length:=List.length_pos_iff.2 hn;exact .inr ⟨b,off,e,hFG b (World.block_lt_of_cell? w _ (hc 0 h0)) hF,hc⟩
theorem Sl.upd (h:Sl w F A cs) (u:Upd S w w') (d:∀k,k<w.heap.size→F k→¬S k):Sl w' F A cs:=by
 rcases h with h | ⟨b,off,e,hF,hc⟩
 ·exact .inl h
 ·refine .inr ⟨b,off,e,hF,fun j hj=>?_⟩;have hlt:b<w.heap.size:=World.block_lt_of_cell? w _ (hc j hj);rw [World.cell?_of_block (w:=w) (u.block b hlt (d b hlt hF))];exact hc j hj
theorem Sl.at_ {k:Nat} (h:Sl w F A cs) (hk:k<cs.length):∃b off,A=some ⟨b,off,none⟩∧F b∧b<w.heap.size∧w.cell? ⟨b,off+k,none⟩=some cs[k]:=by
 rcases h with h | ⟨b,off,e,hF,hc⟩
 ·subst h;simp at hk
 ·exact ⟨b,off,e,hF,World.block_lt_of_cell? w _ (hc k hk),hc k hk⟩
theorem Sl.of_blk {g:Nat} {t:TypeId} {cur:Array Value} (hF:F g) (h:Blk w g t cur) (n:Nat):Sl w F (some ⟨g,0,none⟩) (cur.toList.take n) :=
 .inr ⟨g,0,rfl,hF,fun j hj=>by rw [h.cell];simp at hj ⊢⟩
end
def At (A:Option Addr) (k:Nat):Prop:=∃o s,A=some ⟨k,o,s⟩
theorem At.none_ {k:Nat}:¬At none k:=fun ⟨_,_,h⟩=>by cases h
theorem At.some_ {g k o:Nat} {s:Option Nat}:At (some ⟨g,o,s⟩) k↔k=g:=⟨fun ⟨_,_,h⟩=>by injection h with h;injection h with h;exact h.symm,fun h=>⟨o,s,by rw [h]⟩⟩
def Own (w:World) (e:TypeId) (size:Nat) (A:Option Addr) (n c:Nat) (cs:List Value):Prop:=w.ownsRow 0 e size (.slice A n c) n cs
structure SlT (P:Program) (t e:TypeId) (size bytes:Nat):Prop where
 und:P.underlying t=some (.slice e)
 info:∃i z,P.info? e=some i∧i.zero=some z∧i.size=size∧i.bytes=bytes∧z.cells.size=size
 pos:0<size
section
variable {w w':World} {e:TypeId} {size:Nat} {A:Option Addr} {n c:Nat} {cs:List Value} {S:Nat→Prop}
theorem Own.none_:Own w e size none 0 0 []:=⟨by simp,.inl ⟨rfl,rfl⟩⟩
theorem Own.len (h:Own w e size A n c cs):cs.length=n * size:=h.1
theorem Own.cases (h:Own w e size A n c cs):(A=none∧n=0∧c=0∧cs=[])∨∃g cur,A=some ⟨g,0,none⟩∧Blk w g e cur∧n≤c∧c≤maxLen∧cur.size=c * size∧cur.toList.take (n * size)=cs:=by
 obtain ⟨h1,h2⟩:=h;rcases h2 with ⟨hv,h0⟩ | ⟨g,cap,cur,hv,_,hg,hn,hm,hs,ht⟩
 ·left
  injection hv with a b d
  subst h0;exact ⟨a,rfl,d,List.eq_nil_of_length_eq_zero (by simpa using h1)⟩
 ·right
  injection hv with a b d
  subst a;subst d;exact ⟨g,cur,rfl,hg,hn,hm,hs,ht⟩
theorem Own.mk_ {g:Nat} {cur:Array Value} (hb:Blk w g e cur) (hn:n≤c) (hm:c≤maxLen) (hs:cur.size=c * size) (ht:cur.toList.take (n * size)=cs):Own w e size (some ⟨g,0,none⟩) n c cs:=by
 refine ⟨?_,.inr ⟨g,c,cur,rfl,Nat.zero_le _,hb,hn,hm,hs,ht⟩⟩;rw [←ht,List.length_take,Array.length_toList,hs];exact Nat.min_eq_left (Nat.mul_le_mul_right _ hn)
theorem Own.lt (h:Own w e size A n c cs) {k:Nat} (hk:At A k):k<w.heap.size:=by
 rcases h.cases with ⟨rfl,_⟩ | ⟨g,cur,rfl,hb,_⟩
 ·exact (At.none_ hk).elim
 ·rw [At.some_] at hk;subst hk;exact hb.lt
theorem Own.sl (h:Own w e size A n c cs):Sl w (At A) A cs:=by
 rcases h.cases with ⟨_,_,_,h0⟩ | ⟨g,cur,rfl,hb,_,_,_,ht⟩
 ·exact .inl h0
 ·rw [←ht];exact Sl.of_blk (At.some_.2 rfl) hb _
theorem Own.upd (h:Own w e size A n c cs) (u:Upd S w w') (d:∀k,At A k→¬S k):Own w' e size A n c cs:=by
 rcases h.cases with ⟨rfl,rfl,rfl,rfl⟩ | ⟨g,cur,rfl,hb,hn,hm,hs,ht⟩
 ·exact Own.none_
 ·exact Own.mk_ (hb.upd u (d g (At.some_.2 rfl))) hn hm hs ht
theorem Own.alloc (h:Own w e size A n c cs) (o:Obj):Own (w.alloc o) e size A n c cs:=h.upd (Upd.refl.alloc o (S:=Non)) (fun _ _ f=>f)
theorem Own.drewN (h:Own w e size A n c cs) (k:Nat):Own (w.drewN k) e size A n c cs:=h
theorem Own.ne_type {e':TypeId} {size' n' c':Nat} {A':Option Addr} {cs':List Value} (h:Own w e size A n c cs) (h':Own w e' size' A' n' c' cs') (hne:e≠e') {k:Nat} (hk:At A k):¬At A' k:=by
 rcases h.cases with ⟨rfl,_⟩ | ⟨g,cur,rfl,hb,_⟩
 ·exact (At.none_ hk).elim
 ·rcases h'.cases with ⟨rfl,_⟩ | ⟨g',cur',rfl,hb',_⟩
  ·exact At.none_
  ·rw [At.some_] at hk ⊢;subst hk;exact hb.ne_ hb' hne
theorem Own.ne_blk {g:Nat} {t:TypeId} {cur:Array Value} (h:Own w e size A n c cs) (h':Blk w g t cur) (hne:e≠t):¬At A g:=by
 rcases h.cases with ⟨rfl,_⟩ | ⟨g',cur',rfl,hb,_⟩
 ·exact At.none_
 ·rw [At.some_];exact (hb.ne_ h' hne).symm
end
theorem run_app {P:Program} {w:World} {F:Nat→Prop} {t ty e:TypeId} {size bytes:Nat} (T:SlT P t e size bytes) {A:Option Addr} {n c:Nat} {cs:List Value} (h:Own w e size A n c cs)
  {A2:Option Addr} {m c2:Nat} {news:List Value} (hr:Sl w F A2 news) (hl:news.length=m * size) (h1:∀u∈news,u.oneCell'=true) (h63:n+m≤maxLen) (hb:(n+m) * bytes≤140737488355328) :
  ∃A' c' w',(Builtin.append_ #[t,t] ty #[.slice A n c,.slice A2 m c2]).run P w=.ok (.slice A' (n+m) c') w'∧Own w' e size A' (n+m) c' (cs++news)∧Upd (At A) w w'∧(∀k,At A' k→At A k∨k=w.heap.size):=by
 obtain ⟨ht,⟨i,z,hi,hz,hsz,hby,hzs⟩,hpos⟩:=T;by_cases hm:m=0
 ·subst hm;have hn:news=[]:=List.eq_nil_of_length_eq_zero (by simpa using hl);subst hn;refine ⟨A,c,w,?_,by simpa using h,Upd.refl,fun k hk=>.inl hk⟩;rcases h.cases with ⟨rfl,rfl,rfl,rfl⟩ | ⟨g,cur,rfl,hb,hn,hm,hs,ht'⟩
  ·cases A2 <;> simp [Builtin.append_,run_underlying ht,sizeOf,typeInfo,hi,Builtin.lenOf,Builtin.firstCells,loadCells,loadCellsFrom]
  ·cases A2 <;> simp [Builtin.append_,run_underlying ht,sizeOf,typeInfo,hi,Builtin.lenOf,Builtin.firstCells,hn,storeCells,loadCells,loadCellsFrom]
 ·rcases hr with hr | ⟨b,off,rfl,_,hc⟩
  ·subst hr;have : m * size=0:=by simpa using hl.symm
   rcases Nat.mul_eq_zero.1 this with h0 | h0 <;> omega
  ·have hnews:∀j u,news[j]?=some u→w.cell? ((⟨b,off,none⟩:Addr).add j)=some u:=by
    intro j u hu;obtain ⟨hj,rfl⟩:=List.getElem?_eq_some_iff.1 hu;rw [Addr.add_lit];exact hc j hj
   obtain ⟨v',w',hrun,h2,h3,_,h5⟩:=run_append_own_at (P:=P) w 0 t ty e i z size bytes ht hi hz hsz hby hzs hpos (.slice A n c) n cs h ⟨b,off,none⟩ m c2 news hl hnews h1 h63 hb (Nat.zero_le _)
   obtain ⟨g,cap,rfl,_,_⟩:∃g cap,v'=.slice (some ⟨g,0,none⟩) (n+m) cap∧True∧True:=by
    rcases h2.2 with ⟨_,h0⟩ | ⟨g,cap,cur,hv,_⟩
    ·omega
    ·exact ⟨g,cap,hv,trivial,trivial⟩
   refine ⟨_,_,w',hrun,h2,(Upd.of_grown h3).mono (fun k _ hk=>?_),fun k hk=>?_⟩
   ·cases A with
    | none=>simp [Value.ownBlock] at hk
    | some a=>exact ⟨a.off,a.spot,by simp [Value.ownBlock] at hk;subst hk;rfl⟩
   ·rw [At.some_] at hk;subst hk;rcases h5 with h5 | h5
    ·left
     cases A with
     | none=>simp [Value.ownBlock] at h5
     | some a=>exact ⟨a.off,a.spot,by simp [Value.ownBlock] at h5;subst h5;rfl⟩
    ·right
     simpa [Value.ownBlock] using h5
theorem wp_app {P:Program} {w:World} {o:Oper} {a:Act} {K:Act→World→Prop} {Q:Exit→Act→World→Prop} {s x:Operand} {t:TypeId}
  (ho:o.op=.call { callee:=.builtin .append,args:=#[s,x],argTypes:=#[t,t] }) {F:Nat→Prop} {e:TypeId} {size bytes:Nat} (T:SlT P t e size bytes) {A:Option Addr} {n c:Nat} {cs:List Value} (hs:a.eval s=.slice A n c) (h:Own w e size A n c cs)
  {A2:Option Addr} {m c2:Nat} {news:List Value} (hx:a.eval x=.slice A2 m c2) (hr:Sl w F A2 news) (hl:news.length=m * size) (h1:∀u∈news,u.oneCell'=true) (h63:n+m≤maxLen) (hb:(n+m) * bytes≤140737488355328)
  (k:∀A' c' w',Own w' e size A' (n+m) c' (cs++news)→Upd (At A) w w'→(∀k,At A' k→At A k∨k=w.heap.size)→K (a.put o.dst (.slice A' (n+m) c')) w'):o.wp P a w K Q:=by
 obtain ⟨A',c',w',hrun,h2,h3,h4⟩:=run_app (P:=P) (ty:=o.type) (c2:=c2) T h hr hl h1 h63 hb;unfold Oper.wp execOp;simp only [ho,resolve,invoke,builtin,Sem.run_bind,Sem.run_pure,Result.andThen_ok,List.map_toArray,List.map_cons,List.map_nil,hs,hx,hrun];exact k A' c' w' h2 h3 h4
theorem wpList_app {P:Program} {w:World} {ops:Array Oper} {rest:List Oper} {o:Oper} {a:Act} {Q:Exit→Act→World→Prop} (hgd:o.guard=none) {s x:Operand} {t:TypeId}
  (ho:o.op=.call { callee:=.builtin .append,args:=#[s,x],argTypes:=#[t,t] }) {F:Nat→Prop} {e:TypeId} {size bytes:Nat} (T:SlT P t e size bytes) {A:Option Addr} {n c:Nat} {cs:List Value} (hs:a.eval s=.slice A n c) (h:Own w e size A n c cs)
  {A2:Option Addr} {m c2:Nat} {news:List Value} (hx:a.eval x=.slice A2 m c2) (hr:Sl w F A2 news) (hl:news.length=m * size) (h1:∀u∈news,u.oneCell'=true) (h63:n+m≤maxLen) (hb:(n+m) * bytes≤140737488355328)
  (k:∀A' c' w',Own w' e size A' (n+m) c' (cs++news)→Upd (At A) w w'→(∀k,At A' k→At A k∨k=w.heap.size)→wpList P ops Q rest (a.put o.dst (.slice A' (n+m) c')) w'):wpList P ops Q (o::rest) a w :=
 wpList_plain hgd fun _ hK=>wp_app ho T hs h hx hr hl h1 h63 hb fun A' c' w' h2 h3 h4=>hK _ _ (k A' c' w' h2 h3 h4)
theorem Sl.new (w:World) (t:TypeId) (cs:List Value):Sl (w.alloc (.cells cs.toArray t)) (·=w.heap.size) (some ⟨w.heap.size,0,none⟩) cs:=by
 have:=Sl.of_blk (F:=(·=w.heap.size)) rfl (Blk.new w t cs.toArray) cs.length;simpa using this
def Ints (w:World) (F:Nat→Prop) (A:Option Addr) (xs:List Int):Prop:=Sl w F A (xs.map fun x=>Value.int .i64 x)
section
variable {w w':World} {F G S:Nat→Prop} {A:Option Addr} {xs:List Int}
theorem Ints.nil:Ints w F A []:=.inl rfl
theorem Ints.upd (h:Ints w F A xs) (u:Upd S w w') (d:∀k,k<w.heap.size→F k→¬S k):Ints w' F A xs:=Sl.upd h u d
theorem Ints.at_ {k:Nat} (h:Ints w F A xs) (hk:k<xs.length):∃b off,A=some ⟨b,off,none⟩∧F b∧b<w.heap.size∧w.cell? ⟨b,off+k,none⟩=some (.int .i64 xs[k]):=by
 obtain ⟨b,off,e,hF,hb,hc⟩:=Sl.at_ h (k:=k) (by simpa using hk);exact ⟨b,off,e,hF,hb,by simpa using hc⟩
end
def bstr (ns:List Int):ByteArray:=⟨(ns.map fun n=>UInt8.ofNat n.toNat).toArray⟩
theorem foldl_bstr (ns:List Int):∀r:ByteArray,ns.foldl (fun r n=>r.push (UInt8.ofNat n.toNat)) r=⟨r.data++(ns.map fun n=>UInt8.ofNat n.toNat).toArray⟩:=by
 induction ns with
 | nil=>intro r;simp
 | cons n ns ih =>
  intro r;rw [List.foldl_cons,ih]
  congr 1
  simp [ByteArray.push]
theorem run_str {P:Program} {w:World} {F:Nat→Prop} {src dst e:TypeId} (hs:P.underlying src=some (.slice e)) (he:P.underlying e=some (.int .u8)) (hd:P.underlying dst=some .string)
  {A:Option Addr} {n c:Nat} {ns:List Int} (h:Sl w F A (ns.map fun x=>Value.int .u8 x)) (hn:n=ns.length):(convert src dst (.slice A n c)).run P w=.ok (.string (bstr ns)) w:=by
 subst hn;rw [run_convert_bytes_string w src dst e A _ c hs he hd];rcases h with h | ⟨b,off,rfl,_,hc⟩
 ·have : ns=[]:=by simpa using h
  subst this
  cases A with
  | none=>simp [Conv.bytesToString,bstr];rfl
  | some a=>simp [Conv.bytesToString,bstr,loadCells,loadCellsFrom];rfl
 ·have hl:=run_loadCells_list (P:=P) (w:=w) ⟨b,off,none⟩ (ns.map fun x=>Value.int .u8 x) (fun j v hv=>by
   obtain ⟨hj,rfl⟩:=List.getElem?_eq_some_iff.1 hv;rw [Addr.add_lit]
   exact hc j hj)
  rw [List.length_map] at hl;rw [run_bytesToString w _ _ c ns hl,foldl_bstr];simp [bstr]
end Go.Proofs.Ytdbjgihnngigeaa
namespace Go.Proofs.Ytdbjgihnngigeaa
structure Nd where
 op:Int
 imm:Int
 kids:List Int
end Go.Proofs.Ytdbjgihnngigeaa
namespace Go.Proofs.Ytdbjgihnngigeaa
def I64 (x:Int):Prop := -9223372036854775808≤x∧x≤9223372036854775807
theorem tmod_pick (n m:Int) (hm:0<m):n % m=if n.tmod m<0 then n.tmod m+m else n.tmod m:=by
 have h1:=Int.tmod_lt_of_pos n hm;have h2:=Int.lt_tmod_of_pos n hm;have h3:(n.tmod m) % m=n % m:=by rw [Int.tmod_def,Int.sub_mul_emod_self_left]
 split
 ·rw [←h3,←Int.add_emod_right,Int.emod_eq_of_lt (by omega) (by omega)]
 ·rw [←h3,Int.emod_eq_of_lt (by omega) (by omega)]
def arityF (op:Int):Int×Bool :=
 if op=1∨op=2∨op=3∨op=26 then (0,true)
 else if op=20∨op=21∨op=24∨op=25 then (1,true)
 else if (4≤op∧op≤19)∨op=23∨op=27∨op=29 then (2,true)
 else if op=22∨op=28 then (3,true)
 else if op=30∨op=31 then (-1,true)
 else (0,false)
end Go.Proofs.Ytdbjgihnngigeaa
namespace Go.Proofs.Ytdbjgihnngigeaa
end Go.Proofs.Ytdbjgihnngigeaa
namespace Go.Proofs.Ytdbjgihnngigeaa
open Go.RowKit
theorem nm {α:Type} (a:α):∃x,Hid (a=x):=⟨a,show a=a from rfl⟩
theorem Blk.new' {w:World} {t:TypeId} {cs:Array Value} {n:Nat} (h:n=w.heap.size):Blk (w.alloc (.cells cs t)) n t cs:=by subst h;exact Blk.new w t cs
section
variable {w w':World} {F G S:Nat→Prop} {A:Option Addr} {L:List Nd} {ps:List (Int×Int)}
theorem u_ {b o:Nat} {v:Value} (h:w.cell? ⟨b,o,none⟩=some v) (u:Upd S w w') (d:¬S b):w'.cell? ⟨b,o,none⟩=some v :=
 (World.cell?_of_block (w:=w) (u.block b (World.block_lt_of_cell? w _ h) d)).trans h
end
theorem run_mk {P:Program} {t e:TypeId} {bytes:Nat} (T:SlT P t e 1 bytes) {z:Value} (hz:(P.info? e).bind (·.zero)=some z) (hzc:z.cells=#[z]) (n:Nat) (hb:bytes * n≤281474976710656) (hn:n≤9223372036854775807) (w:World) :
  (Instr.makeSlice t (.int .i64 (n:Int)) (.int .i64 (n:Int))).run P w=.ok (.slice (some ⟨w.heap.size,0,none⟩) n n) (w.alloc (.cells (Array.replicate n z) e)):=by
 obtain ⟨ht,⟨i,z',hi,hz',hsz,hby,hzs⟩,_⟩:=T;have : z'=z:=by rw [hi] at hz;simp [hz'] at hz;exact hz
 subst this
 have hb':(i.bytes:Int) * (n:Int)≤281474976710656:=by
  have h:((i.bytes * n:Nat):Int)≤281474976710656:=by rw [hby];omega
  rwa [Int.natCast_mul] at h
 have hr:=run_make (P:=P) w t e i z' ht hi hz' .i64 .i64 n n (by omega) (by omega) hb' (by omega);simp only [Int.toNat_natCast,hsz,Nat.mul_one,hzc] at hr;rw [hr]
 congr 2
 congr 1
 apply Array.ext
 ·simp [size_madeCells]
 ·intro j h1 h2;simp [madeCells,Nat.mod_one]
end Go.Proofs.Ytdbjgihnngigeaa
namespace Go.Proofs.Ytdbjgihnngigeaa
section
variable {P:Program} {ops:Array Oper} {Q:Exit→Act→World→Prop} {md:Region.Mode} {S:World→Prop}
structure Calm (P:Program) (ops:Array Oper) (Q:Exit→Act→World→Prop) (S:World→Prop) (i:Nat) (oi:Oper) (v:Value) (Y:Act→Prop):Prop where
 at_:ops[i]?=some oi
 run:∀(K:Act→World→Prop) a w,Y a→S w→K (a.put oi.dst v) w→wpOp P ops Q i K a w
 put:∀a d u,Y a→(∀t,d=some t→t ∉ oi.looksAt ops)→Y (a.put d u)
 late:∀a d,Y a→Y { a with defers:=d::a.defers }
 dies:∀c a w,Q (.panic c) (a.put oi.dst v) w→Q (.panic c) a w
theorem Calm.swap {i:Nat} {oi:Oper} {v:Value} {Y:Act→Prop} (C:Calm P ops Q S i oi v Y) (hns:∀(j:Nat) (o:Oper) cs b,ops[j]?=some o→o.op≠.select cs b)
  {j:Nat} {oj:Oper} (hj:ops[j]?=some oj) (hap:oi.apart ops oj=true) {K:Act→World→Prop} {a:Act} {w:World} (hy:Y a) (h:wpOp P ops Q j K (a.put oi.dst v) w) :
  wpOp P ops Q j (fun a' w'=>Y a'∧K (a'.put oi.dst v) w') a w:=by
 obtain ⟨p1,p2,p3⟩:=Oper.apart_spec hap;have E:=execOp_put oj (hns j oj · · hj) a oi.dst v p1;have st:∀b,Y b→∀u,Y (b.put oj.dst u):=fun b hb u=>C.put b _ u hb p3
 unfold wpOp at h ⊢;rw [hj] at h ⊢;dsimp only at h ⊢;rw [wanted_put oj a oi.dst v p1] at h;by_cases hw:Region.wanted oj (yielded ops a.tmps)=true
 ·rw [if_pos hw] at h ⊢;rcases h with h | ⟨hk,hl⟩
  ·left
   unfold Oper.wp at h ⊢;rw [E] at h
   revert h
   cases (execOp a.eval oj).run P w with
   | halt x w'=>cases x <;> (simp only [Oper.upon];intro h) <;> first | exact h | exact C.dies _ _ _ h
   | ok n w' =>
    cases n with
    | value u=>intro h;exact ⟨st a hy u,by rw [←Act.put_comm a v u p2];exact h⟩
    | skip=>intro h;exact ⟨st a hy _,by rw [←Act.put_comm a v undef p2];exact h⟩
    | defer d=>intro h;exact ⟨st _ (C.late a d hy) _,by rw [←Act.put_comm _ v undef p2,←Act.put_defers];exact h⟩
    | row r args=>intro h;exact Rows.mono h fun u _ he=>⟨st a hy u,by rw [←Act.put_comm a v u p2];exact he⟩
    | enter f args =>
     intro h;refine Calls.mono h fun e _ he=>?_
     match e,he with
     | .returned u,he=>exact ⟨st a hy u,by rw [←Act.put_comm a v u p2];exact he⟩
     | .panicked _,he=>exact C.dies _ _ _ he
     | .outgrown,he=>exact he
    | _=>first | exact id | (intro h;exact h)
  ·exact .inr ⟨by unfold Oper.asks at hk ⊢;rw [E] at hk;exact hk,hl⟩
 ·rw [if_neg hw] at h ⊢;exact ⟨st a hy _,by rw [←Act.put_comm a v undef p2];exact h⟩
theorem Calm.first {i:Nat} {oi:Oper} {v:Value} {Y:Act→Prop} (C:Calm P ops Q S i oi v Y) (hns:∀(j:Nat) (o:Oper) cs b,ops[j]?=some o→o.op≠.select cs b) :
  ∀(fuel:Nat) (listed:Array Bool) (a:Act) (w:World),
   (∀j oj,ops[j]?=some oj→j≠i→listed.getD j true=false→(∀e∈oj.after,Region.binds md e=true→e.on≠i)→oi.apart ops oj=true) →
   i∈Region.ready md ops listed→Y a→S w→wpAnyH P md ops Q S fuel (listed.setIfInBounds i true) (a.put oi.dst v) w→wpAnyH P md ops Q S (fuel+1) listed a w
 | 0,listed,a,w,_,hr,hy,hS,H=>by
  refine ⟨fun h=>absurd hr (by rw [h];simp),fun j hj=>?_⟩;by_cases e:j=i
  ·rw [e];exact C.run _ a w hy hS ⟨hS,H⟩
  ·exact absurd (ready_mono hj e) (by rw [H.1];simp)
 | fuel+1,listed,a,w,hf,hr,hy,hS,H=>by
  refine ⟨fun h=>absurd hr (by rw [h];simp),fun j hj=>?_⟩;by_cases e:j=i
  ·rw [e];exact C.run _ a w hy hS ⟨hS,H⟩
  obtain ⟨un,oj,hoj,hall⟩:=mem_ready.1 hj;have hi0:=(mem_ready.1 hr).1
  have waits:∀x∈oj.after,Region.binds md x=true→x.on≠i:=fun x hx hb heq=>by
   have:=hall x hx hb;rw [heq] at this;rcases Nat.lt_or_ge i listed.size with q | q
   ·simp [q] at this hi0;rw [hi0] at this;cases this
   ·simp [Array.getElem?_eq_none q] at this
  refine wpOp_mono (fun b w2 h3=>?_) (C.swap hns hoj (hf j oj hoj e un waits) hy (H.2 j (ready_mono hj e)));refine ⟨h3.2.1,Calm.first C hns fuel (listed.setIfInBounds j true) b w2 (fun k ok hk hki hun hno=>?_) (ready_mono hr (Ne.symm e)) h3.1 h3.2.1 ?_⟩
  ·by_cases q:j=k
   ·exact hf k ok hk hki (by rw [←q];exact un) hno
   ·exact hf k ok hk hki (by rw [getD_set_ne true q] at hun;exact hun) hno
  ·rw [Array.setIfInBounds_comm _ _ e];exact h3.2.2
def PureC (P:Program) (ops:Array Oper) (S:World→Prop) (o:Oper) (v:Value) (a:Act):Prop :=
 Region.wanted o (yielded ops a.tmps)=true∧∃f args,(∀w,(execOp a.eval o).run P w=.ok (.enter f args) w)∧∀w,S w→Calls P f args w fun e w'=>e=.returned v∧w'=w
theorem PureC.calm {i:Nat} {oi:Oper} {v:Value} (hi:ops[i]?=some oi) (hns:∀(j:Nat) (o:Oper) cs b,ops[j]?=some o→o.op≠.select cs b) (hQ:∀c a w,Q (.panic c) (a.put oi.dst v) w→Q (.panic c) a w) :
  Calm P ops Q S i oi v (PureC P ops S oi v):=by
 refine ⟨hi,fun K a w hy hS h=>?_,fun a d u hy hd=>?_,fun a d hy=>hy,hQ⟩
 ·obtain ⟨hw,f,args,hr,hc⟩:=hy;unfold wpOp;simp only [hi,hw,if_true,Oper.wp,hr w,Oper.upon];refine .inl ((hc w hS).mono fun e w' he=>?_);obtain ⟨rfl,rfl⟩:=he;exact h
 ·unfold PureC at *;rw [execOp_put oi (hns i oi · · hi) a d u hd,wanted_put oi a d u hd];exact hy
theorem wpAnyH_takeC {i:Nat} {oi:Oper} {v:Value} {fuel:Nat} {listed:Array Bool} {a:Act} {w:World} (hi:ops[i]?=some oi)
  (hs:Region.noSelect ops=true) (hf:Region.free md ops listed i=true) (hr:(Region.ready md ops listed).contains i=true)
  (hQ:∀c a w,Q (.panic c) (a.put oi.dst v) w→Q (.panic c) a w) (hy:PureC P ops S oi v a) (hS:S w)
  (h:wpAnyH P md ops Q S fuel (listed.setIfInBounds i true) (a.put oi.dst v) w):wpAnyH P md ops Q S (fuel+1) listed a w :=
 (PureC.calm hi (Region.noSelect_spec hs) hQ).first (Region.noSelect_spec hs) fuel listed a w (Region.free_spec hi hf) (by simpa using hr) hy hS h
end
end Go.Proofs.Ytdbjgihnngigeaa
namespace Go.Proofs.Ytdbjgihnngigeaa
open Go.RowKit
theorem i64w_of {x:Int} (h:I64 x):IntKind.i64.wrap x=x:=by rw [IntKind.wrap_i64];unfold I64 at h;omega
theorem step_app {P:Program} {w:World} {ops:Array Oper} {o:Oper} {a:Act} {K:Act→World→Prop} {Q:Exit→Act→World→Prop} {E:Prop} (hgd:o.guard=none) {s x:Operand} {t:TypeId}
  (ho:o.op=.call { callee:=.builtin .append,args:=#[s,x],argTypes:=#[t,t] }) {F:Nat→Prop} {e:TypeId} {size bytes:Nat} (T:SlT P t e size bytes) {A:Option Addr} {n c:Nat} {cs:List Value} (hs:a.eval s=.slice A n c) (h:Own w e size A n c cs)
  {A2:Option Addr} {m c2:Nat} {news:List Value} (hx:a.eval x=.slice A2 m c2) (hr:Sl w F A2 news) (hl:news.length=m * size) (h1:∀u∈news,u.oneCell'=true) (h63:n+m≤maxLen) (hb:(n+m) * bytes≤140737488355328)
  (k:∀A' c' w',Own w' e size A' (n+m) c' (cs++news)→Upd (At A) w w'→(∀k,At A' k→At A k∨k=w.heap.size)→K (a.put o.dst (.slice A' (n+m) c')) w') :
  if Region.wanted o (yielded ops a.tmps)=true then Oper.wp P o a w K Q else E:=by
 have hw:Region.wanted o (yielded ops a.tmps)=true:=by simp [Region.wanted,hgd]
 rw [if_pos hw];exact wp_app ho T hs h hx hr hl h1 h63 hb k
theorem getD_of {α:Type} {l:List α} {i:Nat} {d:α} (h:i<l.length):l.getD i d=l[i]:=by simp [List.getD,h]
theorem updCell (w:World) (b i:Nat) (v:Value):Upd (·=b) w (w.setCell ⟨b,i,none⟩ v):=Upd.refl.setCell (S:=(·=b)) (p:=⟨b,i,none⟩) (.inl rfl) _
def icells (l:List Int):List Value:=l.map fun x=>Value.int .i64 x
theorem T_ints':SlT Try.prog 35 3 1 8:=by
 obtain ⟨i,h1,h2,h3,h4⟩:=info_parts (show (Try.prog.info? 3).map (fun i=>(i.zero,i.size,i.bytes))=some (some (.int .i64 0),1,8) from by kernel_rfl)
 exact ⟨Try.underlying35,⟨i,_,h1,h2,h3,h4,rfl⟩,by omega⟩
theorem Own.le {w:World} {e:TypeId} {size:Nat} {A:Option Addr} {n c:Nat} {cs:List Value} (h:Own w e size A n c cs):n≤c:=by
 rcases h.cases with ⟨_,h,_⟩ | ⟨_,_,_,_,h,_⟩ <;> omega
theorem Own.set_ {w:World} {e:TypeId} {g n c:Nat} {cs:List Value} (h:Own w e 1 (some ⟨g,0,none⟩) n c cs) (i:Nat) (u:Value):Own (w.setCell ⟨g,i,none⟩ u) e 1 (some ⟨g,0,none⟩) n c (cs.set i u):=by
 rcases h.cases with ⟨h0,_⟩ | ⟨g',cur,e1,hb,hn,hm,hs,ht⟩
 ·cases h0
 ·injection e1 with e1;injection e1 with e1;subst e1
  refine Own.mk_ (hb.set_ i u) hn hm (by simpa using hs) ?_;rw [Array.toList_setIfInBounds,List.take_set,ht]
theorem Own.cell_ {w:World} {e:TypeId} {g n c:Nat} {cs:List Value} (h:Own w e 1 (some ⟨g,0,none⟩) n c cs) {i:Nat} (hi:i<cs.length):w.cell? ⟨g,i,none⟩=some cs[i]:=by
 rcases h.cases with ⟨h0,_⟩ | ⟨g',cur,e1,hb,hn,hm,hs,ht⟩
 ·cases h0
 ·injection e1 with e1;injection e1 with e1;subst e1
  subst ht;rw [hb.cell];simp at hi ⊢
theorem Own.frozen_ {w:World} {e:TypeId} {g n c:Nat} {cs:List Value} (h:Own w e 1 (some ⟨g,0,none⟩) n c cs) (i:Nat):w.frozen? ⟨g,i,none⟩=false:=by
 rcases h.cases with ⟨h0,_⟩ | ⟨g',cur,e1,hb,hn,hm,hs,ht⟩
 ·cases h0
 ·injection e1 with e1;injection e1 with e1;subst e1
  exact hb.frozen i
theorem Own.some_ {w:World} {e:TypeId} {size:Nat} {A:Option Addr} {n c:Nat} {cs:List Value} (h:Own w e size A n c cs) (hn:0<n):∃g,A=some ⟨g,0,none⟩:=by
 rcases h.cases with ⟨_,h0,_⟩ | ⟨g,cur,e1,_⟩
 ·omega
 ·exact ⟨g,e1⟩
theorem Sl.take_ {w:World} {F:Nat→Prop} {A:Option Addr} {cs:List Value} (h:Sl w F A cs) (k:Nat):Sl w F A (cs.take k):=by
 rcases h with h | ⟨b,off,rfl,hF,hc'⟩
 ·subst h;exact .inl (by simp)
 ·refine .inr ⟨b,off,rfl,hF,fun j hj=>?_⟩;rw [List.length_take] at hj;rw [hc' j (by omega),List.getElem_take]
theorem Ints.take_ {w:World} {F:Nat→Prop} {A:Option Addr} {xs:List Int} (h:Ints w F A xs) (k:Nat):Ints w F A (xs.take k):=by
 have:=Sl.take_ h k;rw [←List.map_take] at this;exact this
theorem z_:(∀(a:Act) (d:Tmp) (v:Value),a.put (some d) v={ a with tmps:=a.tmps.setIfInBounds d v })∧(∀(a:Act) (v:Value),a.put none v=a) ∧
  (∀(l:List Value) (i:Nat) (v:Value),l.toArray.setIfInBounds i v=(l.set i v).toArray)∧(∀(x v:Value) (l:List Value),(x::l).set 0 v=v::l)∧(∀(x v:Value) (l:List Value) (n:Nat),(x::l).set (n+1) v=x::l.set n v) :=
 ⟨fun _ _ _=>rfl,fun _ _=>rfl,fun _ _ _=>by simp,fun _ _ _=>rfl,fun _ _ _ _=>rfl⟩
theorem y_:(∀(l:List Oper) (i:Nat) (h:i<l.toArray.size),l.toArray[i]'h=l[i]'(by simpa using h))∧(∀(x:Oper) (l:List Oper) (h:0<(x::l).length),(x::l)[0]'h=x) ∧
  (∀(x:Oper) (l:List Oper) (n:Nat) (h:n+1<(x::l).length),(x::l)[n+1]'h=l[n]'(by simpa using h)):=⟨fun _ _ _=>by simp,fun _ _ _=>rfl,fun _ _ _ _=>rfl⟩
def kx (s:ByteArray):List UInt8:=s.data.toList
theorem kx_mk (x:List UInt8):kx ⟨x.toArray⟩=x:=by simp [kx]
theorem kx_len (s:ByteArray):(kx s).length=s.size:=by simp [kx]
section
variable {P:Program} {ops:Array Oper} {Q:Exit→Act→World→Prop} {md:Region.Mode} {S:World→Prop}
theorem wpT (i:Nat) {oi:Oper} {v:Value} {fuel:Nat} {listed:Array Bool} {a:Act} {w:World} (h:wpAnyH P md ops Q S fuel (listed.setIfInBounds i true) (a.put oi.dst v) w) (hi:ops[i]?=some oi:=by rfl)
  (hs:Region.noSelect ops=true:=by kernel_rfl) (hf:Region.free md ops listed i=true:=by kernel_rfl) (hr:(Region.ready md ops listed).contains i=true:=by kernel_rfl)
  (hQ:∀c a w,Q (.panic c) (a.put oi.dst v) w→Q (.panic c) a w:=by exact fun _ _ _ h=>h) (hw:Region.wanted oi (yielded ops a.tmps)=true:=by rfl) (hy:∀w,S w→(execOp a.eval oi).run P w=.ok (.value v) w:=by intro w hSw;(try dsimp only at hSw);go_simp;try with_reducible rfl) (hS:S w:=by assumption):wpAnyH P md ops Q S (fuel+1) listed a w :=
 wpAnyH_take hi hs hf hr hQ (.inl ⟨hw,hy⟩) hS h
theorem wpU (i:Nat) {oi:Oper} {fuel:Nat} {listed:Array Bool} {a:Act} {w:World} (h:wpAnyH P md ops Q S fuel (listed.setIfInBounds i true) (a.put oi.dst undef) w) (hi:ops[i]?=some oi:=by rfl)
  (hs:Region.noSelect ops=true:=by kernel_rfl) (hf:Region.free md ops listed i=true:=by kernel_rfl) (hr:(Region.ready md ops listed).contains i=true:=by kernel_rfl)
  (hQ:∀c a w,Q (.panic c) (a.put oi.dst undef) w→Q (.panic c) a w:=by exact fun _ _ _ h=>h) (hw:Region.wanted oi (yielded ops a.tmps)=false:=by rfl) (hS:S w:=by assumption):wpAnyH P md ops Q S (fuel+1) listed a w :=
 wpAnyH_take hi hs hf hr hQ (.inr ⟨hw,rfl⟩) hS h
end
end Go.Proofs.Ytdbjgihnngigeaa
namespace Go.Proofs.Ytdbjgihnngigeaa
open Go.RowKit
set_option maxHeartbeats 400000 in
theorem pick_c (n m:Int) (w:World) (hm:0<m) (hm2:m≤4611686018427387904) :
  Calls Try.prog 16 #[.int .i64 n,.int .i64 m] w fun e w'=>e=.returned (.int .i64 (n % m))∧w=w':=by
 have H1:=h_ (tmod_pick n m hm);have h2:=Int.tmod_lt_of_pos n hm;have h3:=Int.lt_tmod_of_pos n hm;by_cases ht:n.tmod m<0
 ·have H2:Hid (n % m=n.tmod m+m):=by show _=_;rw [H1.out,if_pos ht]
  go_enter Try.func16,Try.ntmps16;go_wp2_with fail
  go_ret;exact ⟨by rw [H2.out];rfl,rfl⟩
 ·have H2:Hid (n % m=n.tmod m):=by show _=_;rw [H1.out,if_neg ht]
  go_enter Try.func16,Try.ntmps16;go_wp2_with fail
  go_ret;exact ⟨by rw [H2.out];rfl,rfl⟩
end Go.Proofs.Ytdbjgihnngigeaa
namespace Go.Proofs.Ytdbjgihnngigeaa
open Go.RowKit
theorem wrap64_of {x:Int} (h:I64 x):wrap64 x=x:=by unfold wrap64;unfold I64 at h;omega
end Go.Proofs.Ytdbjgihnngigeaa
namespace Go.Proofs.Ytdbjgihnngigeaa
open Go.RowKit
inductive Pt where
 | mk (v op imm iv:Int) (kids:List Pt)
def Pt.v:Pt→Int | .mk v _ _ _ _=>v
def Pt.op:Pt→Int | .mk _ op _ _ _=>op
def Pt.imm:Pt→Int | .mk _ _ imm _ _=>imm
def Pt.iv:Pt→Int | .mk _ _ _ iv _=>iv
def Pt.kids:Pt→List Pt | .mk _ _ _ _ kids=>kids
mutual
def Pt.size:Pt→Nat
 | .mk _ _ _ _ kids=>1+Pt.sizeL kids
def Pt.sizeL:List Pt→Nat
 | []=>0
 | k::ks=>k.size+Pt.sizeL ks
end
theorem Pt.size_eq (p:Pt):p.size=1+Pt.sizeL p.kids:=by cases p;simp only [Pt.size,Pt.kids]
theorem Pt.sizeL_take:∀(l:List Pt) (k:Nat) (h:k<l.length),Pt.sizeL (l.take (k+1))=Pt.sizeL (l.take k)+l[k].size
 | [],k,h=>absurd h (by simp)
 | a::l,0,h=>by simp [Pt.sizeL]
 | a::l,k+1,h=>by
  have:=Pt.sizeL_take l k (by simpa using h);simp only [List.take_succ_cons,Pt.sizeL,List.getElem_cons_succ];omega
theorem Pt.sizeL_mem {k:Pt}:∀{l:List Pt},k∈l→k.size≤Pt.sizeL l
 | a::l,h=>by
  simp only [Pt.sizeL];rcases List.mem_cons.1 h with rfl | h
  ·omega
  ·have:=Pt.sizeL_mem h;omega
theorem Pt.sizeL_take_le:∀(l:List Pt) (k:Nat),Pt.sizeL (l.take k)≤Pt.sizeL l
 | [],k=>by simp [Pt.sizeL]
 | a::l,0=>by simp [Pt.sizeL]
 | a::l,k+1=>by have:=Pt.sizeL_take_le l k;simp only [List.take_succ_cons,Pt.sizeL];omega
theorem Pt.kids_lt {p k:Pt} (h:k∈p.kids):k.size<p.size:=by have:=Pt.sizeL_mem h;rw [Pt.size_eq p];omega
theorem Pt.len_le:∀(l:List Pt),l.length≤Pt.sizeL l
 | []=>by simp
 | a::l=>by have:=Pt.len_le l;have:=Pt.size_eq a;simp only [List.length_cons,Pt.sizeL];omega
theorem Pt.ind {Q:Pt→Prop} (h:∀p,(∀k∈p.kids,Q k)→Q p) (p:Pt):Q p:=by
 suffices ∀n p,Pt.size p≤n→Q p from this _ p (Nat.le_refl _)
 intro n
 induction n with
 | zero=>intro p hp;have:=Pt.size_eq p;omega
 | succ n ih=>intro p hp;exact h p fun k hk=>ih k (by have:=Pt.kids_lt hk;omega)
mutual
def PtK (w:World) (F:Nat→Prop):Pt→Option Addr→Nat→Prop
 | .mk _ _ _ _ kids,KA,kc=>kids.length≤kc∧(kids=[]∨∃b o,KA=some ⟨b,o,none⟩∧F b∧PtL w F b kids o)
def PtL (w:World) (F:Nat→Prop) (b:Nat):List Pt→Nat→Prop
 | [],_=>True
 | k::ks,o=>(∃KA kc,w.cell? ⟨b,o,none⟩=some (.int .i64 k.v)∧w.cell? ⟨b,o+1,none⟩=some (.int .i64 k.op)∧w.cell? ⟨b,o+2,none⟩=some (.int .i64 k.imm)∧w.cell? ⟨b,o+3,none⟩=some (.int .i64 k.iv)∧w.cell? ⟨b,o+4,none⟩=some (.slice KA k.kids.length kc)∧PtK w F k KA kc)∧PtL w F b ks (o+5)
end
def PtAt (w:World) (F:Nat→Prop) (b o:Nat) (k:Pt):Prop:=∃KA kc,w.cell? ⟨b,o,none⟩=some (.int .i64 k.v)∧w.cell? ⟨b,o+1,none⟩=some (.int .i64 k.op)∧w.cell? ⟨b,o+2,none⟩=some (.int .i64 k.imm)∧w.cell? ⟨b,o+3,none⟩=some (.int .i64 k.iv)∧w.cell? ⟨b,o+4,none⟩=some (.slice KA k.kids.length kc)∧PtK w F k KA kc
section
variable {w w':World} {F G S:Nat→Prop}
theorem PtK.iff {p:Pt} {KA:Option Addr} {kc:Nat}:PtK w F p KA kc↔p.kids.length≤kc∧(p.kids=[]∨∃b o,KA=some ⟨b,o,none⟩∧F b∧PtL w F b p.kids o):=by
 cases p;simp only [PtK,Pt.kids]
theorem PtL.iff_cons {b o:Nat} {k:Pt} {ks:List Pt}:PtL w F b (k::ks) o↔PtAt w F b o k∧PtL w F b ks (o+5):=by simp only [PtL,PtAt]
theorem PtL.at_ {b:Nat}:∀{ks:List Pt} {o i:Nat},PtL w F b ks o→∀(h:i<ks.length),PtAt w F b (o+i * 5) ks[i]
 | k::ks,o,0,h,_=>by rw [PtL.iff_cons] at h;simpa using h.1
 | k::ks,o,i+1,h,hi=>by
  rw [PtL.iff_cons] at h;have:=PtL.at_ (i:=i) h.2 (by simpa using hi);rw [show o+(i+1) * 5=o+5+i * 5 by omega];exact this
theorem PtL.of {b:Nat}:∀{ks:List Pt} {o:Nat},(∀i (h:i<ks.length),PtAt w F b (o+i * 5) ks[i])→PtL w F b ks o
 | [],_,_=>by simp [PtL]
 | k::ks,o,h=>by
  rw [PtL.iff_cons];refine ⟨by have h0:=h 0 (by simp);rw [Nat.zero_mul,Nat.add_zero] at h0;exact h0,PtL.of fun i hi=>?_⟩;have:=h (i+1) (by simpa using hi);rw [show o+(i+1) * 5=o+5+i * 5 by omega] at this;exact this
theorem PtK.at_ {p:Pt} {KA:Option Addr} {kc:Nat} (h:PtK w F p KA kc) {i:Nat} (hi:i<p.kids.length):∃b o,KA=some ⟨b,o,none⟩∧F b∧b<w.heap.size∧PtAt w F b (o+i * 5) p.kids[i]:=by
 rcases (PtK.iff.1 h).2 with e | ⟨b,o,e,hF,hl⟩
 ·rw [e] at hi;simp at hi
 ·have:=hl.at_ hi;obtain ⟨_,_,h0,_⟩:=id this;exact ⟨b,o,e,hF,World.block_lt_of_cell? _ _ h0,this⟩
theorem PtK.upd (u:Upd S w w') (d:∀k,k<w.heap.size→F k→¬S k):∀(p:Pt) (KA:Option Addr) (kc:Nat),PtK w F p KA kc→PtK w' F p KA kc:=by
 intro p
 induction p using Pt.ind with
 | h p ih =>
  intro KA kc h;rw [PtK.iff] at h ⊢;refine ⟨h.1,h.2.imp_right fun ⟨b,o,e,hF,hl⟩=>⟨b,o,e,hF,PtL.of fun i hi=>?_⟩⟩;obtain ⟨KB,kd,h0,h1,h2,h3,h4,h5⟩:=hl.at_ hi;have hb:¬S b:=d b (World.block_lt_of_cell? _ _ h0) hF;exact ⟨KB,kd,u_ h0 u hb,u_ h1 u hb,u_ h2 u hb,u_ h3 u hb,u_ h4 u hb,ih _ (List.getElem_mem hi) KB kd h5⟩
theorem PtK.mono (hFG:∀k,k<w.heap.size→F k→G k):∀(p:Pt) (KA:Option Addr) (kc:Nat),PtK w F p KA kc→PtK w G p KA kc:=by
 intro p
 induction p using Pt.ind with
 | h p ih =>
  intro KA kc h;rw [PtK.iff] at h ⊢;refine ⟨h.1,?_⟩;rcases h.2 with e | ⟨b,o,e,hF,hl⟩
  ·exact .inl e
  ·by_cases h0:p.kids=[]
   ·exact .inl h0
   ·have hp:0<p.kids.length:=List.length_pos_iff.2 h0;obtain ⟨_,_,g0,_⟩:=hl.at_ hp;refine .inr ⟨b,o,e,hFG b (World.block_lt_of_cell? _ _ g0) hF,PtL.of fun i hi=>?_⟩;obtain ⟨KB,kd,h0,h1,h2,h3,h4,h5⟩:=hl.at_ hi;exact ⟨KB,kd,h0,h1,h2,h3,h4,ih _ (List.getElem_mem hi) KB kd h5⟩
end
def pv (p:Pt) (KA:Option Addr) (kc:Nat):Value:=.agg #[.int .i64 p.v,.int .i64 p.op,.int .i64 p.imm,.int .i64 p.iv,.slice KA p.kids.length kc]
set_option maxHeartbeats 1000000 in
theorem ptSize_c (p:Pt):∀(w:World) (F:Nat→Prop) (KA:Option Addr) (kc:Nat),PtK w F p KA kc→p.size≤1000000000000 →
  Calls Try.prog 74 #[pv p KA kc] w fun e w'=>e=.returned (.int .i64 (p.size:Int))∧Upd Non w w':=by
 induction p using Pt.ind with
 | h p ih =>
  intro w F KA kc hp hs;have hse:=Pt.size_eq p;have hle:=Pt.len_le p.kids;have HI:=h_ ih;obtain ⟨W,HW⟩:=nm (w.alloc (.cells #[.int .i64 p.v,.int .i64 p.op,.int .i64 p.imm,.int .i64 p.iv,.slice KA p.kids.length kc] 24));have hU:Upd Non w W:=by rw [←HW.out];exact Upd.refl.alloc _
  have hb:Blk W w.heap.size 24 #[.int .i64 p.v,.int .i64 p.op,.int .i64 p.imm,.int .i64 p.iv,.slice KA p.kids.length kc]:=by rw [←HW.out];exact Blk.new _ _ _
  have e0:=HW.out;have c4:=hb.cell 4;have hpW:=PtK.upd hU (fun _ _ _ f=>f) p KA kc hp;have HS:=h_ hse;unfold pv;clear ih hse hp;obtain ⟨n,Hn⟩:=nm p.kids.length;rw [Hn.out] at c4 hle e0;have hn12:n≤1000000000000:=by have:=HS.out;omega
  rw [Hn.out];go_enter Try.func74,Try.ntmps74;go_wp2_with fail
  go_loopg [3,5,9] n (fun g v _ i wr=>∃k:Nat,Hid (g=n - k)∧k≤n∧i=.int .i64 k∧v=.int .i64 ((1+Pt.sizeL (p.kids.take k):Nat):Int)∧Upd Non W wr)
  case atStart=>exact ⟨0,rfl,by omega,rfl,by simp [Pt.sizeL],Upd.refl⟩
  case round =>
   obtain ⟨k,Hg,hk,rfl,rfl,hu⟩:=hrel;by_cases hlt:k<n
   ·have hkl:k<p.kids.length:=by rw [Hn.out];exact hlt
    obtain ⟨b,o,rfl,hF,hbw,KB,kd,h0,h1,h2,h3,h4,h5⟩:=(PtK.upd hu (fun _ _ _ f=>f) p KA kc hpW).at_ hkl;have hks:p.kids[k].size≤1000000000000:=by have:=Pt.kids_lt (List.getElem_mem hkl);omega
    have hkk:=Pt.sizeL_take p.kids k hkl;have hkt:=Pt.sizeL_take_le p.kids (k+1);have hmem0:=List.getElem_mem hkl;generalize p.kids[k]=q at *;obtain ⟨W3,HW3⟩:=nm (wr.alloc (.cells #[.int .i64 q.v,.int .i64 q.op,.int .i64 q.imm,.int .i64 q.iv,.slice KB q.kids.length kd] 24));have hq:=PtK.upd (Upd.refl.alloc (S:=Non) (.cells #[.int .i64 q.v,.int .i64 q.op,.int .i64 q.imm,.int .i64 q.iv,.slice KB q.kids.length kd] 24)) (fun _ _ _ f=>f) q KB kd h5
    have hmem:q∈p.kids:=by assumption
    have C1:=h_ (HI.out q hmem _ F KB kd hq hks);unfold pv at C1;obtain ⟨z,Hz⟩:=nm (1+Pt.sizeL (p.kids.take k));have hz1:1+Pt.sizeL (p.kids.take (k+1))=z+q.size:=by rw [←Hz.out];omega
    have HZ:=h_ hz1;have hz2:z+q.size≤2000000000000:=by have:=HS.out;omega
    rw [Hz.out];clear hkk hkt hz1 h5 hq;go_wp2_with fail
    refine C1.out.mono ?_;rintro e w4 ⟨rfl,hu4⟩;go_wp2_with fail
    go_roundg (n - (k+1))
    case measure=>rw [Hg.out];omega
    case rel=>exact ⟨k+1,rfl,by omega,by go_num,by rw [HZ.out];go_num,(hu.alloc _).then_non hu4⟩
   ·obtain rfl:n=k:=by omega
    have HT:Hid (1+Pt.sizeL (p.kids.take n)=p.size):=by show _=_;rw [HS.out,←Hn.out];simp
    rw [HT.out];go_wp2_with fail
    go_ret;exact ⟨rfl,hU.then_non hu⟩
end Go.Proofs.Ytdbjgihnngigeaa
namespace Go.Proofs.Ytdbjgihnngigeaa
open Go.RowKit
section
variable {w:World} {F:Nat→Prop} {g:Nat}
theorem PtK.leaf {v op imm iv:Int} {KA:Option Addr} {kc:Nat}:PtK w F (.mk v op imm iv []) KA kc:=by rw [PtK.iff];exact ⟨by simp [Pt.kids],.inl rfl⟩
theorem PtK.two {k0 k1:Pt} {KA0 KA1:Option Addr} {kc0 kc1 kc:Nat} (v op imm iv:Int) (h:Blk w g 24 #[.int .i64 k0.v,.int .i64 k0.op,.int .i64 k0.imm,.int .i64 k0.iv,.slice KA0 k0.kids.length kc0,.int .i64 k1.v,.int .i64 k1.op,.int .i64 k1.imm,.int .i64 k1.iv,.slice KA1 k1.kids.length kc1]) (h0:PtK w F k0 KA0 kc0) (h1:PtK w F k1 KA1 kc1) (hF:F g) (hkc:2≤kc) :
  PtK w F (.mk v op imm iv [k0,k1]) (some ⟨g,0,none⟩) kc:=by
 rw [PtK.iff];refine ⟨hkc,.inr ⟨g,0,rfl,hF,PtL.of fun i hi=>?_⟩⟩;have : i=0∨i=1:=by simp [Pt.kids] at hi;omega
 rcases this with rfl | rfl
 ·exact ⟨KA0,kc0,h.cell 0,h.cell 1,h.cell 2,h.cell 3,h.cell 4,h0⟩
 ·exact ⟨KA1,kc1,h.cell 5,h.cell 6,h.cell 7,h.cell 8,h.cell 9,h1⟩
end
end Go.Proofs.Ytdbjgihnngigeaa
namespace Go.Proofs.Ytdbjgihnngigeaa
open Go.RowKit
def set5 (w:World) (g:Nat) (a b c d e:Value):World:=((((w.setCell ⟨g,0,none⟩ a).setCell ⟨g,1,none⟩ b).setCell ⟨g,2,none⟩ c).setCell ⟨g,3,none⟩ d).setCell ⟨g,4,none⟩ e
theorem set5_upd (w:World) (g:Nat) (a b c d e:Value):Upd (·=g) w (set5 w g a b c d e) :=
 ((((Upd.refl.setCell (S:=(·=g)) (p:=⟨g,0,none⟩) (.inl rfl) _).setCell (p:=⟨g,1,none⟩) (.inl rfl) _).setCell (p:=⟨g,2,none⟩) (.inl rfl) _).setCell (p:=⟨g,3,none⟩) (.inl rfl) _).setCell (p:=⟨g,4,none⟩) (.inl rfl) _
def hasImmF (op:Int):Bool:=decide (op=1∨op=23∨op=27∨op=28)
def oSortsF (op:Int):List Int×Int×Bool :=
 if op=1 then ([],1,true) else if op=23 then ([2,1],1,true) else if op=24 then ([2],1,true) else if op=27∨op=29 then ([2,1],2,true) else if op=28 then ([2,1,1],2,true)
 else if 4≤op∧op≤22 then ((if op=20∨op=21 then [1] else if op=22 then [1,1,1] else [1,1]),1,true) else ([],0,false)
def pImmF (p:Pt) (imms:Int):Bool :=
 if p.iv≠0 then hasImmF p.op&&decide (p.imm=0∧1≤p.iv∧p.iv≤imms) else if p.op=23∨p.op=28 then decide (0≤p.imm∧p.imm<4) else if p.op=27 then decide (1≤p.imm∧p.imm≤1000016) else decide (p.op=1∨p.imm=0)
theorem ptArity_c (op:Int) (w:World):Calls Try.prog 86 #[.int .i64 op] w fun e w'=>e=.returned (.tuple #[.int .i64 (arityF op).1,.bool (arityF op).2])∧w=w':=by
 go_enter Try.func86,Try.ntmps86
 go_wp2
 all_goals
  go_ret2;refine ⟨?_,rfl⟩
  (try simp only [beq_iff_eq,beq_eq_false_iff_ne,ne_eq] at *)
  unfold arityF
  (repeat' split) <;> first | rfl | (exfalso;omega)
theorem ptHasImm_c (op:Int) (w:World):Calls Try.prog 87 #[.int .i64 op] w fun e w'=>e=.returned (.bool (hasImmF op))∧w=w':=by
 go_enter Try.func87,Try.ntmps87
 go_wp2
 all_goals
  go_ret;refine ⟨?_,rfl⟩;show Ending.returned (Value.bool _)=_
  congr 2
  unfold hasImmF
  (try simp only [beq_iff_eq,beq_eq_false_iff_ne,ne_eq] at *)
  rw [Bool.eq_iff_iff];simp;omega
theorem ptOpSorts_c (op:Int) (w:World):Calls Try.prog 83 #[.int .i64 op] w fun e w'=>∃A c,e=.returned (.tuple #[.slice A (oSortsF op).1.length c,.int .i64 (oSortsF op).2.1,.bool (oSortsF op).2.2])∧Ints w' (fun k=>w.heap.size≤k) A (oSortsF op).1∧Upd Non w w':=by
 have C1:=h_ (fun w=>ptArity_c op w)
 have hI:∀(w:World) (xs:List Int) (cs:Array Value),cs=(xs.map fun x=>Value.int .i64 x).toArray→Ints (w.alloc (.cells cs 3)) (fun k=>w.heap.size≤k) (some ⟨w.heap.size,0,none⟩) xs:=fun w xs cs h=>by
  have:=Sl.new w 3 (xs.map fun x=>Value.int .i64 x);rw [←h] at this;exact this.mono (fun k _ hk=>by have : k=w.heap.size:=hk;omega)
 by_cases h4:4≤op∧op≤22
 ·obtain ⟨m,hm,ha,ho⟩:∃m:Nat,1≤m∧(m≤3∧arityF op=((m:Int),true))∧oSortsF op=(([1,1,1]:List Int).take m,1,true):=by
   have h0:oSortsF op=((if op=20∨op=21 then [1] else if op=22 then [1,1,1] else [1,1]),1,true):=by
    unfold oSortsF;rw [if_neg (by omega),if_neg (by omega),if_neg (by omega),if_neg (by omega),if_neg (by omega),if_pos h4]
   by_cases h1:op=20∨op=21
   ·refine ⟨1,by omega,⟨by omega,?_⟩,by rw [h0,if_pos h1];rfl⟩;unfold arityF;rw [if_neg (by omega),if_pos (by omega)];rfl
   ·by_cases h2:op=22
    ·refine ⟨3,by omega,⟨by omega,?_⟩,by rw [h0,if_neg h1,if_pos h2];rfl⟩;unfold arityF;rw [if_neg (by omega),if_neg (by omega),if_neg (by omega),if_pos (by omega)];rfl
    ·refine ⟨2,by omega,⟨by omega,?_⟩,by rw [h0,if_neg h1,if_neg h2];rfl⟩;unfold arityF;rw [if_neg (by omega),if_neg (by omega),if_pos (by omega)];rfl
  obtain ⟨hm3,ha⟩:=ha;rw [ha] at C1;have ho:=h_ ho;have hl:(([1,1,1]:List Int).take m).length=m:=by simp;omega
  rw [ho.out,hl];have n1:(op==1)=false:=by rw [beq_eq_false_iff_ne];omega
  have n2:(op==23)=false:=by rw [beq_eq_false_iff_ne];omega
  have n3:(op==24)=false:=by rw [beq_eq_false_iff_ne];omega
  have n4:(op==27)=false:=by rw [beq_eq_false_iff_ne];omega
  have n5:(op==29)=false:=by rw [beq_eq_false_iff_ne];omega
  have n6:(op==28)=false:=by rw [beq_eq_false_iff_ne];omega
  have n7:decide (op<4)=false:=dF_ (by omega);have n8:decide (op > 22)=false:=dF_ (by omega);have r1:(0:Int)≤(m:Int):=by omega
  have r2:(m:Int)≤3:=by omega
  clear ha h4 hl;go_enter Try.func83,Try.ntmps83;go_wp2_with fail
  refine (C1.out _).mono ?_;rintro e w1 ⟨rfl,rfl⟩;go_wp2_with fail
  go_ret3
  refine ⟨some ⟨w.heap.size,0,none⟩,3,rfl,?_,Upd.refl.alloc _⟩;exact (hI w [1,1,1] _ rfl).take_ m
 ·have c1:op=1∨op=23∨op=24∨op=27∨op=29∨op=28∨(op≠1∧op≠23∧op≠24∧op≠27∧op≠29∧op≠28):=by omega
  rcases c1 with rfl | rfl | rfl | rfl | rfl | rfl | hne
  ·clear C1;go_enter Try.func83,Try.ntmps83;go_wp2_with fail
   go_ret3
   exact ⟨none,0,rfl,.nil,Upd.refl⟩
  ·clear C1;go_enter Try.func83,Try.ntmps83;go_wp2_with fail
   go_ret3
   exact ⟨_,2,rfl,hI w [2,1] _ rfl,Upd.refl.alloc _⟩
  ·clear C1;go_enter Try.func83,Try.ntmps83;go_wp2_with fail
   go_ret3
   exact ⟨_,1,rfl,hI w [2] _ rfl,Upd.refl.alloc _⟩
  ·clear C1;go_enter Try.func83,Try.ntmps83;go_wp2_with fail
   go_ret3
   exact ⟨_,2,rfl,hI w [2,1] _ rfl,Upd.refl.alloc _⟩
  ·clear C1;go_enter Try.func83,Try.ntmps83;go_wp2_with fail
   go_ret3
   exact ⟨_,2,rfl,hI w [2,1] _ rfl,Upd.refl.alloc _⟩
  ·clear C1;go_enter Try.func83,Try.ntmps83;go_wp2_with fail
   go_ret3
   exact ⟨_,3,rfl,hI w [2,1,1] _ rfl,Upd.refl.alloc _⟩
  ·obtain ⟨m1,m2,m3,m4,m5,m6⟩:=hne
   have ho:Hid (oSortsF op=([],0,false)):=by
    show _=_;unfold oSortsF;rw [if_neg m1,if_neg m2,if_neg m3,if_neg (by omega),if_neg m6,if_neg h4]
   rw [ho.out];have n1:(op==1)=false:=by rw [beq_eq_false_iff_ne];omega
   have n2:(op==23)=false:=by rw [beq_eq_false_iff_ne];omega
   have n3:(op==24)=false:=by rw [beq_eq_false_iff_ne];omega
   have n4:(op==27)=false:=by rw [beq_eq_false_iff_ne];omega
   have n5:(op==29)=false:=by rw [beq_eq_false_iff_ne];omega
   have n6:(op==28)=false:=by rw [beq_eq_false_iff_ne];omega
   obtain ⟨z,Hz⟩:∃z,arityF op=z:=⟨_,rfl⟩;rw [Hz] at C1;obtain ⟨x,y⟩:=z;dsimp only at C1;clear Hz;by_cases hlt:op<4
   ·have n7:decide (op<4)=true:=dT_ hlt;cases y <;>
    ·go_enter Try.func83,Try.ntmps83;go_wp2_with fail
     refine (C1.out _).mono ?_;rintro e w1 ⟨rfl,rfl⟩;go_wp2_with fail
     go_ret3
     exact ⟨none,0,rfl,.nil,Upd.refl⟩
   ·have n7:decide (op<4)=false:=dF_ hlt;have n8:decide (op > 22)=true:=dT_ (by omega);cases y <;>
    ·go_enter Try.func83,Try.ntmps83;go_wp2_with fail
     refine (C1.out _).mono ?_;rintro e w1 ⟨rfl,rfl⟩;go_wp2_with fail
     go_ret3
     exact ⟨none,0,rfl,.nil,Upd.refl⟩
set_option maxHeartbeats 4000000 in
theorem ptValidImm_c (p:Pt) (KA:Option Addr) (kc:Nat) (imms:Int) (w:World):Calls Try.prog 84 #[pv p KA kc,.int .i64 imms] w fun e w'=>e=.returned (.bool (pImmF p imms))∧Upd Non w w':=by
 obtain ⟨v,op,imm,iv,kids⟩:=p;obtain ⟨W,HW⟩:=nm (w.alloc (.cells #[.int .i64 v,.int .i64 op,.int .i64 imm,.int .i64 iv,.slice KA kids.length kc] 24));have hU:Upd Non w W:=by rw [←HW.out];exact Upd.refl.alloc _
 have hb:Blk W w.heap.size 24 #[.int .i64 v,.int .i64 op,.int .i64 imm,.int .i64 iv,.slice KA kids.length kc]:=by rw [←HW.out];exact Blk.new _ _ _
 have e0:=HW.out;have c1:=hb.cell 1;have c2:=hb.cell 2;have c3:=hb.cell 3;have C1:=h_ (fun W=>ptHasImm_c op W);obtain ⟨R,HR⟩:=nm (pImmF (.mk v op imm iv kids) imms);rw [HR.out];unfold pv;simp only [Pt.v,Pt.op,Pt.imm,Pt.iv,Pt.kids];obtain ⟨hi,Hhi⟩:=nm (hasImmF op);rw [Hhi.out] at C1;have HF:Hid (R=if iv≠0 then hi&&decide (imm=0∧1≤iv∧iv≤imms) else if op=23∨op=28 then decide (0≤imm∧imm<4) else if op=27 then decide (1≤imm∧imm≤1000016) else decide (op=1∨imm=0)):=by show _=_;rw [←HR.out,←Hhi.out];rfl
 obtain ⟨b1,f1⟩:∃b,(op==23)=b:=⟨_,rfl⟩;obtain ⟨b2,f2⟩:∃b,(op==28)=b:=⟨_,rfl⟩;obtain ⟨b3,f3⟩:∃b,(op==27)=b:=⟨_,rfl⟩;obtain ⟨b4,f4⟩:∃b,(op==1)=b:=⟨_,rfl⟩;obtain ⟨b5,f5⟩:∃b,decide (imm ≥ 0)=b:=⟨_,rfl⟩;obtain ⟨b6,f6⟩:∃b,decide (imm<4)=b:=⟨_,rfl⟩;obtain ⟨b7,f7⟩:∃b,decide (imm ≥ 1)=b:=⟨_,rfl⟩;obtain ⟨b8,f8⟩:∃b,decide (imm≤1000016)=b:=⟨_,rfl⟩;obtain ⟨b9,f9⟩:∃b,(imm==0)=b:=⟨_,rfl⟩;obtain ⟨b10,f10⟩:∃b,decide (iv ≥ 1)=b:=⟨_,rfl⟩;obtain ⟨b11,f11⟩:∃b,decide (iv≤imms)=b:=⟨_,rfl⟩
 have close:∀x:Bool,(Hid (x=(if iv≠0 then hi&&(b9&&(b10&&b11)) else if b1 || b2 then b5&&b6 else if b3 then b7&&b8 else b4 || b9)))→x=R:=fun x hx=>by
  rw [hx.out,HF.out,←f1,←f2,←f3,←f4,←f5,←f6,←f7,←f8,←f9,←f10,←f11];by_cases a1:iv=0
  ·by_cases a2:op=23 <;> by_cases a3:op=28 <;> by_cases a4:op=27 <;> simp [a1,a2,a3,a4,Bool.beq_eq_decide_eq,Bool.decide_and,Bool.decide_or]
  ·cases hi <;> by_cases a5:imm=0 <;> simp [a1,a5,Bool.beq_eq_decide_eq,Bool.decide_and]
 have Hcl:=h_ close;by_cases h1:iv=0
 ·have t1:(iv != 0)=false:=by simpa using h1
  clear HF HR close;have h1:=h_ h1
  cases b1 with
  | true =>
   cases b5 <;> cases b6
   all_goals
    go_enter Try.func84,Try.ntmps84;go_wp2_with fail
    go_ret;refine ⟨congrArg (fun b=>Ending.returned (Value.bool b)) (Hcl.out _ ?_),by first | exact hU | exact Upd.refl.alloc _⟩;show _=_;rw [if_neg (fun q=>q h1.out)];rfl
  | false =>
   cases b2 with
   | true =>
    cases b5 <;> cases b6
    all_goals
     go_enter Try.func84,Try.ntmps84;go_wp2_with fail
     go_ret;refine ⟨congrArg (fun b=>Ending.returned (Value.bool b)) (Hcl.out _ ?_),by first | exact hU | exact Upd.refl.alloc _⟩;show _=_;rw [if_neg (fun q=>q h1.out)];rfl
   | false =>
    cases b3 with
    | true =>
     cases b7 <;> cases b8
     all_goals
      go_enter Try.func84,Try.ntmps84;go_wp2_with fail
      go_ret;refine ⟨congrArg (fun b=>Ending.returned (Value.bool b)) (Hcl.out _ ?_),by first | exact hU | exact Upd.refl.alloc _⟩;show _=_;rw [if_neg (fun q=>q h1.out)];rfl
    | false =>
     cases b4 <;> cases b9
     all_goals
      go_enter Try.func84,Try.ntmps84;go_wp2_with fail
      go_ret;refine ⟨congrArg (fun b=>Ending.returned (Value.bool b)) (Hcl.out _ ?_),by first | exact hU | exact Upd.refl.alloc _⟩;show _=_;rw [if_neg (fun q=>q h1.out)];rfl
 ·have t1:(iv != 0)=true:=by simpa using h1
  clear HF HR close;have h1:=h_ h1;cases hi <;> cases b9 <;> cases b10 <;> cases b11
  all_goals
   go_enter Try.func84,Try.ntmps84;go_wp2_with fail
   refine (C1.out _).mono ?_;rintro e w1 ⟨rfl,rfl⟩;go_wp2_with fail
   go_ret;refine ⟨congrArg (fun b=>Ending.returned (Value.bool b)) (Hcl.out _ ?_),by first | exact hU | exact Upd.refl.alloc _⟩;show _=_;rw [if_pos h1.out];rfl
mutual
def vPt:Pt→Int→Int→List Int→Bool×List Int
 | .mk v op imm iv kids,s,m,vs =>
  if v≠0 then
   if v<1∨v > vs.length∨op≠0∨imm≠0∨iv≠0∨0<kids.length then (false,vs)
   else if vs.getD (v - 1).toNat 0=0 then (true,vs.set (v - 1).toNat s) else (decide (s=0∨s=vs.getD (v - 1).toNat 0),vs)
  else if (oSortsF op).2.2=true∧kids.length=(oSortsF op).1.length∧(s=0∨s=(oSortsF op).2.1)∧pImmF (.mk v op imm iv kids) m=true then vKids kids (oSortsF op).1 m vs
  else (false,vs)
def vKids:List Pt→List Int→Int→List Int→Bool×List Int
 | [],_,_,vs=>(true,vs)
 | k::ks,ss,m,vs=>if (vPt k (ss.headD 0) m vs).1 then vKids ks ss.tail m (vPt k (ss.headD 0) m vs).2 else (false,(vPt k (ss.headD 0) m vs).2)
end
theorem vPt_var {p:Pt} (hv:p.v≠0) (s m:Int) (vs:List Int):vPt p s m vs =
  if p.v<1∨p.v > vs.length∨p.op≠0∨p.imm≠0∨p.iv≠0∨0<p.kids.length then (false,vs)
   else if vs.getD (p.v - 1).toNat 0=0 then (true,vs.set (p.v - 1).toNat s) else (decide (s=0∨s=vs.getD (p.v - 1).toNat 0),vs):=by
 obtain ⟨v,op,imm,iv,kids⟩:=p;simp only [vPt,Pt.v,Pt.op,Pt.imm,Pt.iv,Pt.kids] at hv ⊢;rw [if_pos hv];rfl
theorem vPt_op {p:Pt} (hv:p.v=0) (s m:Int) (vs:List Int):vPt p s m vs =
  if (oSortsF p.op).2.2=true∧p.kids.length=(oSortsF p.op).1.length∧(s=0∨s=(oSortsF p.op).2.1)∧pImmF p m=true then vKids p.kids (oSortsF p.op).1 m vs else (false,vs):=by
 obtain ⟨v,op,imm,iv,kids⟩:=p;simp only [vPt,Pt.v,Pt.op,Pt.kids] at hv ⊢;rw [if_neg (by omega)];rfl
theorem vKids_step {ks:List Pt} {ss:List Int} {m:Int} {vs:List Int} {k:Nat} (hk:k<ks.length) (hs:ks.length=ss.length) :
  vKids (ks.drop k) (ss.drop k) m vs=if (vPt ks[k] (ss[k]'(by omega)) m vs).1 then vKids (ks.drop (k+1)) (ss.drop (k+1)) m (vPt ks[k] (ss[k]'(by omega)) m vs).2 else (false,(vPt ks[k] (ss[k]'(by omega)) m vs).2):=by
 rw [List.drop_eq_getElem_cons hk,List.drop_eq_getElem_cons (show k<ss.length by omega)];simp only [vKids,List.headD_cons,List.tail_cons];rfl
theorem vPt_len (p:Pt):∀(s m:Int) (vs:List Int),(vPt p s m vs).2.length=vs.length:=by
 induction p using Pt.ind with
 | h p ih =>
  intro s m vs;by_cases hv:p.v=0
  ·rw [vPt_op hv]
   split
   ·suffices ∀(ks:List Pt) (ss:List Int) (vs:List Int),(∀k∈ks,∀(s m:Int) (vs:List Int),(vPt k s m vs).2.length=vs.length)→(vKids ks ss m vs).2.length=vs.length from this _ _ _ ih
    intro ks
    induction ks with
    | nil=>intro ss vs _;simp only [vKids]
    | cons k ks ihk =>
     intro ss vs hk;simp only [vKids]
     split
     ·rw [ihk _ _ (fun x hx=>hk x (List.mem_cons_of_mem _ hx))];exact hk k (by simp) _ _ _
     ·exact hk k (by simp) _ _ _
   ·rfl
  ·rw [vPt_var hv]
   split
   ·rfl
   ·split
    ·simp
    ·rfl
def VBlk (w:World) (g:Nat) (vs:List Int):Prop:=Blk w g 3 (icells vs).toArray
theorem VBlk.cell {w:World} {g:Nat} {vs:List Int} (h:VBlk w g vs) {i:Nat} (hi:i<vs.length):w.cell? ⟨g,i,none⟩=some (.int .i64 (vs.getD i 0)):=by
 rw [Blk.cell h];simp [icells,List.getD,hi]
theorem VBlk.set_ {w:World} {g:Nat} {vs:List Int} (h:VBlk w g vs) (i:Nat) (x:Int):VBlk (w.setCell ⟨g,i,none⟩ (.int .i64 x)) g (vs.set i x):=by
 have:=Blk.set_ h i (.int .i64 x);unfold VBlk;rw [show (icells (vs.set i x)).toArray=(icells vs).toArray.setIfInBounds i (.int .i64 x) by simp [icells,List.map_set]];exact this
set_option maxRecDepth 100000 in
set_option maxHeartbeats 4000000 in
theorem ptvalid_c (p:Pt):∀(w:World) (F:Nat→Prop) (KA:Option Addr) (kc g c:Nat) (s m:Int) (vs:List Int),PtK w F p KA kc→¬F g→VBlk w g vs→p.size≤1000000000000→vs.length≤1000000 →
  Calls Try.prog 75 #[pv p KA kc,.int .i64 s,.int .i64 m,.slice (some ⟨g,0,none⟩) vs.length c] w fun e w'=>e=.returned (.bool (vPt p s m vs).1)∧VBlk w' g (vPt p s m vs).2∧Upd (·=g) w w':=by
 induction p using Pt.ind with
 | h p ih =>
  intro w F KA kc g c s m vs hp hFg hg hs hvs;have hle:=Pt.len_le p.kids;have hse:=Pt.size_eq p;have HI:=h_ ih;have HPS:=h_ hs;have HV:=h_ (@vPt_var p);have HO:=h_ (@vPt_op p);obtain ⟨W,HW⟩:=nm (w.alloc (.cells #[.int .i64 p.v,.int .i64 p.op,.int .i64 p.imm,.int .i64 p.iv,.slice KA p.kids.length kc] 24));have hU:Upd Non w W:=by rw [←HW.out];exact Upd.refl.alloc _
  have hb:Blk W w.heap.size 24 #[.int .i64 p.v,.int .i64 p.op,.int .i64 p.imm,.int .i64 p.iv,.slice KA p.kids.length kc]:=by rw [←HW.out];exact Blk.new _ _ _
  have e0:=HW.out;have hgW:VBlk W g vs:=Blk.upd hg hU (fun f=>f);have hpW:=PtK.upd hU (fun _ _ _ f=>f) p KA kc hp;have hUg:Upd (·=g) w W:=hU.mono (fun _ _ f=>f.elim);have hglt:g<w.heap.size:=Blk.lt hg;have hsz:=hU.size;have c0:=hb.cell 0;have c1:=hb.cell 1;have c2:=hb.cell 2;have c3:=hb.cell 3;have c4:=hb.cell 4;have hn12:p.kids.length≤1000000000000:=by omega
  have CO:=h_ (fun w=>ptOpSorts_c p.op w);have CI:=h_ (fun w=>ptValidImm_c p KA kc m w);unfold pv at CI ⊢;obtain ⟨R,HR⟩:=nm (vPt p s m vs);rw [HR.out];obtain ⟨v,Hv⟩:=nm p.v;obtain ⟨op,Hop⟩:=nm p.op;obtain ⟨imm,Him⟩:=nm p.imm;obtain ⟨iv,Hiv⟩:=nm p.iv;obtain ⟨n,Hn⟩:=nm p.kids.length;rw [Hv.out] at c0 e0 CI;rw [Hop.out] at c1 e0 CI CO;rw [Him.out] at c2 e0 CI;rw [Hiv.out] at c3 e0 CI;rw [Hn.out] at c4 e0 CI hn12;rw [Hv.out,Hop.out,Him.out,Hiv.out,Hn.out] at hb;rw [Hv.out,Hop.out,Him.out,Hiv.out,Hn.out];clear ih hp hse hle hg hs;by_cases hv:v=0
  ·subst hv;obtain ⟨z,Hz⟩:∃z,oSortsF op=z:=⟨_,rfl⟩;obtain ⟨ss,own,ok⟩:=z
   have HO2:Hid (R=if ok=true∧n=ss.length∧(s=0∨s=own)∧pImmF p m=true then vKids p.kids ss m vs else (false,vs)):=by
    show _=_;rw [←HR.out,HO.out Hv.out,Hop.out,Hz,Hn.out]
   rw [Hz] at CO;dsimp only at CO;clear HV HO HR Hz;obtain ⟨bi,Hbi⟩:=nm (pImmF p m);rw [Hbi.out] at CI HO2;go_enter Try.func75,Try.ntmps75;go_wp2_with fail
   refine (CO.out W).mono ?_;rintro e w2 ⟨SA,sc,rfl,hiS,hu2⟩;have hU2:=hU.then_non hu2;have hUg2:Upd (·=g) w w2:=hUg.then_non hu2;have hg2:=Blk.upd hgW hu2 (fun f=>f);have hp2:=PtK.upd hu2 (fun _ _ _ f=>f) p KA kc hpW;have hb2:=hb.upd hu2 (fun f=>f);have c0:=hb2.cell 0;have c1:=hb2.cell 1;have c2:=hb2.cell 2;have c3:=hb2.cell 3;have c4:=hb2.cell 4;have hl2:=hb2.lt;clear CO hpW hgW e0
   cases ok with
   | false =>
    have HR2:Hid (R=(false,vs)):=by show _=_;rw [HO2.out];simp
    go_wp2_with fail
    go_ret;exact ⟨by rw [HR2.out];rfl,by rw [HR2.out];exact hg2,hUg2⟩
   | true =>
    by_cases hns:n=ss.length
    ·have t1:((n:Int) != (ss.length:Int))=false:=by rw [hns];simp
     by_cases hso:s=0∨s=own
     ·obtain ⟨b3,f3⟩:∃b,(s != 0)=b:=⟨_,rfl⟩;obtain ⟨b4,f4⟩:∃b,(s != own)=b:=⟨_,rfl⟩
      have HB:Hid ((b3&&b4)=false):=by
       show _=_;rw [←f3,←f4];rcases hso with q | q <;> simp [q]
      have HNS:=h_ hns;have HSO:=h_ hso;clear hns hso
      go_upto_region 11 with fail
      go_cut [101] (fun t wx=>t=.bool (!bi)∧Upd Non w2 wx)
      case first =>
       cases b3 <;> cases b4
       case true.true=>exact absurd HB.out (by simp)
       all_goals
        go_wp2_with fail
        refine (CI.out _).mono ?_;rintro e w3 ⟨rfl,hu3⟩;go_wp2_with fail
        go_meet;exact ⟨rfl,hu3⟩
      case rest =>
      obtain ⟨rfl,hu3⟩:=hcut;have hU3:=hUg2.then_non hu3;have hg3:=Blk.upd hg2 hu3 (fun f=>f);have hb3:=hb2.upd hu3 (fun f=>f);have c4:=hb3.cell 4;have hp3:=PtK.upd hu3 (fun _ _ _ f=>f) p KA kc hp2;have hiS3:=hiS.upd hu3 (fun _ _ _ f=>f);have hsz2:=hu2.size
      cases bi with
      | false =>
       have HR2:Hid (R=(false,vs)):=by show _=_;rw [HO2.out,if_neg (fun q=>by simpa using q.2.2.2)]
       clear HO2;go_wp2_with fail
       go_ret;exact ⟨by rw [HR2.out];rfl,by rw [HR2.out];exact hg3,hU3⟩
      | true =>
       have HR2:Hid (R=vKids (p.kids.drop 0) (ss.drop 0) m vs):=by show _=_;rw [HO2.out,if_pos (by refine ⟨?_,HNS.out,HSO.out,?_⟩ <;> simp)];simp
       have HST:=h_ (fun k (hk:k<p.kids.length) vk=>@vKids_step p.kids ss m vk k hk (by rw [Hn.out];exact HNS.out));have HVL:=h_ (fun (q:Pt) (s m:Int) vs=>vPt_len q s m vs);clear HO2 hp2 hg2 hb2 hiS CI c0 c1 c2 c3;go_wp2_with fail
       go_loopg [13,14,105] n (fun gg _ _ i wr=>∃(k:Nat) (vk:List Int),Hid (gg=n - k)∧k≤n∧i=.int .i64 k∧VBlk wr g vk∧vk.length=vs.length∧Hid (R=vKids (p.kids.drop k) (ss.drop k) m vk)∧Upd (·=g) wc wr)
       case atStart=>exact ⟨0,vs,rfl,by omega,rfl,hg3,rfl,HR2,Upd.refl⟩
       case round =>
        obtain ⟨k,vk,Hg,hk,rfl,hgk,hvk,HRk,hu⟩:=hrel;by_cases hlt:k<n
        ·have hkl:k<p.kids.length:=by rw [Hn.out];exact hlt
         have hks:k<ss.length:=by have:=HNS.out;omega
         obtain ⟨b,o,rfl,hF,hbw,KB,kd,h0,h1,h2,h3,h4,h5⟩:=(PtK.upd hu (fun k _ hF e=>hFg (by rw [←e];exact hF)) p KA kc hp3).at_ hkl;obtain ⟨sb,so,rfl,hsb,hsbw,hsc⟩:=(hiS3.upd hu (fun k _ q e=>by omega)).at_ hks;have hmem0:=List.getElem_mem hkl;have hqs:=Pt.kids_lt hmem0;have HRs:=HST.out k hkl vk;have hps:p.size≤1000000000000:=HPS.out;rw [HRs] at HRk;clear HRs;generalize p.kids[k]=q at *;generalize ss[k]=x at *;have hge:wr.heap.size > g:=Blk.lt hgk;have i0:(0:Int)≤(k:Int):=by omega
         have i1:(k:Int)<(ss.length:Int):=by omega
         obtain ⟨W3,HW3⟩:=nm (wr.alloc (.cells #[.int .i64 q.v,.int .i64 q.op,.int .i64 q.imm,.int .i64 q.iv,.slice KB q.kids.length kd] 24));have u3:Upd Non wr W3:=by rw [←HW3.out];exact Upd.refl.alloc _
         have bq:Blk W3 wr.heap.size 24 #[.int .i64 q.v,.int .i64 q.op,.int .i64 q.imm,.int .i64 q.iv,.slice KB q.kids.length kd]:=by rw [←HW3.out];exact Blk.new _ _ _
         have eW3:=HW3.out;have hq3:=PtK.upd u3 (fun _ _ _ f=>f) q KB kd h5;have hs3:=u_ hsc u3 (fun f=>f);have hg4:VBlk W3 g vk:=Blk.upd hgk u3 (fun f=>f);have C1:=h_ (HI.out q hmem0 W3.drew F KB kd g c x m vk (PtK.upd (Upd.refl.drew (S:=Non)) (fun _ _ _ f=>f) q KB kd hq3) hFg hg4 (by omega) (by omega));unfold pv at C1;rw [hvk] at C1;have q0:W3.cell? ⟨wr.heap.size,0,none⟩=some (.int .i64 q.v):=bq.cell 0;have q1:W3.cell? ⟨wr.heap.size,1,none⟩=some (.int .i64 q.op):=bq.cell 1;have q2:W3.cell? ⟨wr.heap.size,2,none⟩=some (.int .i64 q.imm):=bq.cell 2;have q3:W3.cell? ⟨wr.heap.size,3,none⟩=some (.int .i64 q.iv):=bq.cell 3;have q4:W3.cell? ⟨wr.heap.size,4,none⟩=some (.slice KB q.kids.length kd):=bq.cell 4;have HV1:=h_ (HVL.out q x m vk);obtain ⟨r,Hr⟩:=nm (vPt q x m vk);obtain ⟨rb,rv⟩:=r;rw [Hr.out] at C1 HRk HV1;have hrv:rv.length=vs.length:=by rw [←hvk];exact HV1.out
         clear h5 hq3 hps hqs bq;have hS:∀w',Upd (·=g) W3 w'→w'.cell? ⟨wr.heap.size,0,none⟩=some (.int .i64 q.v)∧w'.cell? ⟨wr.heap.size,1,none⟩=some (.int .i64 q.op)∧w'.cell? ⟨wr.heap.size,2,none⟩=some (.int .i64 q.imm)∧w'.cell? ⟨wr.heap.size,3,none⟩=some (.int .i64 q.iv)∧w'.cell? ⟨wr.heap.size,4,none⟩=some (.slice KB q.kids.length kd)∧w'.cell? ⟨sb,so+k,none⟩=some (.int .i64 x):=fun w' u=>⟨u_ q0 u (by omega),u_ q1 u (by omega),u_ q2 u (by omega),u_ q3 u (by omega),u_ q4 u (by omega),u_ hs3 u (by omega)⟩
         go_wp2_with fail
         refine wp_region_held_drew (S:=fun w'=>w'.cell? ⟨wr.heap.size,0,none⟩=some (.int .i64 q.v)∧w'.cell? ⟨wr.heap.size,1,none⟩=some (.int .i64 q.op)∧w'.cell? ⟨wr.heap.size,2,none⟩=some (.int .i64 q.imm)∧w'.cell? ⟨wr.heap.size,3,none⟩=some (.int .i64 q.iv)∧w'.cell? ⟨wr.heap.size,4,none⟩=some (.slice KB q.kids.length kd)∧w'.cell? ⟨sb,so+k,none⟩=some (.int .i64 x)) (by kernel_rfl) (by first | exact hS _ (Upd.refl (S:=(·=g))).drew | (rw [eW3];exact hS _ (Upd.refl (S:=(·=g))).drew)) (fun hHeld=>?_)
         try rw [eW3] at hHeld ⊢
         refine wpT 0 ?_;(try simp only [y_,z_]);refine wpT 1 ?_;(try simp only [y_,z_]);refine wpT 2 ?_;(try simp only [y_,z_]);refine wpT 3 ?_;(try simp only [y_,z_]);refine wpT 4 ?_;(try simp only [y_,z_]);refine wpT 5 ?_;(try simp only [y_,z_]);refine wpT 6 ?_;(try simp only [y_,z_]);refine aR_ (rs:=[7]) (by kernel_rfl) (by simp) ?_;refine aC_ rfl (fun K hK=>?_) aN_;go_simp;refine C1.out.mono ?_;rintro e w5 ⟨rfl,hg5,hu5'⟩;have hu5:Upd (·=g) W3 w5:=(Upd.refl.drew (S:=(·=g))).trans hu5' (fun _ _ q=>q);have hu6:Upd (·=g) wr w5:=(u3.mono (T:=(·=g)) (fun _ _ f=>f.elim)).trans hu5 (fun _ _ q=>q);go_wp2_with fail
         refine hK.out _ _ ?_ (fun hHeld=>?_)
         ·exact hS _ hu5
         clear hK K;(try simp only [y_,z_]);refine wpT 8 ?_;(try simp only [y_,z_]);refine aD_ (by kernel_rfl) ?_ _
         cases rb with
         | true =>
          have HRn:Hid (R=vKids (p.kids.drop (k+1)) (ss.drop (k+1)) m rv):=by show _=_;rw [HRk.out];rfl
          clear C1 hS q0 q1 q2 q3 q4;go_wp2_with fail
          go_roundg (n - (k+1))
          case measure=>rw [Hg.out];omega
          case rel=>exact ⟨k+1,rv,rfl,by omega,by go_num,hg5,hrv,HRn,hu.trans hu6 (fun _ _ q=>q)⟩
         | false =>
          have HRn:Hid (R=(false,rv)):=by show _=_;rw [HRk.out];rfl
          clear C1 hS q0 q1 q2 q3 q4;go_wp2_with fail
          go_ret;exact ⟨by rw [HRn.out];rfl,by rw [HRn.out];exact hg5,(hU3.trans hu (fun _ _ q=>q)).trans hu6 (fun _ _ q=>q)⟩
        ·obtain rfl:n=k:=by omega
         have HRz:Hid (R=(true,vk)):=by
          show _=_;rw [HRk.out,List.drop_eq_nil_of_le (by rw [Hn.out];exact Nat.le_refl _)];rfl
         go_wp2_with fail
         go_ret;exact ⟨by rw [HRz.out];rfl,by rw [HRz.out];exact hgk,hU3.trans hu (fun _ _ q=>q)⟩
     ·have t2:(s != 0)=true:=by simp;omega
      have t3:(s != own)=true:=by simp;omega
      have HR2:Hid (R=(false,vs)):=by show _=_;rw [HO2.out,if_neg (fun q=>hso q.2.2.1)]
      clear HO2 hso;have hns:=h_ hns;go_wp2_with fail
      go_ret;exact ⟨by rw [HR2.out];rfl,by rw [HR2.out];exact hg2,hUg2⟩
    ·have t1:((n:Int) != (ss.length:Int))=true:=by simp;omega
     have HR2:Hid (R=(false,vs)):=by show _=_;rw [HO2.out,if_neg (fun q=>hns q.2.1)]
     clear HO2;go_wp2_with fail
     go_ret;exact ⟨by rw [HR2.out];rfl,by rw [HR2.out];exact hg2,hUg2⟩
  ·have t0:(v != 0)=true:=by simpa using hv
   clear CO CI
   have HV2:Hid (R=if v<1∨v > vs.length∨op≠0∨imm≠0∨iv≠0∨0<n then (false,vs) else if vs.getD (v - 1).toNat 0=0 then (true,vs.set (v - 1).toNat s) else (decide (s=0∨s=vs.getD (v - 1).toNat 0),vs)):=by
    show _=_;rw [←HR.out,HV.out (by rw [Hv.out];exact hv),Hv.out,Hop.out,Him.out,Hiv.out,Hn.out]
   clear HV HO HI;by_cases hbad:v<1∨v > vs.length∨op≠0∨imm≠0∨iv≠0∨0<n
   ·have HRv:Hid (R=(false,vs)):=by show _=_;rw [HV2.out,if_pos hbad]
    rw [HRv.out];have Hbad:=h_ hbad;obtain ⟨b1,f1⟩:∃b,decide (v<1)=b:=⟨_,rfl⟩;obtain ⟨b2,f2⟩:∃b,decide (v > (vs.length:Int))=b:=⟨_,rfl⟩;obtain ⟨b3,f3⟩:∃b,(op != 0)=b:=⟨_,rfl⟩;obtain ⟨b4,f4⟩:∃b,(imm != 0)=b:=⟨_,rfl⟩;obtain ⟨b5,f5⟩:∃b,(iv != 0)=b:=⟨_,rfl⟩;obtain ⟨b6,f6⟩:∃b,decide ((n:Int) > 0)=b:=⟨_,rfl⟩
    have HB:Hid ((b1 || b2 || b3 || b4 || b5 || b6)=true):=by
     show _=_;rw [←f1,←f2,←f3,←f4,←f5,←f6];simp;omega
    clear hbad
    cases b1 with
    | true =>
     go_enter Try.func75,Try.ntmps75;go_wp2_with fail
     go_ret;exact ⟨rfl,hgW,hUg⟩
    | false=>cases b2 with
     | true =>
      go_enter Try.func75,Try.ntmps75;go_wp2_with fail
      go_ret;exact ⟨rfl,hgW,hUg⟩
     | false=>cases b3 with
      | true =>
       go_enter Try.func75,Try.ntmps75;go_wp2_with fail
       go_ret;exact ⟨rfl,hgW,hUg⟩
      | false=>cases b4 with
       | true =>
        go_enter Try.func75,Try.ntmps75;go_wp2_with fail
        go_ret;exact ⟨rfl,hgW,hUg⟩
       | false=>cases b5 with
        | true =>
         go_enter Try.func75,Try.ntmps75;go_wp2_with fail
         go_ret;exact ⟨rfl,hgW,hUg⟩
        | false=>cases b6 with
         | true =>
          have hn0:0<n:=by simpa using f6
          have hn1:decide (0<n)=true:=dT_ hn0;go_enter Try.func75,Try.ntmps75;go_wp2_with fail
          go_ret;exact ⟨rfl,hgW,hUg⟩
         | false=>exact absurd HB.out (by simp)
   ·rw [if_neg hbad] at HV2;obtain ⟨i,hi⟩:=Int.eq_ofNat_of_zero_le (show 0≤v - 1 by omega);have hil:i<vs.length:=by omega
    obtain rfl:op=0:=by omega
    obtain rfl:imm=0:=by omega
    obtain rfl:iv=0:=by omega
    obtain rfl:n=0:=by omega
    have t1:decide (v<1)=false:=dF_ (by omega);have t2:decide (v > (vs.length:Int))=false:=dF_ (by omega);have hw:wrap64 (v - 1)=(i:Int):=by unfold wrap64;omega
    have hw2:IntKind.i64.wrap (v - 1)=(i:Int):=by rw [i64w_of (by unfold I64;omega)];exact hi
    have cg:=VBlk.cell hgW hil;have fg:=Blk.frozen hgW i;have i0:(0:Int)≤(i:Int):=by omega
    have i1:(i:Int)<(vs.length:Int):=by omega
    rw [hi,Int.toNat_natCast] at HV2;have hset:=VBlk.set_ hgW i s;have uset:=updCell W g i (.int .i64 s);clear hbad HR Hv Hop Him Hiv Hn hpW;obtain ⟨y,Hy⟩:=nm (vs.getD i 0);rw [Hy.out] at HV2 cg;by_cases hy:y=0
    ·rw [if_pos hy] at HV2;subst hy;rw [HV2.out];clear HV2;go_enter Try.func75,Try.ntmps75;go_wp2_with fail
     go_ret;exact ⟨rfl,hset,hUg.trans uset (fun _ _ q=>q)⟩
    ·rw [if_neg hy] at HV2;have ty:(y==0)=false:=by simpa using hy
     by_cases hs0:s=0
     ·subst hs0;have HV2:Hid (R=(true,vs)):=by show _=_;rw [HV2.out];simp
      rw [HV2.out];clear HV2;go_enter Try.func75,Try.ntmps75;go_wp2_with fail
      go_ret;exact ⟨rfl,hgW,hUg⟩
     ·have ts:(s != 0)=true:=by simpa using hs0
      by_cases hsy:s=y
      ·subst hsy;have tt:(s != s)=false:=by simp
       have HV2:Hid (R=(true,vs)):=by show _=_;rw [HV2.out];simp
       rw [HV2.out];clear HV2;go_enter Try.func75,Try.ntmps75;go_wp2_with fail
       go_ret;exact ⟨rfl,hgW,hUg⟩
      ·have tt:(s != y)=true:=by simpa using hsy
       have HV2:Hid (R=(false,vs)):=by show _=_;rw [HV2.out];simp [hs0,hsy]
       rw [HV2.out];clear HV2;go_enter Try.func75,Try.ntmps75;go_wp2_with fail
       go_ret;exact ⟨rfl,hgW,hUg⟩
def validF (p:Pt) (vars imms:Int):Bool:=decide (0≤vars∧vars≤6∧0≤imms∧imms≤6∧p.size≤24)&&(vPt p 0 imms (List.replicate vars.toNat 0)).1
theorem zero_int_:(Try.prog.info? 3).bind (·.zero)=some (.int .i64 0):=by kernel_rfl
set_option maxRecDepth 100000 in
set_option maxHeartbeats 4000000 in
theorem ptValid_c (p:Pt) (w:World) (F:Nat→Prop) (KA:Option Addr) (kc:Nat) (vars imms:Int) (hp:PtK w F p KA kc) (hs:p.size≤1000000000000) :
  Calls Try.prog 46 #[pv p KA kc,.int .i64 vars,.int .i64 imms] w fun e w'=>e=.returned (.bool (validF p vars imms))∧Upd Non w w':=by
 have hp0:=PtK.mono (G:=(·<w.heap.size)) (fun k hk _=>hk) p KA kc hp;obtain ⟨W,HW⟩:=nm (w.alloc (.cells #[.int .i64 p.v,.int .i64 p.op,.int .i64 p.imm,.int .i64 p.iv,.slice KA p.kids.length kc] 24));have hU:Upd Non w W:=by rw [←HW.out];exact Upd.refl.alloc _
 have hb:Blk W w.heap.size 24 #[.int .i64 p.v,.int .i64 p.op,.int .i64 p.imm,.int .i64 p.iv,.slice KA p.kids.length kc]:=by rw [←HW.out];exact Blk.new _ _ _
 have e0:=HW.out;have hpW:=PtK.upd hU (fun _ _ _ f=>f) p KA kc hp0;have C1:=h_ (ptSize_c p W _ KA kc hpW hs);have c0:W.cell? ⟨w.heap.size,0,none⟩=some (.int .i64 p.v):=hb.cell 0;have c1:W.cell? ⟨w.heap.size,1,none⟩=some (.int .i64 p.op):=hb.cell 1;have c2:W.cell? ⟨w.heap.size,2,none⟩=some (.int .i64 p.imm):=hb.cell 2;have c3:W.cell? ⟨w.heap.size,3,none⟩=some (.int .i64 p.iv):=hb.cell 3;have c4:W.cell? ⟨w.heap.size,4,none⟩=some (.slice KA p.kids.length kc):=hb.cell 4;have hlt:=hb.lt;obtain ⟨R,HR⟩:=nm (validF p vars imms);rw [HR.out];unfold pv at C1 ⊢;have HR2:Hid (R=(decide (0≤vars∧vars≤6∧0≤imms∧imms≤6∧p.size≤24)&&(vPt p 0 imms (List.replicate vars.toNat 0)).1)):=HR.out.symm
 have HV:=h_ (fun w g c vs h1 h2 h3=>ptvalid_c p w (·<W.heap.size) KA kc g c 0 imms vs h1 h2 h3 hs);clear hp hp0 HR;by_cases h1:0≤vars∧vars≤6∧0≤imms∧imms≤6
 ·obtain ⟨g1,g2,g3,g4⟩:=h1;obtain ⟨n,rfl⟩:=Int.eq_ofNat_of_zero_le g1;have t1:decide ((n:Int)<0)=false:=by simp
  have t2:decide ((n:Int) > 6)=false:=dF_ (by omega);have t3:decide (imms<0)=false:=dF_ (by omega);have t4:decide (imms > 6)=false:=dF_ (by omega);by_cases h24:p.size≤24
  ·have t5:decide ((p.size:Int) > 24)=false:=dF_ (by omega);have hmk:=run_mk (P:=Try.prog) T_ints' zero_int_ rfl n (by omega) (by omega);have HR3:Hid (R=(vPt p 0 imms (List.replicate n 0)).1):=by show _=_;rw [HR2.out,dT_ ⟨g1,g2,g3,g4,h24⟩];simp
   clear HR2;go_enter Try.func46,Try.ntmps46;go_wp2_with fail
   refine C1.out.mono ?_;rintro e w2 ⟨rfl,hu2⟩;go_wp2_with fail
   obtain ⟨wD,HwD⟩:=nm w2.drew;have uD:Upd Non W wD:=hu2.then_non (by rw [←HwD.out];exact Upd.refl.drew)
   have hS:∀w',Upd Non wD w'→w'.cell? ⟨w.heap.size,0,none⟩=some (.int .i64 p.v)∧w'.cell? ⟨w.heap.size,1,none⟩=some (.int .i64 p.op)∧w'.cell? ⟨w.heap.size,2,none⟩=some (.int .i64 p.imm)∧w'.cell? ⟨w.heap.size,3,none⟩=some (.int .i64 p.iv)∧w'.cell? ⟨w.heap.size,4,none⟩=some (.slice KA p.kids.length kc):=fun w' u=>by
    have u2:=uD.then_non u;exact ⟨u_ c0 u2 (fun f=>f),u_ c1 u2 (fun f=>f),u_ c2 u2 (fun f=>f),u_ c3 u2 (fun f=>f),u_ c4 u2 (fun f=>f)⟩
   have hsz:=uD.size;have uM:Upd Non wD (wD.alloc (.cells (Array.replicate n (.int .i64 0)) 3)):=Upd.refl.alloc _
   have hgM:VBlk (wD.alloc (.cells (Array.replicate n (.int .i64 0)) 3)) wD.heap.size (List.replicate n 0):=by
    unfold VBlk;rw [show (icells (List.replicate n 0)).toArray=Array.replicate n (Value.int .i64 0) by simp [icells]];exact Blk.new _ _ _
   have C2:=h_ (HV.out _ wD.heap.size n (List.replicate n 0) (PtK.mono (fun k _ hk=>Nat.lt_of_lt_of_le (show k<w.heap.size from hk) hU.size) p KA kc (PtK.upd (uD.then_non uM) (fun _ _ _ f=>f) p KA kc hpW)) (by omega) hgM (by simp;omega))
   rw [List.length_replicate] at C2;unfold pv at C2;clear HV C1;refine wp_region_held_drew (S:=fun w'=>w'.cell? ⟨w.heap.size,0,none⟩=some (.int .i64 p.v)∧w'.cell? ⟨w.heap.size,1,none⟩=some (.int .i64 p.op)∧w'.cell? ⟨w.heap.size,2,none⟩=some (.int .i64 p.imm)∧w'.cell? ⟨w.heap.size,3,none⟩=some (.int .i64 p.iv)∧w'.cell? ⟨w.heap.size,4,none⟩=some (.slice KA p.kids.length kc)) (by kernel_rfl) (by rw [HwD.out];exact hS _ Upd.refl) (fun hHeld=>?_)
   rw [HwD.out] at hHeld ⊢;refine wpT 0 ?_;(try simp only [y_,z_]);refine wpT 1 ?_;(try simp only [y_,z_]);refine wpT 2 ?_;(try simp only [y_,z_]);refine aR_ (rs:=[3]) (by kernel_rfl) (by simp) ?_;refine aC_ rfl (fun K hK=>?_) aN_;go_simp;refine hK.out _ _ ?_ (fun hHeld=>?_)
   ·exact hS _ uM
   clear hK K;(try simp only [y_,z_]);refine aR_ (rs:=[4]) (by kernel_rfl) (by simp) ?_;refine aC_ rfl (fun K hK=>?_) aN_;go_simp;refine C2.out.mono ?_;rintro e w5 ⟨rfl,_,hu5⟩;have hu6:Upd Non wD w5:=uM.trans hu5 (fun k hk q=>by omega);go_wp2_with fail
   refine hK.out _ _ ?_ (fun hHeld=>?_)
   ·exact hS _ hu6
   clear hK K;(try simp only [y_,z_]);refine wpT 5 ?_;(try simp only [y_,z_]);refine aD_ (by kernel_rfl) ?_ _;go_wp2_with fail
   go_ret;exact ⟨by rw [HR3.out];rfl,hU.then_non (uD.then_non hu6)⟩
  ·have t5:decide ((p.size:Int) > 24)=true:=dT_ (by omega);have HR3:Hid (R=false):=by show _=_;rw [HR2.out,dF_ (fun q=>h24 q.2.2.2.2)];rfl
   clear HR2;go_enter Try.func46,Try.ntmps46;go_wp2_with fail
   refine C1.out.mono ?_;rintro e w2 ⟨rfl,hu2⟩;go_wp2_with fail
   go_ret;exact ⟨by rw [HR3.out];rfl,hU.then_non hu2⟩
 ·have HR3:Hid (R=false):=by show _=_;rw [HR2.out,dF_ (fun q=>h1 ⟨q.1,q.2.1,q.2.2.1,q.2.2.2.1⟩)];rfl
  obtain ⟨b1,f1⟩:∃b,decide (vars<0)=b:=⟨_,rfl⟩;obtain ⟨b2,f2⟩:∃b,decide (vars > 6)=b:=⟨_,rfl⟩;obtain ⟨b3,f3⟩:∃b,decide (imms<0)=b:=⟨_,rfl⟩;obtain ⟨b4,f4⟩:∃b,decide (imms > 6)=b:=⟨_,rfl⟩
  have HB:Hid ((b1 || b2 || b3 || b4)=true):=by
   show _=_;rw [←f1,←f2,←f3,←f4];simp;omega
  clear h1 HR2 C1 HV
  cases b1 with
  | true =>
   go_enter Try.func46,Try.ntmps46;go_wp2_with fail
   go_ret;exact ⟨by rw [HR3.out];rfl,hU⟩
  | false=>cases b2 with
   | true =>
    go_enter Try.func46,Try.ntmps46;go_wp2_with fail
    go_ret;exact ⟨by rw [HR3.out];rfl,hU⟩
   | false=>cases b3 with
    | true =>
     go_enter Try.func46,Try.ntmps46;go_wp2_with fail
     go_ret;exact ⟨by rw [HR3.out];rfl,hU⟩
    | false=>cases b4 with
     | true =>
      go_enter Try.func46,Try.ntmps46;go_wp2_with fail
      go_ret;exact ⟨by rw [HR3.out];rfl,hU⟩
     | false=>exact absurd HB.out (by simp)
def allowedF (op:Int):Bool:=decide (op=1∨(4≤op∧op≤24)∨op=27∨op=28∨op=29)
theorem allowed_ok (op:Int):allowedF op=(oSortsF op).2.2:=by
 unfold allowedF oSortsF;rw [Bool.eq_iff_iff,decide_eq_true_iff]
 (repeat' split) <;> simp <;> omega
theorem Pt.indL {Q:Pt→Prop} {QL:List Pt→List Int→Prop} (hn:∀ss,QL [] ss) (hc:∀k ks ss,Q k→QL ks ss.tail→QL (k::ks) ss) (l:List Pt) (h:∀k∈l,Q k):∀ss,QL l ss:=by
 induction l with
 | nil=>exact hn
 | cons k ks ih=>exact fun ss=>hc k ks ss (h k (by simp)) (ih (fun x hx=>h x (by simp [hx])) _)
mutual
def occ:Pt→Int→List (Int×Int)
 | .mk v op _ _ kids,s=>if v≠0 then [(v,s)] else occL kids (oSortsF op).1
def occL:List Pt→List Int→List (Int×Int)
 | [],_=>[]
 | k::ks,ss=>occ k (ss.headD 0)++occL ks ss.tail
end
mutual
def shp:Pt→Int→Int→Nat→Bool
 | .mk v op imm iv kids,s,m,n =>
  if v≠0 then decide (¬(v<1∨v > n∨op≠0∨imm≠0∨iv≠0∨0<kids.length))
  else decide ((oSortsF op).2.2=true∧kids.length=(oSortsF op).1.length∧(s=0∨s=(oSortsF op).2.1)∧pImmF (.mk v op imm iv kids) m=true)&&shpL kids (oSortsF op).1 m n
def shpL:List Pt→List Int→Int→Nat→Bool
 | [],_,_,_=>true
 | k::ks,ss,m,n=>shp k (ss.headD 0) m n&&shpL ks ss.tail m n
end
mutual
def nodes:Pt→List Pt
 | .mk v op imm iv kids=>.mk v op imm iv kids::nodesL kids
def nodesL:List Pt→List Pt
 | []=>[]
 | k::ks=>nodes k++nodesL ks
end
theorem occ_var {p:Pt} (h:p.v≠0) (s:Int):occ p s=[(p.v,s)]:=by cases p;simp only [occ,Pt.v] at h ⊢;rw [if_pos h]
theorem occ_op {p:Pt} (h:p.v=0) (s:Int):occ p s=occL p.kids (oSortsF p.op).1:=by cases p;simp only [occ,Pt.v,Pt.kids,Pt.op] at h ⊢;rw [if_neg (by omega)]
theorem shp_var {p:Pt} (h:p.v≠0) (s m:Int) (n:Nat):shp p s m n=decide (¬(p.v<1∨p.v > n∨p.op≠0∨p.imm≠0∨p.iv≠0∨0<p.kids.length)):=by cases p;simp only [shp,Pt.v] at h ⊢;rw [if_pos h];rfl
theorem shp_op {p:Pt} (h:p.v=0) (s m:Int) (n:Nat):shp p s m n=(decide ((oSortsF p.op).2.2=true∧p.kids.length=(oSortsF p.op).1.length∧(s=0∨s=(oSortsF p.op).2.1)∧pImmF p m=true)&&shpL p.kids (oSortsF p.op).1 m n):=by
 cases p;simp only [shp,Pt.v] at h ⊢;rw [if_neg (by omega)];rfl
theorem nodes_eq (p:Pt):nodes p=p::nodesL p.kids:=by cases p;simp only [nodes,Pt.kids]
def run1 (vs:List Int) (t:Int×Int):Option (List Int) :=
 if vs.getD (t.1 - 1).toNat 0=0 then some (vs.set (t.1 - 1).toNat t.2) else if t.2=0∨t.2=vs.getD (t.1 - 1).toNat 0 then some vs else none
def run:List (Int×Int)→List Int→Option (List Int)
 | [],vs=>some vs
 | t::l,vs=>match run1 vs t with
  | none=>none
  | some v=>run l v
theorem run1_len {vs vs':List Int} {t:Int×Int} (h:run1 vs t=some vs'):vs'.length=vs.length:=by
 unfold run1 at h
 split at h
 ·injection h with h;subst h;simp
 ·split at h
  ·injection h with h;subst h;rfl
  ·cases h
theorem run_len:∀{l:List (Int×Int)} {vs vs':List Int},run l vs=some vs'→vs'.length=vs.length
 | [],vs,vs',h=>by injection h with h;subst h;rfl
 | t::l,vs,vs',h=>by
  simp only [run] at h
  split at h
  ·cases h
  ·rename_i v hv;rw [run_len h,run1_len hv]
theorem run_append:∀(a b:List (Int×Int)) (vs:List Int),run (a++b) vs=match run a vs with | none=>none | some v=>run b v
 | [],b,vs=>rfl
 | t::a,b,vs=>by
  simp only [List.cons_append,run]
  cases run1 vs t with
  | none=>rfl
  | some v=>exact run_append a b v
theorem vPt_iff (p:Pt):∀(s m:Int) (vs vs':List Int),vPt p s m vs=(true,vs')↔shp p s m vs.length=true∧run (occ p s) vs=some vs':=by
 induction p using Pt.ind with
 | h p ih =>
  intro s m vs vs';by_cases hv:p.v=0
  ·rw [vPt_op hv,shp_op hv,occ_op hv]
   have key:∀ss,(fun (ks:List Pt) (ss:List Int)=>∀(vs vs':List Int),vKids ks ss m vs=(true,vs')↔shpL ks ss m vs.length=true∧run (occL ks ss) vs=some vs') p.kids ss:=by
    refine Pt.indL (Q:=fun k=>∀(s m:Int) (vs vs':List Int),vPt k s m vs=(true,vs')↔shp k s m vs.length=true∧run (occ k s) vs=some vs') (QL:=fun (ks:List Pt) (ss:List Int)=>∀(vs vs':List Int),vKids ks ss m vs=(true,vs')↔shpL ks ss m vs.length=true∧run (occL ks ss) vs=some vs') ?_ ?_ _ ih
    ·intro ss vs vs';simp [vKids,shpL,occL,run]
    ·intro k ks ss hk hks vs vs';have hk:=hk (ss.headD 0) m vs;simp only [vKids,shpL,occL,run_append,Bool.and_eq_true];rcases hq:vPt k (ss.headD 0) m vs with ⟨b,v1⟩
     cases b with
     | false =>
      constructor
      ·intro h;simp at h
      ·rintro ⟨⟨h1,_⟩,h3⟩
       cases hr:run (occ k (ss.headD 0)) vs with
       | none=>rw [hr] at h3;cases h3
       | some v =>
        have:=(hk v).2 ⟨h1,hr⟩;rw [hq] at this;injection this with this _;cases this
     | true =>
      obtain ⟨h1,h2⟩:=(hk v1).1 hq;rw [h2];simp only [if_true,h1,true_and];rw [hks v1 vs',run_len h2]
   constructor
   ·intro h
    split at h
    ·rename_i hc;obtain ⟨k1,k2⟩:=(key _ vs vs').1 h;exact ⟨by rw [dT_ hc,k1];rfl,k2⟩
    ·injection h with h _;cases h
   ·rintro ⟨h1,h2⟩;rw [Bool.and_eq_true,decide_eq_true_eq] at h1;rw [if_pos h1.1];exact (key _ vs vs').2 ⟨h1.2,h2⟩
  ·rw [vPt_var hv,shp_var hv,occ_var hv];simp only [run,run1];by_cases hb:p.v<1∨p.v > vs.length∨p.op≠0∨p.imm≠0∨p.iv≠0∨0<p.kids.length
   ·rw [if_pos hb,dF_ (fun q=>q hb)];simp
   ·rw [if_neg hb,dT_ hb];by_cases h0:vs.getD (p.v - 1).toNat 0=0
    ·rw [if_pos h0,if_pos h0];simp
    ·rw [if_neg h0,if_neg h0];by_cases h1:s=0∨s=vs.getD (p.v - 1).toNat 0
     ·rw [if_pos h1,dT_ h1];simp
     ·rw [if_neg h1,dF_ h1];simp
def InR (n:Nat) (l:List (Int×Int)):Prop:=∀t∈l,1≤t.1∧t.1≤n∧(t.2=1∨t.2=2)
theorem osort_kid {op:Int}:∀x∈(oSortsF op).1,x=1∨x=2:=by
 intro x hx;unfold oSortsF at hx
 (repeat' split at hx) <;> simp at hx <;> omega
theorem shp_inR (p:Pt):∀(s m:Int) (n:Nat),shp p s m n=true→(s=1∨s=2∨p.v=0)→InR n (occ p s):=by
 induction p using Pt.ind with
 | h p ih =>
  intro s m n h hs;by_cases hv:p.v=0
  ·rw [shp_op hv,Bool.and_eq_true,decide_eq_true_eq] at h;rw [occ_op hv];have hl:p.kids.length≤(oSortsF p.op).1.length:=by omega
   have key:∀ss,(fun (ks:List Pt) (ss:List Int)=>ks.length≤ss.length→(∀x∈ss,x=1∨x=2)→shpL ks ss m n=true→InR n (occL ks ss)) p.kids ss:=by
    refine Pt.indL (Q:=fun k=>∀(s m:Int) (n:Nat),shp k s m n=true→(s=1∨s=2∨k.v=0)→InR n (occ k s)) (QL:=fun (ks:List Pt) (ss:List Int)=>ks.length≤ss.length→(∀x∈ss,x=1∨x=2)→shpL ks ss m n=true→InR n (occL ks ss)) ?_ ?_ _ ih
    ·intro ss _ _ _ t ht;simp [occL] at ht
    ·intro k ks ss hk hks h1 h2 h3 t ht;rw [shpL,Bool.and_eq_true] at h3;rw [occL] at ht
     cases ss with
     | nil=>simp at h1
     | cons x ss =>
      rcases List.mem_append.1 ht with ht | ht
      ·have:=h2 x (by simp);exact hk x m n h3.1 (by omega) t ht
      ·exact hks (by simpa using h1) (fun y hy=>h2 y (List.mem_cons_of_mem _ hy)) h3.2 t ht
   exact key _ hl osort_kid h.2
  ·rw [shp_var hv,decide_eq_true_eq] at h;rw [occ_var hv];intro t ht;simp only [List.mem_singleton] at ht;subst ht;exact ⟨by omega,by omega,by omega⟩
theorem set_getD {vs:List Int} {i j:Nat} {x:Int} (hi:i<vs.length):(vs.set i x).getD j 0=if i=j then x else vs.getD j 0:=by
 by_cases e:i=j
 ·subst e;rw [if_pos rfl];simp [List.getD,hi]
 ·rw [if_neg e];simp [List.getD,e]
end Go.Proofs.Ytdbjgihnngigeaa
namespace Go.Proofs.Ytdbjgihnngigeaa
open Go.RowKit
structure Cd where
 kind:Int
 a:Int
 b:Int
 n:Int
deriving DecidableEq
structure Rl where
 name:ByteArray
 l:Pt
 r:Pt
 conds:List Cd
 vars:Int
 imms:Int
def nmCh (c:UInt8):Bool:=decide (97≤c.toNat∧c.toNat≤122∨48≤c.toNat∧c.toNat≤57∨c.toNat=45)
def nameF (s:ByteArray):Bool:=s.data.toList.all nmCh&&decide (1≤s.size∧s.size≤16)
def isValF (ss:List Int) (n:Int):Bool:=decide (1≤n∧n<ss.length∧ss.getD n.toNat 0=1)
def isImmF (m n:Int):Bool:=decide (1≤n∧n≤m)
def condF (c:Cd) (ss:List Int) (m:Int):Bool :=
 if c.kind=1 then isValF ss c.a&&decide (c.b=0)&&decide (c.n=0)
 else if c.kind=2∨c.kind=3 then isValF ss c.a&&decide (c.b=0)
 else if c.kind=4 then isValF ss c.a&&isValF ss c.b&&decide (c.a≠c.b)&&decide (c.n=0)
 else if c.kind=5 then isValF ss c.a&&isImmF m c.b&&decide (c.n=0)
 else if c.kind=6 then isImmF m c.a&&isImmF m c.b&&decide (c.a≠c.b)&&decide (c.n=0)
 else false
def orB (a b:Int):Int:=bits BinOp.or IntKind.i64 a b
def colV (l:List (Int×Int)) (vs:List Int):List Int:=l.foldl (fun vs t=>vs.set t.1.toNat (orB (vs.getD t.1.toNat 0) t.2)) vs
def occI (p:Pt):List Int:=((nodes p).filter fun q=>decide (q.v=0)).map Pt.iv
def colI (l:List Int) (ms:List Int):List Int:=l.foldl (fun ms i=>ms.set i.toNat 1) ms
def rsF (op:Int):List Int×Int :=
 if op=23 then ([2,1,0],1) else if op=24 then ([2,0,0],1) else if op=27∨op=29 then ([2,1,0],2) else if op=28 then ([2,1,1],2) else ([1,1,1],1)
theorem rs_parts {op:Int} (h:(oSortsF op).2.2=true):(rsF op).2=(oSortsF op).2.1∧(oSortsF op).1.length≤3∧∀i (hi:i<(oSortsF op).1.length),(rsF op).1.getD i 0=(oSortsF op).1[i]:=by
 have ho:op=1∨op=23∨op=24∨op=27∨op=29∨op=28∨op=20∨op=21∨op=22∨(4≤op∧op≤19):=by
  rw [←allowed_ok] at h;simp only [allowedF,decide_eq_true_iff] at h;omega
 have fin:∀(l l':List Int) (x:Int) (b:Bool),oSortsF op=(l,x,b)→rsF op=(l',x)→l.length≤3→(∀i (hi:i<l.length),l'.getD i 0=l[i])→(rsF op).2=(oSortsF op).2.1∧(oSortsF op).1.length≤3∧∀i (hi:i<(oSortsF op).1.length),(rsF op).1.getD i 0=(oSortsF op).1[i]:=fun l l' x b e e' h1 h2=>by
  refine ⟨by rw [e,e'],by rw [e];exact h1,?_⟩;rw [e,e'];exact h2
 rcases ho with rfl | rfl | rfl | rfl | rfl | rfl | rfl | rfl | rfl | hr
 ·exact fin [] [1,1,1] 1 true rfl rfl (by simp) (fun i hi=>by simp at hi)
 ·exact fin [2,1] [2,1,0] 1 true rfl rfl (by simp) (fun i hi=>by match i,hi with | 0,_=>rfl | 1,_=>rfl)
 ·exact fin [2] [2,0,0] 1 true rfl rfl (by simp) (fun i hi=>by match i,hi with | 0,_=>rfl)
 ·exact fin [2,1] [2,1,0] 2 true rfl rfl (by simp) (fun i hi=>by match i,hi with | 0,_=>rfl | 1,_=>rfl)
 ·exact fin [2,1] [2,1,0] 2 true rfl rfl (by simp) (fun i hi=>by match i,hi with | 0,_=>rfl | 1,_=>rfl)
 ·exact fin [2,1,1] [2,1,1] 2 true rfl rfl (by simp) (fun i hi=>by match i,hi with | 0,_=>rfl | 1,_=>rfl | 2,_=>rfl)
 ·exact fin [1] [1,1,1] 1 true rfl rfl (by simp) (fun i hi=>by match i,hi with | 0,_=>rfl)
 ·exact fin [1] [1,1,1] 1 true rfl rfl (by simp) (fun i hi=>by match i,hi with | 0,_=>rfl)
 ·exact fin [1,1,1] [1,1,1] 1 true rfl rfl (by simp) (fun i hi=>by match i,hi with | 0,_=>rfl | 1,_=>rfl | 2,_=>rfl)
 ·refine fin [1,1] [1,1,1] 1 true ?_ ?_ (by simp) (fun i hi=>by match i,hi with | 0,_=>rfl | 1,_=>rfl)
  ·unfold oSortsF;rw [if_neg (by omega),if_neg (by omega),if_neg (by omega),if_neg (by omega),if_neg (by omega),if_pos (by omega),if_neg (by omega),if_neg (by omega)]
  ·unfold rsF;rw [if_neg (by omega),if_neg (by omega),if_neg (by omega),if_neg (by omega)]
def implG (r:Rl):Bool :=
 (((colV (occ r.l (rsF r.l.op).2) (List.replicate (r.vars.toNat+1) 0)).drop 1).all fun x=>decide (x≠0)) &&
 (((colI (occI r.l) (List.replicate (r.imms.toNat+1) 0)).drop 1).all fun x=>decide (x≠0)) &&
 (decide (r.r.v≠0) || decide ((rsF r.r.op).2=(rsF r.l.op).2)) &&
 (((colV (occ r.r (rsF r.l.op).2) (colV (occ r.l (rsF r.l.op).2) (List.replicate (r.vars.toNat+1) 0))).drop 1).all fun x=>decide (x≠3)) &&
 (r.conds.all fun c=>condF c (colV (occ r.r (rsF r.l.op).2) (colV (occ r.l (rsF r.l.op).2) (List.replicate (r.vars.toNat+1) 0))) r.imms)
def implF (r:Rl):Bool:=decide (r.l.v=0)&&validF r.l r.vars r.imms&&validF r.r r.vars r.imms&&nameF r.name&&decide (r.conds.length≤6)&&implG r
def code (a b:Bool):Int:=(if a then 1 else 0)+(if b then 2 else 0)
theorem orB_code:∀a b:Bool,orB (code a b) 1=code true b∧orB (code a b) 2=code a true:=by decide +kernel
def hasO (l:List (Int×Int)) (i s:Int):Bool:=decide ((i,s)∈l)
theorem colV_len:∀(l:List (Int×Int)) (vs:List Int),(colV l vs).length=vs.length
 | [],_=>rfl
 | t::l,vs=>by
  show (colV l _).length=_;rw [colV_len l];simp
theorem colV_code:∀{l:List (Int×Int)} {vs:List Int} {n:Nat} (fa fb:Nat→Bool),vs.length=n+1→InR n l→(∀i:Nat,i<n+1→vs.getD i 0=code (fa i) (fb i))→∀i:Nat,i<n+1→(colV l vs).getD i 0=code (fa i || hasO l i 1) (fb i || hasO l i 2)
 | [],vs,n,fa,fb,_,_,h=>fun i hi=>by
  show vs.getD i 0=_;rw [h i hi];simp [hasO]
 | t::l,vs,n,fa,fb,hl,hr,h=>fun i hi=>by
  obtain ⟨a1,a2,a3⟩:=hr t (by simp);obtain ⟨j,hj⟩:∃j:Nat,t.1=(j:Int):=Int.eq_ofNat_of_zero_le (by omega);have hjn:j<n+1:=by omega
  have hv:=h j hjn
  have key:∀k:Nat,k<n+1→(vs.set t.1.toNat (orB (vs.getD t.1.toNat 0) t.2)).getD k 0=code (fa k || decide ((k:Int)=t.1∧t.2=1)) (fb k || decide ((k:Int)=t.1∧t.2=2)):=by
   intro k hk;rw [hj,Int.toNat_natCast,set_getD (by omega),hv];have oc:=orB_code (fa j) (fb j);by_cases e:j=k
   ·subst e;rw [if_pos rfl];rcases a3 with q | q
    ·rw [q,oc.1];simp
    ·rw [q,oc.2];simp
   ·rw [if_neg e,h k hk];have e2:¬((k:Int)=(j:Int)):=by omega
    simp [e2]
  show (colV l (vs.set t.1.toNat (orB (vs.getD t.1.toNat 0) t.2))).getD i 0=_;rw [colV_code _ _ (by simpa using hl) (fun x hx=>hr x (List.mem_cons_of_mem _ hx)) key i hi]
  have e1:hasO (t::l) i 1=(decide ((i:Int)=t.1∧t.2=1) || hasO l i 1):=by
   unfold hasO;rw [Bool.eq_iff_iff];simp only [decide_eq_true_eq,Bool.or_eq_true,List.mem_cons,Prod.ext_iff];constructor
   ·rintro (⟨x,y⟩ | h);exact .inl ⟨x,y.symm⟩;exact .inr h
   ·rintro (⟨x,y⟩ | h);exact .inl ⟨x,y.symm⟩;exact .inr h
  have e2:hasO (t::l) i 2=(decide ((i:Int)=t.1∧t.2=2) || hasO l i 2):=by
   unfold hasO;rw [Bool.eq_iff_iff];simp only [decide_eq_true_eq,Bool.or_eq_true,List.mem_cons,Prod.ext_iff];constructor
   ·rintro (⟨x,y⟩ | h);exact .inl ⟨x,y.symm⟩;exact .inr h
   ·rintro (⟨x,y⟩ | h);exact .inl ⟨x,y.symm⟩;exact .inr h
  rw [e1,e2,Bool.or_assoc,Bool.or_assoc]
theorem colI_len:∀(l:List Int) (ms:List Int),(colI l ms).length=ms.length
 | [],_=>rfl
 | t::l,ms=>by
  show (colI l _).length=_;rw [colI_len l];simp
theorem mark_get (g:Pt→Int):∀(l:List Pt) (bs:List Bool) (i:Nat),(l.foldl (fun bs q=>if 0<g q∧g q<bs.length then bs.set (g q).toNat true else bs) bs).length=bs.length∧(1≤i→i<bs.length→((l.foldl (fun bs q=>if 0<g q∧g q<bs.length then bs.set (g q).toNat true else bs) bs).getD i false=true↔bs.getD i false=true∨∃q∈l,g q=(i:Int)))
 | [],bs,i=>⟨rfl,fun _ _=>by simp⟩
 | t::l,bs,i=>by
  have hs:(if 0<g t∧g t<bs.length then bs.set (g t).toNat true else bs).length=bs.length:=by split <;> simp
  obtain ⟨i1,i2⟩:=mark_get g l (if 0<g t∧g t<bs.length then bs.set (g t).toNat true else bs) i;refine ⟨i1.trans hs,fun h1 h2=>?_⟩;rw [List.foldl_cons,i2 h1 (by omega)]
  have : (if 0<g t∧g t<bs.length then bs.set (g t).toNat true else bs).getD i false=true↔bs.getD i false=true∨g t=(i:Int):=by
   by_cases q:0<g t∧g t<bs.length
   ·rw [if_pos q];by_cases e:(g t).toNat=i
    ·have : g t=(i:Int):=by omega
     simp [List.getD,h2,this]
    ·have : ¬(g t=(i:Int)):=by omega
     simp [List.getD,e,this]
   ·rw [if_neg q];have : ¬(g t=(i:Int)):=by omega
    simp [this]
  rw [this];simp only [List.mem_cons,exists_eq_or_imp,or_assoc]
theorem all_drop {α:Type} {l:List α} {n:Nat} {d:α} {f:α→Bool} (hl:l.length=n+1):(l.drop 1).all f=true↔∀i:Nat,1≤i→i≤n→f (l.getD i d)=true:=by
 rw [List.all_eq_true];constructor
 ·intro h i h1 h2
  have : l.getD i d∈l.drop 1:=by
   rw [getD_of (by omega:i<l.length)];rw [List.mem_iff_getElem];exact ⟨i - 1,by simp;omega,by simp;congr 1;omega⟩
  exact h _ this
 ·intro h x hx;obtain ⟨i,hi,rfl⟩:=List.mem_iff_getElem.1 hx;have h3:i<l.length - 1:=by simpa using hi
  have:=h (1+i) (by omega) (by omega);rw [getD_of (by omega:1+i<l.length)] at this;simpa [Nat.add_comm] using this
theorem shp_nodes (p:Pt):∀(s m:Int) (n:Nat),shp p s m n=true→(∀i,i≠0→((∃q∈nodes p,q.v=i)↔∃s',(i,s')∈occ p s))∧(∀q∈nodes p,(q.v≠0→q.iv=0)∧(0≤m→0≤q.iv∧q.iv≤m)∧q.kids.length≤3):=by
 induction p using Pt.ind with
 | h p ih =>
  intro s m n h;rw [nodes_eq];by_cases hv:p.v=0
  ·rw [shp_op hv,Bool.and_eq_true,decide_eq_true_eq] at h;obtain ⟨⟨h1,h2,_,h4⟩,h5⟩:=h;rw [occ_op hv]
   have key:=Pt.indL (Q:=fun k=>∀(s m:Int) (n:Nat),shp k s m n=true→(∀i,i≠0→((∃q∈nodes k,q.v=i)↔∃s',(i,s')∈occ k s))∧(∀q∈nodes k,(q.v≠0→q.iv=0)∧(0≤m→0≤q.iv∧q.iv≤m)∧q.kids.length≤3))
    (QL:=fun (ks:List Pt) (ss:List Int)=>shpL ks ss m n=true→(∀i,i≠0→((∃q∈nodesL ks,q.v=i)↔∃s',(i,s')∈occL ks ss))∧(∀q∈nodesL ks,(q.v≠0→q.iv=0)∧(0≤m→0≤q.iv∧q.iv≤m)∧q.kids.length≤3))
    (fun ss _=>⟨fun i _=>by simp [nodesL,occL],fun q hq=>by simp [nodesL] at hq⟩)
    (fun k ks ss hk hks h=>by
     rw [shpL,Bool.and_eq_true] at h;obtain ⟨a1,a2⟩:=hk _ _ _ h.1;obtain ⟨b1,b2⟩:=hks h.2;refine ⟨fun i hi=>?_,fun q hq=>?_⟩
     ·simp only [nodesL,occL,List.mem_append,or_and_right,exists_or];rw [a1 i hi,b1 i hi]
     ·rw [nodesL] at hq;rcases List.mem_append.1 hq with hq | hq
      ·exact a2 q hq
      ·exact b2 q hq) p.kids ih _ h5
   obtain ⟨k1,k2⟩:=key;refine ⟨fun i hi=>?_,fun q hq=>?_⟩
   ·rw [←k1 i hi];simp only [List.mem_cons,exists_eq_or_imp];constructor
    ·rintro (h | h)
     ·omega
     ·exact h
    ·exact .inr
   ·rcases List.mem_cons.1 hq with rfl | hq
    ·refine ⟨fun q=>absurd hv q,fun hm=>?_,?_⟩
     ·by_cases h0:q.iv=0
      ·omega
      ·have : pImmF q m=(hasImmF q.op&&decide (q.imm=0∧1≤q.iv∧q.iv≤m)):=if_pos h0;rw [this,Bool.and_eq_true,decide_eq_true_eq] at h4;omega
     ·have:=(rs_parts h1).2.1;omega
    ·exact k2 q hq
  ·rw [shp_var hv,decide_eq_true_eq] at h;have hk:p.kids=[]:=List.eq_nil_of_length_eq_zero (by omega);rw [occ_var hv,hk];refine ⟨fun i hi=>?_,fun q hq=>?_⟩
   ·simp only [nodesL,List.mem_singleton,exists_eq_left,Prod.mk.injEq];constructor
    ·rintro rfl;exact ⟨s,rfl,rfl⟩
    ·rintro ⟨_,h,_⟩;exact h.symm
   ·simp only [nodesL,List.mem_singleton] at hq;subst hq;refine ⟨fun _=>by omega,fun _=>by omega,by rw [hk];simp⟩
end Go.Proofs.Ytdbjgihnngigeaa
namespace Go.Proofs.Ytdbjgihnngigeaa
open Go.RowKit
theorem vPt_fst {p:Pt} {s m:Int} {vs:List Int}:(vPt p s m vs).1=true↔∃v,shp p s m vs.length=true∧run (occ p s) vs=some v:=by
 constructor
 ·intro h;exact ⟨_,(vPt_iff p s m vs (vPt p s m vs).2).1 (by rw [←h])⟩
 ·rintro ⟨v,h⟩;rw [(vPt_iff p s m vs v).2 h]
section
variable {r:Rl}
end
end Go.Proofs.Ytdbjgihnngigeaa
namespace Go.Proofs.Ytdbjgihnngigeaa
open Go.RowKit
theorem take_snoc' {α:Type} {L:List α} {k:Nat} (h:k<L.length):L.take (k+1)=L.take k++[L[k]]:=by
 rw [List.take_add_one,List.getElem?_eq_getElem h];rfl
def CondsV (w:World) (F:Nat→Prop) (A:Option Addr) (cs:List Cd):Prop :=
 cs=[]∨∃b o,A=some ⟨b,o,none⟩∧F b∧∀i (h:i<cs.length),w.cell? ⟨b,o+i * 4,none⟩=some (.int .i64 cs[i].kind)∧w.cell? ⟨b,o+i * 4+1,none⟩=some (.int .i64 cs[i].a)∧w.cell? ⟨b,o+i * 4+2,none⟩=some (.int .i64 cs[i].b)∧w.cell? ⟨b,o+i * 4+3,none⟩=some (.int .i64 cs[i].n)
section
variable {w w':World} {F G S:Nat→Prop} {A:Option Addr} {cs:List Cd}
theorem CondsV.at_ (h:CondsV w F A cs) {i:Nat} (hi:i<cs.length):∃b o,A=some ⟨b,o,none⟩∧F b∧b<w.heap.size∧w.cell? ⟨b,o+i * 4,none⟩=some (.int .i64 cs[i].kind)∧w.cell? ⟨b,o+i * 4+1,none⟩=some (.int .i64 cs[i].a)∧w.cell? ⟨b,o+i * 4+2,none⟩=some (.int .i64 cs[i].b)∧w.cell? ⟨b,o+i * 4+3,none⟩=some (.int .i64 cs[i].n):=by
 rcases h with h | ⟨b,o,e,hF,h⟩
 ·subst h;simp at hi
 ·exact ⟨b,o,e,hF,World.block_lt_of_cell? _ _ (h i hi).1,h i hi⟩
theorem CondsV.upd (h:CondsV w F A cs) (u:Upd S w w') (d:∀k,k<w.heap.size→F k→¬S k):CondsV w' F A cs:=by
 rcases h with h | ⟨b,o,e,hF,h⟩
 ·exact .inl h
 ·refine .inr ⟨b,o,e,hF,fun i hi=>?_⟩;have hb:¬S b:=d b (World.block_lt_of_cell? _ _ (h i hi).1) hF;obtain ⟨h0,h1,h2,h3⟩:=h i hi;exact ⟨u_ h0 u hb,u_ h1 u hb,u_ h2 u hb,u_ h3 u hb⟩
theorem CondsV.mono (h:CondsV w F A cs) (hFG:∀k,k<w.heap.size→F k→G k):CondsV w G A cs:=by
 rcases h with h | ⟨b,o,e,hF,h⟩
 ·exact .inl h
 ·by_cases hn:cs=[]
  ·exact .inl hn
  ·exact .inr ⟨b,o,e,hFG b (World.block_lt_of_cell? _ _ (h 0 (List.length_pos_iff.2 hn)).1) hF,h⟩
end
structure RlA where
 la:Option Addr
 lc:Nat
 ra:Option Addr
 rc:Nat
 ca:Option Addr
 cc:Nat
def rlCells (r:Rl) (a:RlA):Array Value:=#[.string r.name,.int .i64 r.l.v,.int .i64 r.l.op,.int .i64 r.l.imm,.int .i64 r.l.iv,.slice a.la r.l.kids.length a.lc,.int .i64 r.r.v,.int .i64 r.r.op,.int .i64 r.r.imm,.int .i64 r.r.iv,.slice a.ra r.r.kids.length a.rc,.slice a.ca r.conds.length a.cc,.int .i64 r.vars,.int .i64 r.imms]
def rlv (r:Rl) (a:RlA):Value:=.agg (rlCells r a)
structure RlK (w:World) (F:Nat→Prop) (x:Rl) (a:RlA):Prop where
 l:PtK w F x.l a.la a.lc
 r:PtK w F x.r a.ra a.rc
 c:CondsV w F a.ca x.conds
 le:x.conds.length≤a.cc
theorem RlK.upd {w w':World} {F S:Nat→Prop} {r:Rl} {a:RlA} (h:RlK w F r a) (u:Upd S w w') (d:∀k,k<w.heap.size→F k→¬S k):RlK w' F r a :=
 ⟨PtK.upd u d _ _ _ h.l,PtK.upd u d _ _ _ h.r,h.c.upd u d,h.le⟩
theorem RlK.mono {w:World} {F G:Nat→Prop} {r:Rl} {a:RlA} (h:RlK w F r a) (g:∀k,k<w.heap.size→F k→G k):RlK w G r a :=
 ⟨PtK.mono g _ _ _ h.l,PtK.mono g _ _ _ h.r,h.c.mono g,h.le⟩
theorem results_cell_row_tmp {P:Program} {fn:Func} {p u:Tmp} {ty:TypeId} (h:fn.results=#[.cell p ty,.tmp u]) (tmps:Array Value) (w:World) (g:Nat) (t:TypeId) (cs:Array Value) (fr:Nat×Nat) (d:TypeDesc)
  (hp:tmps.getD p undef=.pointer (some ⟨g,0,none⟩)) (hg:w.heap[g]?=some (.cells cs t fr))
  (hu:P.underlying ty=some d) (hd:(match d with | .struct _ | .array _ _=>true | _=>false)=true) (hi:(P.info? ty).map (·.size)=some cs.size) :
  (results fn tmps).run P w=.ok (.tuple #[.agg cs,tmps.getD u undef]) w:=by
 rw [results_cell_tmp h,hp];simp [asAddr,run_loadVar_row w g t ty cs fr d hg hu hd hi,Result.andThen]
set_option maxRecDepth 100000 in
set_option maxHeartbeats 4000000 in
theorem rlSorts_c (op:Int) (w:World):Calls Try.prog 48 #[.int .i64 op] w fun e w'=>e=.returned (.tuple #[.agg #[.int .i64 ((rsF op).1.getD 0 0),.int .i64 ((rsF op).1.getD 1 0),.int .i64 ((rsF op).1.getD 2 0)],.int .i64 (rsF op).2])∧Upd Non w w':=by
 have uA:∀o,Upd Non w (w.alloc o):=fun o=>Upd.refl.alloc o
 by_cases h1:op=23
 ·subst h1;go_enter Try.func48,Try.ntmps48;go_wp2_with fail
  refine bodyPost_ret (results_cell_row_tmp rfl _ _ w.heap.size 112 _ (0,0) _ rfl (Blk.new _ _ _) Try.underlying112 rfl (by kernel_rfl)) rfl ?_;exact ⟨rfl,uA _⟩
 by_cases h2:op=24
 ·subst h2;go_enter Try.func48,Try.ntmps48;go_wp2_with fail
  refine bodyPost_ret (results_cell_row_tmp rfl _ _ w.heap.size 112 _ (0,0) _ rfl (Blk.new _ _ _) Try.underlying112 rfl (by kernel_rfl)) rfl ?_;exact ⟨rfl,uA _⟩
 by_cases h3:op=27
 ·subst h3;go_enter Try.func48,Try.ntmps48;go_wp2_with fail
  refine bodyPost_ret (results_cell_row_tmp rfl _ _ w.heap.size 112 _ (0,0) _ rfl (Blk.new _ _ _) Try.underlying112 rfl (by kernel_rfl)) rfl ?_;exact ⟨rfl,uA _⟩
 by_cases h4:op=29
 ·subst h4;go_enter Try.func48,Try.ntmps48;go_wp2_with fail
  refine bodyPost_ret (results_cell_row_tmp rfl _ _ w.heap.size 112 _ (0,0) _ rfl (Blk.new _ _ _) Try.underlying112 rfl (by kernel_rfl)) rfl ?_;exact ⟨rfl,uA _⟩
 by_cases h5:op=28
 ·subst h5;go_enter Try.func48,Try.ntmps48;go_wp2_with fail
  refine bodyPost_ret (results_cell_row_tmp rfl _ _ w.heap.size 112 _ (0,0) _ rfl (Blk.new _ _ _) Try.underlying112 rfl (by kernel_rfl)) rfl ?_;exact ⟨rfl,uA _⟩
 ·have t1:(op==23)=false:=by simpa using h1
  have t2:(op==24)=false:=by simpa using h2
  have t3:(op==27)=false:=by simpa using h3
  have t4:(op==29)=false:=by simpa using h4
  have t5:(op==28)=false:=by simpa using h5
  have e:rsF op=([1,1,1],1):=by unfold rsF;rw [if_neg h1,if_neg h2,if_neg (by omega),if_neg h5]
  rw [e];clear h1 h2 h3 h4 h5 e;go_enter Try.func48,Try.ntmps48;go_wp2_with fail
  refine bodyPost_ret (results_cell_row_tmp rfl _ _ w.heap.size 112 _ (0,0) _ rfl (Blk.new _ _ _) Try.underlying112 rfl (by kernel_rfl)) rfl ?_;exact ⟨rfl,uA _⟩
def occIL (ks:List Pt):List Int:=((nodesL ks).filter fun q=>decide (q.v=0)).map Pt.iv
theorem occI_op {p:Pt} (h:p.v=0):occI p=p.iv::occIL p.kids:=by
 unfold occI occIL;rw [nodes_eq];simp [h]
theorem occI_var {p:Pt} {s m:Int} {n:Nat} (hs:shp p s m n=true) (h:p.v≠0):occI p=[]:=by
 rw [shp_var h,decide_eq_true_eq] at hs;have hk:p.kids=[]:=List.eq_nil_of_length_eq_zero (by omega);unfold occI;rw [nodes_eq,hk];simp [nodesL,h]
theorem nodesL_snoc:∀(ks:List Pt) (k:Pt),nodesL (ks++[k])=nodesL ks++nodes k
 | [],k=>by simp [nodesL]
 | x::ks,k=>by simp [nodesL,nodesL_snoc ks k]
theorem occIL_snoc (ks:List Pt) (k:Pt):occIL (ks++[k])=occIL ks++occI k:=by
 unfold occIL occI;rw [nodesL_snoc,List.filter_append,List.map_append]
theorem occL_snoc:∀(ks:List Pt) (k:Pt) (ss:List Int),occL (ks++[k]) ss=occL ks ss++occ k (ss.getD ks.length 0)
 | [],k,ss=>by
  cases ss <;> simp [occL]
 | x::ks,k,ss=>by
  cases ss with
  | nil=>simp [occL,occL_snoc ks k]
  | cons y ss=>simp [occL,occL_snoc ks k]
theorem shpL_at {m:Int} {n:Nat}:∀{ks:List Pt} {ss:List Int} {i:Nat} (hi:i<ks.length),shpL ks ss m n=true→shp ks[i] (ss.getD i 0) m n=true
 | k::ks,ss,0,_,h=>by
  rw [shpL,Bool.and_eq_true] at h;have:=h.1;cases ss <;> simpa using this
 | k::ks,ss,i+1,hi,h=>by
  rw [shpL,Bool.and_eq_true] at h;have:=shpL_at (i:=i) (by simpa using hi) h.2;cases ss <;> simpa using this
theorem colV_snoc (a b:List (Int×Int)) (vs:List Int):colV (a++b) vs=colV b (colV a vs):=by simp [colV]
theorem colI_snoc (a b:List Int) (ms:List Int):colI (a++b) ms=colI b (colI a ms):=by simp [colI]
def kid (l:List Pt) (i:Nat):Pt:=l.getD i (.mk 0 0 0 0 [])
def shK (kids:List Pt):Nat:=((kid kids 1).imm % 64).toNat
theorem shK_lt (kids:List Pt):shK kids<64:=by unfold shK;omega
def isG (op:Int):Bool:=decide (15≤op∧op≤19∨op=22)
def ownN (op:Int) (kids:List Pt):Nat:=if op=4∨op=5∨op=20 then 1 else if op=12 then shK kids else if isG op then 2 else 0
theorem ownN_lt (op:Int) (kids:List Pt):ownN op kids<64:=by
 have:=shK_lt kids;unfold ownN
 split
 ·omega
 ·split
  ·omega
  ·split <;> omega
def supO (op:Int) (kids:List Pt):Bool:=decide (op=1∨op=4∨op=5∨op=9∨op=10∨op=11∨(15≤op∧op≤22)∨(op=12∧(kid kids 1).op=1∧(kid kids 1).imm % 64≤8))
mutual
def supF:Pt→Bool
 | .mk v op _ _ kids=>if 0<v then true else supO op kids&&supL kids
def supL:List Pt→Bool
 | []=>true
 | k::ks=>supF k&&supL ks
end
theorem supL_iff:∀l:List Pt,supL l=l.all supF
 | []=>rfl
 | k::ks=>by rw [supL,supL_iff ks];rfl
theorem supF_iff (p:Pt):supF p=if 0<p.v then true else supO p.op p.kids&&p.kids.all supF:=by
 obtain ⟨v,op,imm,iv,kids⟩:=p;rw [supF,supL_iff];rfl
mutual
def bN:Pt→Nat
 | .mk v op _ _ kids=>if 0<v then 0 else ownN op kids+bL kids
def bL:List Pt→Nat
 | []=>0
 | k::ks=>bN k+bL ks
end
theorem bN_iff (p:Pt):bN p=if 0<p.v then 0 else ownN p.op p.kids+bL p.kids:=by
 obtain ⟨v,op,imm,iv,kids⟩:=p;rw [bN];rfl
theorem bL_le:∀(l:List Pt),(∀k∈l,bN k≤64 * k.size)→bL l≤64 * Pt.sizeL l
 | [],_=>by simp [bL]
 | k::ks,h=>by
  have h1:=h k (by simp);have h2:=bL_le ks (fun x hx=>h x (by simp [hx]));simp only [bL,Pt.sizeL];omega
theorem bN_le (p:Pt):bN p≤64 * p.size:=by
 induction p using Pt.ind with
 | h p ih =>
  have h1:=bL_le p.kids ih;have h2:=ownN_lt p.op p.kids;rw [bN_iff,Pt.size_eq]
  split <;> omega
mutual
def gN:Pt→Nat
 | .mk v op _ _ kids=>if 0<v then 0 else (isG op).toNat+gL kids
def gL:List Pt→Nat
 | []=>0
 | k::ks=>gN k+gL ks
end
theorem gN_iff (p:Pt):gN p=if 0<p.v then 0 else (isG p.op).toNat+gL p.kids:=by
 obtain ⟨v,op,imm,iv,kids⟩:=p;rw [gN];rfl
theorem gL_le:∀(l:List Pt),(∀k∈l,gN k≤k.size)→gL l≤Pt.sizeL l
 | [],_=>by simp [gL]
 | k::ks,h=>by
  have h1:=h k (by simp);have h2:=gL_le ks (fun x hx=>h x (by simp [hx]));simp only [gL,Pt.sizeL];omega
theorem gN_le (p:Pt):gN p≤p.size:=by
 induction p using Pt.ind with
 | h p ih =>
  have h1:=gL_le p.kids ih;rw [gN_iff,Pt.size_eq]
  split
  ·omega
  ·cases isG p.op <;> simp <;> omega
def bI (x:Int) (k:Nat):Bool:=(BitVec.ofInt 64 x).getLsbD k
def ordB (m a b:Bool) (sign:Bool):Bool:=if a=b then m else if sign then a else !a
def opB (k:Nat) (op imm:Int) (mine:List Bool) (a b c:Bool):Bool×List Bool :=
 let g:=mine.getD 0 false
 let m:=mine.getD 1 false
 if op=1 then (bI imm k,[]) else if op=9 then (a&&b,[]) else if op=10 then (a || b,[]) else if op=11 then (a ^^ b,[]) else if op=21 then (!a,[])
 else if op=4 then ((a ^^ b) ^^ g,[a&&b || a&&g || b&&g]) else if op=5 then ((a ^^ b) ^^ g,[!a&&b || !(a ^^ b)&&g]) else if op=20 then (!a ^^ g,[!a&&g])
 else if op=12 then ((mine++[a]).headD false,(mine++[a]).tail)
 else if op=22 then (if g then b else c,[g,m || a])
 else if op=15∨op=16 then (decide (k=0)&&g,[g,m&&(a==b)])
 else (decide (k=0)&&g,[g,ordB m a b (decide (k=63∧op≠19))])
def opBit (k:Nat) (op imm:Int) (mine vs:List Bool):Bool×List Bool:=opB k op imm mine (vs.getD 0 false) (vs.getD 1 false) (vs.getD 2 false)
mutual
def bitP (k:Nat) (ins:Nat→Bool):Pt→List Bool→Bool×List Bool×List Bool
 | .mk v op imm _ kids,old=>if 0<v then (ins (v - 1).toNat,old,[]) else
  ((opBit k op imm (old.take (ownN op kids)) (bitL k ins kids (old.drop (ownN op kids))).1).1,(bitL k ins kids (old.drop (ownN op kids))).2.1,
   (opBit k op imm (old.take (ownN op kids)) (bitL k ins kids (old.drop (ownN op kids))).1).2++(bitL k ins kids (old.drop (ownN op kids))).2.2)
def bitL (k:Nat) (ins:Nat→Bool):List Pt→List Bool→List Bool×List Bool×List Bool
 | [],old=>([],old,[])
 | p::ps,old=>((bitP k ins p old).1::(bitL k ins ps (bitP k ins p old).2.1).1,(bitL k ins ps (bitP k ins p old).2.1).2.1,(bitP k ins p old).2.2++(bitL k ins ps (bitP k ins p old).2.1).2.2)
end
theorem bitP_var {p:Pt} (h:0<p.v) (k:Nat) (ins:Nat→Bool) (old:List Bool):bitP k ins p old=(ins (p.v - 1).toNat,old,[]):=by
 obtain ⟨v,op,imm,iv,kids⟩:=p;rw [bitP,if_pos (show 0<v from h)];rfl
theorem bitP_op {p:Pt} (h:¬0<p.v) (k:Nat) (ins:Nat→Bool) (old:List Bool) {r:List Bool×List Bool×List Bool} (hr:bitL k ins p.kids (old.drop (ownN p.op p.kids))=r) :
  bitP k ins p old=((opBit k p.op p.imm (old.take (ownN p.op p.kids)) r.1).1,r.2.1,(opBit k p.op p.imm (old.take (ownN p.op p.kids)) r.1).2++r.2.2):=by
 obtain ⟨v,op,imm,iv,kids⟩:=p;subst hr;rw [bitP,if_neg (show ¬0<v from h)];rfl
theorem opBit_len {k:Nat} {op imm:Int} {kids:List Pt} {mine vs:List Bool} (hs:supO op kids=true) (hm:mine.length=ownN op kids):(opBit k op imm mine vs).2.length=ownN op kids:=by
 unfold supO at hs;have hs:=of_decide_eq_true hs;have hg:∀{q:Int},op=q→isG op=isG q:=fun h=>by rw [h]
 rcases hs with h | h | h | h | h | h | h | h
 all_goals first
  | (subst h;rfl)
  | skip
 ·have : op=15∨op=16∨op=17∨op=18∨op=19∨op=20∨op=21∨op=22:=by omega
  rcases this with rfl | rfl | rfl | rfl | rfl | rfl | rfl | rfl <;> rfl
 ·obtain ⟨rfl,_⟩:=h;show ((mine++[vs.getD 0 false]).tail).length=_;rw [List.length_tail,List.length_append,List.length_singleton,hm];omega
theorem bitP_app (k:Nat) (ins:Nat→Bool) (p:Pt):supF p=true→∀mine:List Bool,mine.length=bN p→∃b now,now.length=bN p∧∀rest,bitP k ins p (mine++rest)=(b,rest,now):=by
 induction p using Pt.ind with
 | h p ih =>
  intro hs mine hm;by_cases hv:0<p.v
  ·rw [bN_iff,if_pos hv] at hm;have : mine=[]:=List.length_eq_zero_iff.1 hm;subst this;exact ⟨ins (p.v - 1).toNat,[],by rw [bN_iff,if_pos hv];rfl,fun rest=>by rw [List.nil_append,bitP_var hv]⟩
  ·rw [supF_iff,if_neg hv,Bool.and_eq_true] at hs;rw [bN_iff,if_neg hv] at hm
   have hl:∀(l:List Pt),(∀q∈l,q∈p.kids)→∀mine:List Bool,mine.length=bL l→∃bs now,now.length=bL l∧bs.length=l.length∧∀rest,bitL k ins l (mine++rest)=(bs,rest,now):=by
    intro l
    induction l with
    | nil=>intro _ mine hm;have : mine=[]:=List.length_eq_zero_iff.1 hm;subst this;exact ⟨[],[],rfl,rfl,fun rest=>rfl⟩
    | cons q qs ihl =>
     intro hq mine hm;simp only [bL] at hm;have hq1:supF q=true:=List.all_eq_true.1 hs.2 q (hq q (by simp));obtain ⟨b,now,hn,hb⟩:=ih q (hq q (by simp)) hq1 (mine.take (bN q)) (by rw [List.length_take];omega);obtain ⟨bs,now2,hn2,hbl,hb2⟩:=ihl (fun x hx=>hq x (by simp [hx])) (mine.drop (bN q)) (by rw [List.length_drop];omega);refine ⟨b::bs,now++now2,by rw [List.length_append,hn,hn2];rfl,by simp [hbl],fun rest=>?_⟩;have e:mine++rest=mine.take (bN q)++(mine.drop (bN q)++rest):=by rw [←List.append_assoc,List.take_append_drop]
     rw [e];simp only [bitL,hb,hb2]
   obtain ⟨bs,now,hn,_,hb⟩:=hl p.kids (fun q h=>h) (mine.drop (ownN p.op p.kids)) (by rw [List.length_drop];omega);refine ⟨(opBit k p.op p.imm (mine.take (ownN p.op p.kids)) bs).1,(opBit k p.op p.imm (mine.take (ownN p.op p.kids)) bs).2++now,?_,fun rest=>?_⟩
   ·rw [List.length_append,hn,bN_iff,if_neg hv,opBit_len hs.1 (by rw [List.length_take];omega)]
   ·have e1:(mine++rest).drop (ownN p.op p.kids)=mine.drop (ownN p.op p.kids)++rest:=by rw [List.drop_append_of_le_length (by omega)]
    have e2:(mine++rest).take (ownN p.op p.kids)=mine.take (ownN p.op p.kids):=by rw [List.take_append_of_le_length (by omega)]
    rw [bitP_op hv k ins _ (r:=(bs,rest,now)) (by rw [e1];exact hb rest),e2]
def cdBit (k:Nat) (ins:Nat→Bool) (c:Cd) (m:Bool):Bool :=
 if c.kind=1 then m || ins (c.a - 1).toNat else if c.kind=4 then m || (ins (c.a - 1).toNat ^^ ins (c.b - 1).toNat)
 else if c.kind=2 then ordB m (bI c.n k) (ins (c.a - 1).toNat) (decide (k=63)) else if c.kind=3 then ordB m (ins (c.a - 1).toNat) (bI c.n k) (decide (k=63)) else m
def stN (r:Rl):Nat:=bN r.l+bN r.r+r.conds.length+1
def succF (k:Nat) (ins:Nat→Bool) (r:Rl) (old:List Bool):List Bool :=
 (bitP k ins r.l old).2.2++(bitP k ins r.r (bitP k ins r.l old).2.1).2.2 ++
 List.zipWith (cdBit k ins) r.conds (bitP k ins r.r (bitP k ins r.l old).2.1).2.1 ++
 [(bitP k ins r.r (bitP k ins r.l old).2.1).2.1.getD r.conds.length false || ((bitP k ins r.l old).1 ^^ (bitP k ins r.r (bitP k ins r.l old).2.1).1)]
theorem succF_len {r:Rl} (hl:supF r.l=true) (hr:supF r.r=true) (k:Nat) (ins:Nat→Bool) {old:List Bool} (h:old.length=stN r):(succF k ins r old).length=stN r:=by
 unfold stN at h;obtain ⟨b,now,hn,hb⟩:=bitP_app k ins r.l hl (old.take (bN r.l)) (by rw [List.length_take];omega);obtain ⟨b2,now2,hn2,hb2⟩:=bitP_app k ins r.r hr ((old.drop (bN r.l)).take (bN r.r)) (by rw [List.length_take,List.length_drop];omega);have e1:=hb (old.drop (bN r.l));rw [List.take_append_drop] at e1;have e2:=hb2 ((old.drop (bN r.l)).drop (bN r.r));rw [List.take_append_drop] at e2;unfold succF stN;simp only [e1,e2,List.length_append,hn,hn2,List.length_zipWith,List.length_drop,List.length_singleton];omega
def inO (op:Int) (n:Nat) (g:Bool):List Bool:=if op=20 then [true] else if op=4∨op=5 then [false] else if op=12 then List.replicate n false else if isG op then [g,decide (op=15∨op=16∨op=18)] else []
mutual
def inP (g:Nat→Bool):Pt→Nat→List Bool
 | .mk v op _ _ kids,i=>if 0<v then [] else inO op (ownN op kids) (g i)++inL g kids (i+(isG op).toNat)
def inL (g:Nat→Bool):List Pt→Nat→List Bool
 | [],_=>[]
 | k::ks,i=>inP g k i++inL g ks (i+gN k)
end
theorem inP_iff (g:Nat→Bool) (p:Pt) (i:Nat):inP g p i=if 0<p.v then [] else inO p.op (ownN p.op p.kids) (g i)++inL g p.kids (i+(isG p.op).toNat):=by
 obtain ⟨v,op,imm,iv,kids⟩:=p;rw [inP];rfl
theorem inO_len (op:Int) (kids:List Pt) (g:Bool):(inO op (ownN op kids) g).length=ownN op kids:=by
 unfold inO ownN
 split
 ·rename_i h;subst h;rfl
 ·split
  ·rename_i h;rw [if_pos (by omega)];rfl
  ·split
   ·rename_i h1 h2 h;rw [if_neg (by omega),List.length_replicate]
   ·split
    ·rename_i h;rw [if_neg (by omega)];rfl
    ·rw [if_neg (by omega)];rfl
theorem inP_len (g:Nat→Bool) (p:Pt):∀i,(inP g p i).length=bN p:=by
 induction p using Pt.ind with
 | h p ih =>
  intro i;rw [inP_iff,bN_iff]
  split
  ·rfl
  ·have : ∀(l:List Pt),(∀q∈l,q∈p.kids)→∀i,(inL g l i).length=bL l:=by
    intro l
    induction l with
    | nil=>intro _ i;rfl
    | cons q qs ihl=>intro h i;rw [inL,List.length_append,ih q (h q (by simp)),ihl (fun x hx=>h x (by simp [hx]))];rfl
   rw [List.length_append,inO_len,this _ (fun q h=>h)]
def cdIn (c:Cd):Bool:=decide (c.kind=2∨c.kind=3)
def initF (g:Nat→Bool) (r:Rl):List Bool:=inP g r.l 0++inP g r.r (gN r.l)++r.conds.map cdIn++[false]
theorem initF_len (g:Nat→Bool) (r:Rl):(initF g r).length=stN r:=by unfold initF stN;simp [inP_len];omega
def gR (r:Rl):Nat:=gN r.l+gN r.r
def initsF (r:Rl):List (List Bool):=(List.range (2 ^ gR r)).map fun h=>initF h.testBit r
def gOk (op:Int) (mine:List Bool):Bool:=if isG op then (if op=16 then mine.getD 0 false != mine.getD 1 false else mine.getD 0 false==mine.getD 1 false) else true
mutual
def gRP:Pt→List Bool→Bool×List Bool
 | .mk v op _ _ kids,b=>if 0<v then (true,b) else (gOk op (b.take (ownN op kids))&&(gRL kids (b.drop (ownN op kids))).1,(gRL kids (b.drop (ownN op kids))).2)
def gRL:List Pt→List Bool→Bool×List Bool
 | [],b=>(true,b)
 | k::ks,b=>((gRP k b).1&&(gRL ks (gRP k b).2).1,(gRL ks (gRP k b).2).2)
end
theorem gRP_iff (p:Pt) (b:List Bool):gRP p b=if 0<p.v then (true,b) else (gOk p.op (b.take (ownN p.op p.kids))&&(gRL p.kids (b.drop (ownN p.op p.kids))).1,(gRL p.kids (b.drop (ownN p.op p.kids))).2):=by
 obtain ⟨v,op,imm,iv,kids⟩:=p;rw [gRP];rfl
def safeF (r:Rl) (b:List Bool):Bool:=!((gRP r.l b).1&&(gRP r.r (gRP r.l b).2).1&&((gRP r.r (gRP r.l b).2).2.take r.conds.length).all id&&(gRP r.r (gRP r.l b).2).2.getD r.conds.length false)
theorem gRP_rest (p:Pt):∀b:List Bool,(gRP p b).2=b.drop (bN p):=by
 induction p using Pt.ind with
 | h p ih =>
  intro b;rw [gRP_iff,bN_iff]
  split
  ·rfl
  ·have : ∀(l:List Pt),(∀q∈l,q∈p.kids)→∀b:List Bool,(gRL l b).2=b.drop (bL l):=by
    intro l
    induction l with
    | nil=>intro _ b;rfl
    | cons q qs ihl=>intro h b;rw [gRL,ih q (h q (by simp)),ihl (fun x hx=>h x (by simp [hx])),List.drop_drop];rfl
   rw [this _ (fun q h=>h),List.drop_drop]
def applF (r:Rl):Bool:=implF r&&decide (r.imms=0)&&supF r.l&&supF r.r&&decide (gR r≤6)&&r.conds.all fun c=>decide (1≤c.kind∧c.kind≤4)
def ltB:List Bool→List Bool→Bool
 | [],[]=>false
 | [],_::_=>true
 | _::_,[]=>false
 | a::xs,b::ys=>if a=b then ltB xs ys else !a
def insB (x:List Bool):List (List Bool)→List (List Bool)
 | []=>[x]
 | y::ys=>if ltB y x then y::insB x ys else if y=x then y::ys else x::y::ys
def sortB (l:List (List Bool)):List (List Bool):=l.foldl (fun a x=>insB x a) []
def succsF (r:Rl) (k:Nat) (b:List Bool):List (List Bool):=(List.range (2 ^ r.vars.toNat)).map fun h=>succF k h.testBit r b
def lvl (r:Rl):Nat→List (List Bool)
 | 0=>sortB (initsF r)
 | k+1=>sortB ((lvl r k).flatMap (succsF r k))
def lvls (r:Rl) (n:Nat):List (Nat×List Bool):=(List.range n).flatMap fun k=>(lvl r k).map fun b=>(k,b)
def autF (r:Rl):Option (List (Nat×List Bool)):=if applF r=true∧(lvls r 65).length≤4096∧(lvl r 64).all (safeF r)=true then some (lvls r 65) else none
def bW (b:Bool):Int:=if b then 1 else 0
def shF (b:Int):Nat:=min (IntKind.u64.wrap (bits .and .i64 b 63)).toNat 64
def uW (x:Int):Nat:=(BitVec.ofInt 64 x).toNat
theorem uW_eq (x:Int):(uW x:Int)=x % 18446744073709551616:=by
 unfold uW;rw [BitVec.toNat_ofInt];have : (0:Int)≤x % ((2 ^ 64:Nat):Int):=Int.emod_nonneg _ (by decide);rw [Int.toNat_of_nonneg this];rfl
theorem uW_lt (x:Int):uW x<18446744073709551616:=by have:=uW_eq x;omega
theorem bI_eq (x:Int) (k:Nat):bI x k=(uW x).testBit k:=rfl
theorem wrap64_mod' (x:Int):IntKind.i64.wrap x % 18446744073709551616=x % 18446744073709551616:=by
 show (let m:=x % (2 ^ 64:Int);if true&&m ≥ (2 ^ 63:Int) then m - (2 ^ 64:Int) else m) % _=_;simp only [Bool.true_and,decide_eq_true_eq]
 split <;> omega
theorem uW_inj {x y:Int} (hx:I64 x) (hy:I64 y) (h:uW x=uW y):x=y:=by
 have h1:=uW_eq x;have h2:=uW_eq y;unfold I64 at hx hy;omega
def lo (x:Int) (k:Nat):Nat:=uW x % 2 ^ k
theorem bI_bv (v:BitVec 64) (k:Nat):bI (IntKind.i64.wrap v.toNat) k=v.getLsbD k:=by
 have h:uW (IntKind.i64.wrap v.toNat)=v.toNat:=by
  have h1:IntKind.i64.wrap (v.toNat:Int) % 18446744073709551616=(v.toNat:Int) % 18446744073709551616:=wrap64_mod' _;have h2:=uW_eq (IntKind.i64.wrap v.toNat);have h3:=v.isLt;omega
 rw [bI_eq,h];rfl
theorem bb_and (a b:Int) (k:Nat):bI (bits .and .i64 a b) k=(bI a k&&bI b k):=(bI_bv _ k).trans (BitVec.getLsbD_and ..)
theorem uW_u64 (x:Int):IntKind.u64.wrap x=(uW x:Int):=by
 rw [uW_eq];show (let m:=x % (2 ^ 64:Int);if false&&m ≥ (2 ^ 63:Int) then m - (2 ^ 64:Int) else m)=_;simp
theorem bI_bool (b:Bool) (k:Nat):bI (bW b) k=(decide (k=0)&&b):=by
 cases b
 ·rw [Bool.and_false];exact Nat.zero_testBit k
 ·rw [Bool.and_true];show (1:Nat).testBit k=_
  cases k with
  | zero=>rfl
  | succ k=>rw [Nat.testBit_succ];exact Nat.zero_testBit k
theorem word_ext {x y:Int} (hx:I64 x) (hy:I64 y) (h:∀k,k<64→bI x k=bI y k):x=y:=by
 refine uW_inj hx hy (Nat.eq_of_testBit_eq fun i=>?_);by_cases hi:i<64
 ·exact h i hi
 ·rw [Nat.testBit_lt_two_pow (Nat.lt_of_lt_of_le (uW_lt x) (Nat.pow_le_pow_right (n:=2) (by decide) (show 64≤i by omega))),Nat.testBit_lt_two_pow (Nat.lt_of_lt_of_le (uW_lt y) (Nat.pow_le_pow_right (n:=2) (by decide) (show 64≤i by omega)))]
abbrev Mon:=List UInt8
abbrev PL:=List (Mon×Int)
def scale (a:Int) (l:PL):PL:=l.map fun t=>(t.1,a * t.2)
def madd (a b:Mon):Mon:=List.zipWith (·+·) a b
def shiftP (j:Mon) (c:Int) (l:PL):PL:=l.map fun t=>(madd j t.1,c * t.2)
def pairs (a b:PL):PL:=a.flatMap fun s=>shiftP s.1 s.2 b
def zeroM (n:Nat):Mon:=List.replicate n 0
def unitM (n k:Nat):Mon:=(List.replicate n 0).set k 1
def combine (n:Nat) (op:Int) (l:List PL):Option PL :=
 if op=4 then some (l.getD 0 []++l.getD 1 [])
 else if op=5 then some (l.getD 0 []++scale (-1) (l.getD 1 []))
 else if op=6 then some (pairs (l.getD 0 []) (l.getD 1 []))
 else if op=20 then some (scale (-1) (l.getD 0 []))
 else if op=21 then some ((zeroM n,-1)::scale (-1) (l.getD 0 []))
 else none
def allSome:List (Option PL)→Option (List PL)
 | []=>some []
 | none::_=>none
 | some x::l=>match allSome l with
  | none=>none
  | some r=>some (x::r)
mutual
def tm (n:Nat):Pt→Option PL
 | .mk v op imm _ kids =>
  if 0<v then some [(unitM n (v - 1).toNat,1)]
  else if op=1 then some [(zeroM n,imm)]
  else if op=12 then
   match (tmL n kids).getD 0 none with
   | none=>none
   | some l=>if (kids.map (·.op)).getD 1 0=1 then some (scale (2 ^ shF ((kids.map (·.imm)).getD 1 0)) l) else none
  else match allSome (tmL n kids) with
   | none=>none
   | some l=>combine n op l
def tmL (n:Nat):List Pt→List (Option PL)
 | []=>[]
 | k::ks=>tm n k::tmL n ks
end
theorem tmL_eq (n:Nat):∀l:List Pt,tmL n l=l.map (tm n)
 | []=>by simp only [tmL,List.map_nil]
 | k::ks=>by simp only [tmL,tmL_eq n ks,List.map_cons]
mutual
def WfP (n:Nat):Pt→Prop
 | .mk v op _ _ kids=>0≤v∧v≤n∧(v=0→kids.length=(oSortsF op).1.length)∧WfL n kids
def WfL (n:Nat):List Pt→Prop
 | []=>True
 | k::ks=>WfP n k∧WfL n ks
end
theorem WfL.iff (n:Nat):∀l:List Pt,WfL n l↔∀k∈l,WfP n k
 | []=>by simp [WfL]
 | k::ks=>by simp [WfL,WfL.iff n ks]
theorem WfP.iff (n:Nat) (p:Pt):WfP n p↔0≤p.v∧p.v≤n∧(p.v=0→p.kids.length=(oSortsF p.op).1.length)∧∀k∈p.kids,WfP n k:=by
 obtain ⟨v,op,imm,iv,kids⟩:=p;rw [WfP,WfL.iff];rfl
theorem wf_of_vPt (p:Pt):∀(s m:Int) (vs:List Int),(vPt p s m vs).1=true→WfP vs.length p:=by
 induction p using Pt.ind with
 | h p ih =>
  intro s m vs h;rw [WfP.iff];by_cases hv:p.v=0
  ·rw [vPt_op hv] at h
   split at h
   ·rename_i hc;refine ⟨by omega,by omega,fun _=>hc.2.1,?_⟩
    suffices ∀(ks:List Pt) (ss:List Int) (us:List Int),us.length=vs.length→(∀k∈ks,k∈p.kids)→(vKids ks ss m us).1=true→∀k∈ks,WfP vs.length k from this _ _ _ rfl (fun k hk=>hk) h
    intro ks
    induction ks with
    | nil=>intro ss us _ _ _ k hk;simp at hk
    | cons k ks ihk =>
     intro ss us hu hm hk;simp only [vKids] at hk
     split at hk
     ·rename_i hk1;intro k' hk';rcases List.mem_cons.1 hk' with rfl | hk'
      ·have:=ih _ (hm _ (by simp)) _ _ _ hk1
       rwa [hu] at this
      ·exact ihk _ _ (by rw [vPt_len];exact hu) (fun x hx=>hm x (by simp [hx])) hk k' hk'
     ·exact absurd hk (by simp)
   ·simp at h
  ·rw [vPt_var hv] at h
   split at h
   ·simp at h
   ·rename_i hc;refine ⟨by omega,by omega,fun e=>absurd e hv,?_⟩;intro k hk;have : 0<p.kids.length:=List.length_pos_of_mem hk;omega
theorem I64_wrap' (x:Int):I64 (wrap64 x):=by unfold I64 wrap64;omega
theorem i64_wrapk (x:Int):I64 (IntKind.i64.wrap x):=by rw [IntWalk.i64_left];exact I64_wrap' x
theorem i64_bW (b:Bool):I64 (bW b):=by cases b <;> (unfold I64 bW;simp)
theorem supO_ops {op:Int} {kids:List Pt} (h:supO op kids=true):op=1∨op=4∨op=5∨op=9∨op=10∨op=11∨op=12∨op=15∨op=16∨op=17∨op=18∨op=19∨op=20∨op=21∨op=22:=by
 unfold supO at h;have h:=of_decide_eq_true h;omega
abbrev Bs:=List UInt8
section
variable (T:List (Bs×Nat)) (fin:Nat)
end
theorem ltB_irrefl:∀a:List Bool,ltB a a=false
 | []=>rfl
 | a::xs=>by rw [ltB,if_pos rfl,ltB_irrefl xs]
theorem ltB_trans:∀{a b c:List Bool},ltB a b=true→ltB b c=true→ltB a c=true
 | [],[],_,h,_=>by cases h
 | [],_::_,[],_,h=>by cases h
 | [],_::_,_::_,_,_=>rfl
 | _::_,[],_,h,_=>by cases h
 | _::_,_::_,[],_,h=>by cases h
 | a::xs,b::ys,c::zs,h1,h2=>by
  rw [ltB] at h1 h2 ⊢;have:=@ltB_trans xs ys zs;cases a <;> cases b <;> cases c <;> simp at h1 h2 ⊢ <;> exact this h1 h2
theorem ltB_total:∀(a b:List Bool),ltB a b=true∨a=b∨ltB b a=true
 | [],[]=>.inr (.inl rfl)
 | [],_::_=>.inl rfl
 | _::_,[]=>.inr (.inr rfl)
 | a::xs,b::ys=>by
  rw [ltB,ltB];have:=ltB_total xs ys;cases a <;> cases b <;> simp <;> exact this
def SrtB (l:List (List Bool)):Prop:=l.Pairwise fun a b=>ltB a b=true
theorem mem_insB {x y:List Bool}:∀{l:List (List Bool)},y∈insB x l↔y=x∨y∈l
 | []=>by simp [insB]
 | z::l=>by
  rw [insB]
  split
  ·rw [List.mem_cons,mem_insB,List.mem_cons];constructor
   ·rintro (h | h | h) <;> simp [h]
   ·rintro (h | h | h) <;> simp [h]
  ·split
   ·rename_i h;subst h;simp
   ·simp
theorem srt_insB {x:List Bool}:∀{l:List (List Bool)},SrtB l→SrtB (insB x l)
 | [],_=>List.pairwise_singleton _ _
 | z::l,h=>by
  have h1:=List.pairwise_cons.1 h;rw [insB]
  split
  ·rename_i hz;refine List.pairwise_cons.2 ⟨fun y hy=>?_,srt_insB h1.2⟩;rcases mem_insB.1 hy with rfl | hy
   ·exact hz
   ·exact h1.1 y hy
  ·split
   ·exact h
   ·rename_i h2 h3
    have hxz:ltB x z=true:=by
     rcases ltB_total x z with q | q | q
     ·exact q
     ·exact absurd q.symm h3
     ·exact absurd q h2
    refine List.pairwise_cons.2 ⟨fun y hy=>?_,h⟩;rcases List.mem_cons.1 hy with rfl | hy
    ·exact hxz
    ·exact ltB_trans hxz (h1.1 y hy)
theorem srt_fold:∀(l a:List (List Bool)),SrtB a→SrtB (l.foldl (fun a x=>insB x a) a)
 | [],_,h=>h
 | _::l,_,h=>srt_fold l _ (srt_insB h)
theorem mem_fold {y:List Bool}:∀(l a:List (List Bool)),y∈l.foldl (fun a x=>insB x a) a↔y∈l∨y∈a
 | [],a=>by simp
 | x::l,a=>by
  rw [List.foldl_cons,mem_fold l,mem_insB,List.mem_cons];constructor
  ·rintro (h | h | h) <;> simp [h]
  ·rintro ((h | h) | h) <;> simp [h]
theorem srt_sortB (l:List (List Bool)):SrtB (sortB l):=srt_fold l [] List.Pairwise.nil
theorem mem_sortB {y:List Bool} {l:List (List Bool)}:y∈sortB l↔y∈l:=by unfold sortB;rw [mem_fold];simp
theorem srt_ext:∀{a b:List (List Bool)},SrtB a→SrtB b→(∀x,x∈a↔x∈b)→a=b
 | [],[],_,_,_=>rfl
 | [],y::b,_,_,h=>absurd ((h y).2 (by simp)) (by simp)
 | x::a,[],_,_,h=>absurd ((h x).1 (by simp)) (by simp)
 | x::a,y::b,ha,hb,h=>by
  have ha1:=List.pairwise_cons.1 ha;have hb1:=List.pairwise_cons.1 hb
  have hxy:x=y:=by
   rcases List.mem_cons.1 ((h x).1 (by simp)) with q | q
   ·exact q
   ·rcases List.mem_cons.1 ((h y).2 (by simp)) with q' | q'
    ·exact q'.symm
    ·have:=ltB_trans (ha1.1 y q') (hb1.1 x q);rw [ltB_irrefl] at this;cases this
  subst hxy
  have nx:∀{l:List (List Bool)},(∀z∈l,ltB x z=true)→x ∉ l:=fun hl hm=>by
   have:=hl x hm;rw [ltB_irrefl] at this;cases this
  rw [srt_ext ha1.2 hb1.2 fun z=>?_];constructor
  ·intro hz;rcases List.mem_cons.1 ((h z).1 (by simp [hz])) with q | q
   ·subst q;exact absurd hz (nx ha1.1)
   ·exact q
  ·intro hz;rcases List.mem_cons.1 ((h z).2 (by simp [hz])) with q | q
   ·subst q;exact absurd hz (nx hb1.1)
   ·exact q
theorem srt_nodup {l:List (List Bool)} (h:SrtB l):l.Nodup:=List.Pairwise.imp (fun {a b} hab e=>by subst e;rw [ltB_irrefl] at hab;cases hab) h
theorem lvl_srt (r:Rl):∀k,SrtB (lvl r k)
 | 0=>srt_sortB _
 | _+1=>srt_sortB _
theorem lvl_init {r:Rl} {b:List Bool}:b∈lvl r 0↔b∈initsF r:=mem_sortB
theorem lvl_succ {r:Rl} {k:Nat} {b:List Bool}:b∈lvl r (k+1)↔∃a∈lvl r k,b∈succsF r k a:=by
 show b∈sortB _↔_;rw [mem_sortB,List.mem_flatMap]
theorem lvl_len {r:Rl} (hl:supF r.l=true) (hr:supF r.r=true):∀k b,b∈lvl r k→b.length=stN r
 | 0,b,h=>by
  obtain ⟨x,_,rfl⟩:=List.mem_map.1 (lvl_init.1 h);exact initF_len _ _
 | k+1,b,h=>by
  obtain ⟨a,ha,hb⟩:=lvl_succ.1 h;obtain ⟨x,_,rfl⟩:=List.mem_map.1 hb;exact succF_len hl hr k _ (lvl_len hl hr k a ha)
theorem lvl_ne (r:Rl):∀k,lvl r k≠[]
 | 0,h=>by
  have : initF (Nat.testBit 0) r∈lvl r 0:=lvl_init.2 (List.mem_map.2 ⟨0,List.mem_range.2 (Nat.two_pow_pos _),rfl⟩);rw [h] at this;cases this
 | k+1,h=>by
  obtain ⟨a,ha⟩:=List.exists_mem_of_ne_nil _ (lvl_ne r k);have : succF k (Nat.testBit 0) r a∈lvl r (k+1):=lvl_succ.2 ⟨a,ha,List.mem_map.2 ⟨0,List.mem_range.2 (Nat.two_pow_pos _),rfl⟩⟩;rw [h] at this;cases this
theorem mem_lvls {r:Rl} {n k:Nat} {b:List Bool}:(k,b)∈lvls r n↔k<n∧b∈lvl r k:=by
 unfold lvls;simp only [List.mem_flatMap,List.mem_range,List.mem_map,Prod.mk.injEq];constructor
 ·rintro ⟨k',h1,b',h2,rfl,rfl⟩;exact ⟨h1,h2⟩
 ·rintro ⟨h1,h2⟩;exact ⟨k,h1,b,h2,rfl,rfl⟩
theorem lvls_succ (r:Rl) (n:Nat):lvls r (n+1)=lvls r n++(lvl r n).map fun b=>(n,b):=by unfold lvls;rw [List.range_succ,List.flatMap_append];simp
theorem lvls_mono (r:Rl) {m n:Nat} (h:m≤n):(lvls r m).length≤(lvls r n).length:=by
 induction n with
 | zero=>
  have : m=0:=by omega
  subst this
  exact Nat.le_refl _
 | succ n ih =>
  rcases Nat.lt_or_ge n m with q | q
  ·have : m=n+1:=by omega
   subst this;exact Nat.le_refl _
  ·have:=ih q;rw [lvls_succ,List.length_append];omega
structure AS where
 at_:Int
 bits:Bs
deriving DecidableEq
def bbit (b:Bool):UInt8:=if b then 1 else 0
def ubit (x:UInt8):Bool:=x==1
theorem ubit_bbit (b:Bool):ubit (bbit b)=b:=by cases b <;> rfl
theorem bbit_ubit {x:UInt8} (h:x.toNat≤1):bbit (ubit x)=x:=by
 have : x=0∨x=1:=by
  have : x.toNat=0∨x.toNat=1:=by omega
  rcases this with h | h
  ·exact .inl (UInt8.toNat_inj.1 h)
  ·exact .inr (UInt8.toNat_inj.1 h)
 rcases this with h | h <;> subst h <;> rfl
def bbs (l:List Bool):Bs:=l.map bbit
def ubs (l:Bs):List Bool:=l.map ubit
theorem ubs_bbs (l:List Bool):ubs (bbs l)=l:=by unfold ubs bbs;rw [List.map_map];exact (List.map_congr_left fun x _=>ubit_bbit x).trans (List.map_id l)
theorem bbs_inj {a b:List Bool} (h:bbs a=bbs b):a=b:=by rw [←ubs_bbs a,h,ubs_bbs]
theorem bbs_ubs {l:Bs} (h:∀x∈l,x.toNat≤1):bbs (ubs l)=l:=by unfold ubs bbs;rw [List.map_map];exact (List.map_congr_left fun x hx=>bbit_ubit (h x hx)).trans (List.map_id l)
def asE (x:Nat×List Bool):AS:=⟨x.1,bbs x.2⟩
def okS (r:Rl) (s:AS):Bool:=decide (0≤s.at_∧s.at_≤64∧s.bits.length=stN r)&&s.bits.all fun x=>decide (x.toNat≤1)
def nextS (r:Rl) (L:List AS) (s:AS):Bool:=if s.at_=64 then safeF r (ubs s.bits) else (succsF r s.at_.toNat (ubs s.bits)).all fun b=>decide (⟨s.at_+1,bbs b⟩∈L)
def chF (r:Rl) (L:List AS):Bool:=applF r&&decide (L.length≤4096)&&L.all (okS r)&&((initsF r).all fun b=>decide (⟨0,bbs b⟩∈L))&&L.all (nextS r L)
theorem chF_iff {r:Rl} {L:List AS}:chF r L=true↔applF r=true∧L.length≤4096∧(∀s∈L,okS r s=true)∧(∀b∈initsF r,(⟨0,bbs b⟩:AS)∈L)∧∀s∈L,nextS r L s=true:=by
 unfold chF;simp only [Bool.and_eq_true,decide_eq_true_eq,List.all_eq_true];constructor
 ·rintro ⟨⟨⟨⟨h1,h2⟩,h3⟩,h4⟩,h5⟩;exact ⟨h1,h2,h3,h4,h5⟩
 ·rintro ⟨h1,h2,h3,h4,h5⟩;exact ⟨⟨⟨⟨h1,h2⟩,h3⟩,h4⟩,h5⟩
theorem nextS_lt {r:Rl} {L:List AS} {k:Nat} (hk:k<64) {b:List Bool}:nextS r L ⟨k,bbs b⟩=true↔∀b'∈succsF r k b,(⟨(k:Int)+1,bbs b'⟩:AS)∈L:=by
 unfold nextS;rw [if_neg (by show ¬(k:Int)=64;omega),List.all_eq_true];simp only [decide_eq_true_eq,ubs_bbs,Int.toNat_natCast]
theorem nextS_end {r:Rl} {L:List AS} {b:List Bool}:nextS r L ⟨64,bbs b⟩=safeF r b:=by
 unfold nextS;rw [if_pos rfl,ubs_bbs]
theorem autF_some {r:Rl} {l:List (Nat×List Bool)}:autF r=some l↔applF r=true∧(lvls r 65).length≤4096∧(∀b∈lvl r 64,safeF r b=true)∧l=lvls r 65:=by
 unfold autF;rw [←List.all_eq_true];constructor
 ·intro h
  split at h
  ·rename_i hc;injection h with h
   exact ⟨hc.1,hc.2.1,hc.2.2,h.symm⟩
  ·cases h
 ·rintro ⟨h1,h2,h3,rfl⟩;rw [if_pos ⟨h1,h2,h3⟩]
theorem applF_sup {r:Rl} (h:applF r=true):supF r.l=true∧supF r.r=true:=by
 unfold applF at h;simp only [Bool.and_eq_true,decide_eq_true_eq] at h;exact ⟨h.1.1.1.2,h.1.1.2⟩
theorem ch_aut {r:Rl} {l:List (Nat×List Bool)} (h:autF r=some l) {M:List (Nat×List Bool)} (hM:∀x,x∈M↔x∈l) (hlen:M.length≤4096):chF r (M.map asE)=true:=by
 obtain ⟨h1,_,h3,rfl⟩:=autF_some.1 h;obtain ⟨s1,s2⟩:=applF_sup h1;have hin:∀k b,k<65→b∈lvl r k→(⟨(k:Int),bbs b⟩:AS)∈M.map asE:=fun k b hk hb=>List.mem_map.2 ⟨(k,b),(hM _).2 (mem_lvls.2 ⟨hk,hb⟩),rfl⟩
 have hout:∀s∈M.map asE,∃k b,k<65∧b∈lvl r k∧s=⟨(k:Int),bbs b⟩:=fun s hs=>by
  obtain ⟨⟨k,b⟩,hx,rfl⟩:=List.mem_map.1 hs;obtain ⟨q1,q2⟩:=mem_lvls.1 ((hM _).1 hx);exact ⟨k,b,q1,q2,rfl⟩
 refine chF_iff.2 ⟨h1,by rw [List.length_map];exact hlen,fun s hs=>?_,fun b hb=>hin 0 b (by decide) (lvl_init.2 hb),fun s hs=>?_⟩
 ·obtain ⟨k,b,hk,hb,rfl⟩:=hout s hs;unfold okS;rw [Bool.and_eq_true,decide_eq_true_iff,List.all_eq_true];refine ⟨⟨by show (0:Int)≤k;omega,by show (k:Int)≤64;omega,by show (bbs b).length=_;unfold bbs;rw [List.length_map];exact lvl_len s1 s2 k b hb⟩,fun x hx=>?_⟩
  obtain ⟨y,_,rfl⟩:=List.mem_map.1 hx;cases y <;> rfl
 ·obtain ⟨k,b,hk,hb,rfl⟩:=hout s hs;rcases Nat.lt_or_ge k 64 with hk2 | hk2
  ·exact (nextS_lt hk2).2 fun b' hb'=>hin (k+1) b' (by omega) (lvl_succ.2 ⟨b,hb,hb'⟩)
  ·obtain rfl:k=64:=by omega
   exact nextS_end.trans (h3 b hb)
end Go.Proofs.Ytdbjgihnngigeaa
namespace Go.Proofs.Ytdbjgihnngigeaa
def Mild {α:Type}:Sem α→Prop
 | .pure _=>True
 | .load _ _ k=>∀v,Mild (k v)
 | .store ..=>False
 | .new _ k=>∀r,Mild (k r)
 | .shape _ k=>∀s,Mild (k s)
 | .freeze ..=>False
 | .frozen _ k=>∀b,Mild (k b)
 | .getObj _ k=>∀o,Mild (k o)
 | .setObj ..=>False
 | .choose _ k=>∀n,Mild (k n)
 | .sys ..=>False
 | .program k=>∀p,Mild (k p)
 | .mark _ k=>Mild k
 | .halt _=>True
theorem Mild.bind_ {α β:Type} {f:α→Sem β} (hf:∀a,Mild (f a)):∀(s:Sem α),Mild s→Mild (s.bind f)
 | .pure a,_=>hf a
 | .load _ _ k,h=>fun v=>Mild.bind_ hf (k v) (h v)
 | .new _ k,h=>fun v=>Mild.bind_ hf (k v) (h v)
 | .shape _ k,h=>fun v=>Mild.bind_ hf (k v) (h v)
 | .frozen _ k,h=>fun v=>Mild.bind_ hf (k v) (h v)
 | .getObj _ k,h=>fun v=>Mild.bind_ hf (k v) (h v)
 | .choose _ k,h=>fun v=>Mild.bind_ hf (k v) (h v)
 | .program k,h=>fun v=>Mild.bind_ hf (k v) (h v)
 | .mark _ k,h=>Mild.bind_ hf k h
 | .halt _,_=>trivial
 | .store ..,h=>h.elim
 | .freeze ..,h=>h.elim
 | .setObj ..,h=>h.elim
 | .sys ..,h=>h.elim
theorem Mild.bind {α β:Type} {s:Sem α} {f:α→Sem β} (hs:Mild s) (hf:∀a,Mild (f a)):Mild (s >>= f):=Mild.bind_ hf s hs
structure Calmly (R:World→Prop):Prop where
 alloc:∀w o,R w→R (w.alloc o)
 draw:∀w:World,R w→R { w with drawn:=w.drawn+1 }
theorem Mild.run {α:Type} {P:Program} {R:World→Prop} (hR:Calmly R):∀(s:Sem α) (w:World),Mild s→R w→∀a w',s.run P w=.ok a w'→R w'
 | .pure _,w,_,h,a,w',e=>by simp only [Sem.run] at e;cases e;exact h
 | .load m p k,w,hm,h,a,w',e=>by
  simp only [Sem.run] at e
  split at e
  ·exact Mild.run hR _ w (hm _) h a w' e
  ·split at e
   ·exact Mild.run hR _ w (hm _) h a w' e
   ·cases e
 | .new o k,w,hm,h,a,w',e=>by
  simp only [Sem.run] at e;exact Mild.run hR (k w.heap.size) _ (hm _) (hR.alloc w o h) a w' e
 | .shape r k,w,hm,h,a,w',e=>by simp only [Sem.run] at e;exact Mild.run hR _ w (hm _) h a w' e
 | .frozen r k,w,hm,h,a,w',e=>by simp only [Sem.run] at e;exact Mild.run hR _ w (hm _) h a w' e
 | .getObj r k,w,hm,h,a,w',e=>by
  simp only [Sem.run] at e
  split at e
  ·cases e
  ·exact Mild.run hR _ w (hm _) h a w' e
  ·cases e
 | .choose q k,w,hm,h,a,w',e=>by
  simp only [Sem.run] at e
  split at e
  ·exact Mild.run hR _ w (hm _) h a w' e
  ·exact Mild.run hR _ _ (hm _) (hR.draw w h) a w' e
 | .program k,w,hm,h,a,w',e=>by simp only [Sem.run] at e;exact Mild.run hR _ w (hm _) h a w' e
 | .mark _ k,w,hm,h,a,w',e=>by simp only [Sem.run] at e;exact Mild.run hR k w hm h a w' e
 | .halt _,w,_,h,a,w',e=>by simp only [Sem.run] at e;cases e
 | .store ..,_,h,_,_,_,_=>h.elim
 | .freeze ..,_,h,_,_,_,_=>h.elim
 | .setObj ..,_,h,_,_,_,_=>h.elim
 | .sys ..,_,h,_,_,_,_=>h.elim
theorem Mild.underlying (t:TypeId):Mild (Go.underlying t):=by unfold Go.underlying;exact Mild.bind (fun _=>trivial) (fun _=>by split <;> trivial)
theorem Mild.typeInfo (t:TypeId):Mild (Go.typeInfo t):=by unfold Go.typeInfo;exact Mild.bind (fun _=>trivial) (fun _=>by split <;> trivial)
theorem Mild.sizeOf (t:TypeId):Mild (Go.sizeOf t):=by unfold Go.sizeOf;exact Mild.bind (Mild.typeInfo t) (fun _=>trivial)
theorem Mild.isAgg (t:TypeId):Mild (Go.isAgg t):=by unfold Go.isAgg;exact Mild.bind (Mild.underlying t) (fun _=>by split <;> trivial)
theorem Mild.load (a:Addr):Mild (load a):=fun _=>trivial
theorem Mild.loadCellsFrom (a:Addr):∀(n i:Nat) (acc:Array Value),Mild (loadCellsFrom a i n acc)
 | 0,_,_=>trivial
 | n+1,i,acc=>by unfold Go.loadCellsFrom;exact Mild.bind (Mild.load _) (fun _=>Mild.loadCellsFrom a n _ _)
theorem Mild.loadVar (t:TypeId) (a:Addr):Mild (loadVar t a):=by
 unfold Go.loadVar;refine Mild.bind (Mild.isAgg t) (fun b=>?_)
 cases b with
 | true=>exact Mild.bind (Mild.sizeOf t) (fun _=>Mild.bind (Mild.loadCellsFrom _ _ _ _) (fun _=>trivial))
 | false=>exact Mild.load a
theorem Mild.sureAddr (v:Value):Mild (Instr.sureAddr v):=by unfold Instr.sureAddr;split <;> trivial
theorem Mild.loadAt (t:TypeId) (v:Value):Mild (Instr.loadAt t v):=by unfold Instr.loadAt;exact Mild.bind (Mild.sureAddr v) (fun _=>Mild.loadVar t _)
theorem Mild.choose (q:Question):Mild (Go.choose q):=fun _=>trivial
theorem Mild.map {α β:Type} {f:α→β} {s:Sem α} (h:Mild s):Mild (f <$> s):=by
 show Mild (s.bind (fun a=>Sem.pure (f a)));exact Mild.bind_ (f:=fun a=>Sem.pure (f a)) (fun _=>True.intro) s h
theorem Mild.runtimePanic {α:Type} (e:RuntimeError):Mild (Go.runtimePanic (α:=α) e):=by
 unfold Go.runtimePanic;refine Mild.bind (fun _=>trivial) (fun _=>?_);dsimp only
 repeat' (first | exact trivial | exact (fun _=>trivial) | refine Mild.bind ?_ (fun _=>?_) | split)
theorem Mild.boundsPanic {α:Type} (k:IntKind) (x y:Int) (c:BoundsCode):Mild (Go.boundsPanic (α:=α) k x y c):=by
 unfold Go.boundsPanic;dsimp only
 split
 ·exact Mild.bind (Mild.map (Mild.choose _)) (fun _=>Mild.runtimePanic _)
 ·exact Mild.bind (s:=pure _) trivial (fun _=>Mild.runtimePanic _)
theorem Mild.asIntOf (v:Value):Mild (Go.asIntOf v):=by unfold Go.asIntOf;split <;> trivial
theorem Mild.asBool (v:Value):Mild (Go.asBool v):=by unfold Go.asBool;split <;> trivial
theorem Mild.asAddr (v:Value):Mild (Go.asAddr v):=by unfold Go.asAddr;split <;> first | trivial | exact Mild.runtimePanic _
theorem Mild.sliceBound (x:Value) (y:Nat) (c:BoundsCode):Mild (Instr.sliceBound x y c):=by
 unfold Instr.sliceBound;refine Mild.bind (Mild.asIntOf x) (fun _=>?_);dsimp only
 split
 ·exact trivial
 ·exact Mild.boundsPanic _ _ _ _
theorem Mild.sliceBounds (b:Bool) (l c:Nat) (x y z:Option Value):Mild (Instr.sliceBounds b l c x y z):=by
 unfold Instr.sliceBounds
 repeat' (first | exact trivial | exact Mild.sliceBound _ _ _ | refine Mild.bind ?_ (fun _=>?_) | split)
theorem Mild.slice (t:TypeId) (v:Value) (x y z:Option Value):Mild (Instr.slice t v x y z):=by
 unfold Instr.slice
 repeat' (first | exact trivial | exact Mild.underlying _ | exact Mild.sizeOf _ | exact Mild.asAddr _ | exact Mild.sliceBounds _ _ _ _ _ _ | refine Mild.bind ?_ (fun _=>?_) | split)
theorem Mild.sliceAt (t:TypeId) (v:Value) (x y z:Option Value):Mild (Instr.sliceAt t v x y z):=by
 unfold Instr.sliceAt
 repeat' (first | exact trivial | exact Mild.underlying _ | exact Mild.sizeOf _ | exact Mild.sureAddr _ | exact Mild.sliceBounds _ _ _ _ _ _ | exact Mild.slice _ _ _ _ _ | refine Mild.bind ?_ (fun _=>?_) | split)
theorem Mild.len_ (a:Array TypeId) (t:TypeId) (args:Array Value):Mild (Builtin.len_ a t args):=by
 unfold Builtin.len_
 repeat' (first | exact trivial | exact Mild.underlying _ | exact (fun _=>trivial) | refine Mild.bind ?_ (fun _=>?_) | split)
theorem Mild.stringOp (o:BinOp) (x y:ByteArray):Mild (Op.stringOp o x y):=by
 unfold Op.stringOp;dsimp only
 repeat' (first | exact trivial | split)
theorem Mild.min2 (x y:Value):Mild (Builtin.min2 x y):=by
 unfold Builtin.min2
 repeat' (first | exact trivial | exact Mild.choose _ | exact Mild.stringOp _ _ _ | exact Mild.asBool _ | refine Mild.bind ?_ (fun _=>?_) | split)
theorem Mild.foldlM {α β:Type} {f:β→α→Sem β} (h:∀b a,Mild (f b a)):∀(l:List α) (b:β),Mild (l.foldlM f b)
 | [],_=>trivial
 | a::l,b=>by rw [List.foldlM_cons];exact Mild.bind (h b a) (fun c=>Mild.foldlM h l c)
theorem Mild.min_ (a:Array TypeId) (t:TypeId) (args:Array Value):Mild (Builtin.min_ a t args):=by
 unfold Builtin.min_
 split
 ·exact trivial
 ·exact Mild.foldlM (fun _ _=>Mild.min2 _ _) _ _
theorem Mild.indexAt (t:TypeId) (x v:Value):Mild (Instr.indexAt t x v):=by
 unfold Instr.indexAt
 repeat' (first | exact trivial | exact Mild.underlying _ | exact Mild.sizeOf _ | exact Mild.asIntOf _ | exact Mild.sureAddr _ | exact Mild.boundsPanic _ _ _ _ | refine Mild.bind ?_ (fun _=>?_) | split | dsimp only)
theorem Mild.zeroValue (t:TypeId):Mild (Go.zeroValue t):=by unfold Go.zeroValue;exact Mild.bind (Mild.typeInfo t) (fun _=>by split <;> trivial)
theorem Mild.newRow (t:TypeId) (cs:Array Value):Mild (Go.newRow t cs):=Mild.bind (fun _=>trivial) (fun _=>trivial)
theorem Mild.box (t:TypeId) (v:Value):Mild (Instr.box t v):=Mild.bind (Mild.newRow _ _) (fun _=>trivial)
theorem Mild.alloc (t:TypeId):Mild (Instr.alloc t true (.tuple #[])):=Mild.bind (Mild.zeroValue t) (fun _=>Mild.bind (Mild.newRow _ _) (fun _=>trivial))
theorem Mild.buildSlice (t:TypeId) (n:Nat) (ps:Array (Nat×Value)):Mild (Instr.buildSlice t n ps):=by
 unfold Instr.buildSlice
 repeat' (first | exact trivial | exact Mild.underlying _ | exact Mild.sizeOf _ | exact Mild.zeroValue _ | exact Mild.newRow _ _ | refine Mild.bind ?_ (fun _=>?_) | split | dsimp only)
def MildOp (o:Oper):Prop:=∀ev,∃s:Sem Value,Mild s∧execOp ev o=s.bind (fun a=>.pure (.value a))
def mildB:Op→Bool
 | .move _=>true
 | .assign _=>true
 | .load ..=>true
 | .slice ..=>true
 | .indexAddr ..=>true
 | .buildSlice ..=>true
 | .box ..=>true
 | .alloc ..=>true
 | .call { callee:=.builtin .len,.. }=>true
 | .call { callee:=.builtin .min,.. }=>true
 | _=>false
theorem mildB_spec {o:Oper} (h:mildB o.op=true):MildOp o:=by
 obtain ⟨d,op,_,_,_,_⟩:=o;intro ev;dsimp only at h
 cases op with
 | move x=>exact ⟨.pure (ev x),trivial,rfl⟩
 | assign x=>exact ⟨.pure (ev x),trivial,rfl⟩
 | load t a=>exact ⟨_,Mild.loadAt t (ev a),rfl⟩
 | slice t x lo hi mx=>exact ⟨_,Mild.sliceAt _ _ _ _ _,rfl⟩
 | indexAddr t x i=>exact ⟨_,Mild.indexAt _ _ _,rfl⟩
 | buildSlice t n ps=>exact ⟨_,Mild.buildSlice _ _ _,rfl⟩
 | box t x=>exact ⟨_,Mild.box _ _,rfl⟩
 | alloc t=>exact ⟨_,Mild.alloc _,rfl⟩
 | call c =>
  obtain ⟨cl,ar,ty⟩:=c
  cases cl with
  | builtin b=>cases b with
   | len=>exact ⟨_,Mild.len_ _ _ _,rfl⟩
   | min=>exact ⟨_,Mild.min_ _ _ _,rfl⟩
   | _=>cases h
  | _=>cases h
 | _=>cases h
section
variable {P:Program} {ops:Array Oper} {Q:Exit→Act→World→Prop} {md:Region.Mode} {S R:World→Prop}
theorem wpOp_mild (hR:Calmly R) {j:Nat} {oj:Oper} (hj:ops[j]?=some oj) (hm:MildOp oj) {K:Act→World→Prop} {a:Act} {w:World} (hRw:R w) (h:wpOp P ops Q j K a w):wpOp P ops Q j (fun a' w'=>R w'∧K a' w') a w:=by
 unfold wpOp at *;simp only [hj] at *
 split
 ·rename_i hw;simp only [hw,if_true] at h;rcases h with h | h
  ·left
   unfold Oper.wp at *;obtain ⟨s,hs,he⟩:=hm a.eval;have hr:(execOp a.eval oj).run P w=(s.run P w).andThen (fun v w'=>.ok (.value v) w'):=by rw [he];exact Sem.run_bind P w s _
   rw [hr] at h ⊢
   cases e:s.run P w with
   | ok v w'=>rw [e] at h;exact ⟨Mild.run hR s w hs hRw v w' e,h⟩
   | halt x w'=>rw [e] at h;cases x <;> exact h
  ·exact .inr h
 ·rename_i hw;simp only [hw] at h;exact ⟨hRw,h⟩
def keptB (md:Region.Mode) (ops:Array Oper) (listed:Array Bool) (i:Nat) (B:List Nat):Bool :=
 (B.all fun j=>!listed.getD j true&&!(j==i))&&(List.range ops.size).all fun j=>j==i || listed.getD j true || match ops[j]? with
  | some o=>if B.contains j then o.after.any (fun e=>Region.binds md e&&(e.on==i || B.contains e.on)) else mildB o.op
  | none=>true
theorem first_mild (hR:Calmly R) {B:List Nat} {i:Nat} {oi:Oper} {v:Value} (hi:ops[i]?=some oi) (hsel:∀(j:Nat) (o:Oper) cs b,ops[j]?=some o→o.op≠.select cs b)
  (hQ:∀c a w,Q (.panic c) (a.put oi.dst v) w→Q (.panic c) a w) (hB2:∀j∈B,∀oj,ops[j]?=some oj→∃e∈oj.after,Region.binds md e=true∧(e.on=i∨e.on∈B)) :
  ∀(fuel:Nat) (listed:Array Bool) (a:Act) (w:World),
   (∀j oj,ops[j]?=some oj→j≠i→listed.getD j true=false→(∀e∈oj.after,Region.binds md e=true→e.on≠i)→oi.apart ops oj=true) →
   (∀j oj,ops[j]?=some oj→j≠i→listed.getD j true=false→j ∉ B→MildOp oj)→(∀j∈B,listed.getD j true=false) →
   i∈Region.ready md ops listed→YieldsIf P ops R oi v a→R w→S w →
   wpAnyH P md ops Q S fuel (listed.setIfInBounds i true) (a.put oi.dst v) w→wpAnyH P md ops Q S (fuel+1) listed a w:=by
 intro fuel
 induction fuel with
 | zero =>
  intro listed a w _ _ _ hr hy hRw hS H;refine ⟨fun h=>(by rw [h] at hr;cases hr),fun j hj=>?_⟩;by_cases hji:j=i
  ·subst hji;exact hy.wpOp hi hRw ⟨hS,H⟩
  ·have:=ready_mono hj hji;rw [H.1] at this;cases this
 | succ fuel ih =>
  intro listed a w hfree hmild hB1 hr hy hRw hS H;refine ⟨fun h=>(by rw [h] at hr;cases hr),fun j hj=>?_⟩;by_cases hji:j=i
  ·subst hji;exact hy.wpOp hi hRw ⟨hS,H⟩
  ·have h1:=H.2 j (ready_mono hj hji);obtain ⟨hjun,oj,hoj,hall⟩:=mem_ready.1 hj;have hi0:=(mem_ready.1 hr).1
   have hoff:∀k,listed.getD k true=false→listed.getD k false=true→False:=fun k h0 h1=>by
    rcases Nat.lt_or_ge k listed.size with q | q
    ·simp [q] at h0 h1;rw [h0] at h1;cases h1
    ·simp [Array.getElem?_eq_none q] at h1
   have hnot:∀e∈oj.after,Region.binds md e=true→e.on≠i:=fun e he hb heq=>hoff i hi0 (by rw [←heq];exact hall e he hb)
   have hjB:j ∉ B:=fun hB=>by
    obtain ⟨e,he,hb,q | q⟩:=hB2 j hB oj hoj
    ·exact hnot e he hb q
    ·exact hoff _ (hB1 _ q) (hall e he hb)
   have h2:=wpOp_mild hR hoj (hmild j oj hoj hji hjun hjB) hRw (wpOp_putIf hoj (hfree j oj hoj hji hjun hnot) (fun cs b=>hsel i oi cs b hi) (fun cs b=>hsel j oj cs b hoj) hQ hy h1)
   have un:∀k,k≠i→(listed.setIfInBounds j true).getD k true=false→listed.getD k true=false:=fun k _ hun=>by
    by_cases hjk:j=k
    ·subst hjk;exact hjun
    ·rw [getD_set_ne true hjk] at hun;exact hun
   refine wpOp_mono (fun a' w' h3=>⟨h3.2.2.1,ih (listed.setIfInBounds j true) a' w' (fun k ok hk hki hun hno=>hfree k ok hk hki (un k hki hun) hno) (fun k ok hk hki hun hkB=>hmild k ok hk hki (un k hki hun) hkB) (fun k hk=>?_) (ready_mono hr (Ne.symm hji)) h3.2.1 h3.1 h3.2.2.1 ?_⟩) h2
   ·rw [getD_set_ne true (fun e=>hjB (by rw [e];exact hk))];exact hB1 k hk
   ·rw [Array.setIfInBounds_comm _ _ hji];exact h3.2.2.2
theorem wpAnyH_takeM (R:World→Prop) (hR:Calmly R) (B:List Nat) {i:Nat} {oi:Oper} {v:Value} {fuel:Nat} {listed:Array Bool} {a:Act} {w:World} (hi:ops[i]?=some oi)
  (hs:Region.noSelect ops=true) (hf:Region.free md ops listed i=true) (hb:keptB md ops listed i B=true) (hr:(Region.ready md ops listed).contains i=true)
  (hQ:∀c a w,Q (.panic c) (a.put oi.dst v) w→Q (.panic c) a w) (hy:YieldsIf P ops R oi v a) (hRw:R w) (hS:S w)
  (h:wpAnyH P md ops Q S fuel (listed.setIfInBounds i true) (a.put oi.dst v) w):wpAnyH P md ops Q S (fuel+1) listed a w:=by
 simp only [keptB,Bool.and_eq_true,List.all_eq_true,Bool.not_eq_true',List.mem_range,beq_eq_false_iff_ne] at hb;obtain ⟨b0,b2⟩:=hb;have b1:∀j∈B,listed.getD j true=false:=fun j hj=>(b0 j hj).1
 refine first_mild hR hi (Region.noSelect_spec hs) hQ (fun j hj oj hoj=>?_) fuel listed a w (Region.free_spec hi hf) (fun j oj hoj hji hun hjB=>?_) b1 (by simpa using hr) hy hRw hS h
 ·have:=b2 j (Array.getElem?_eq_some_iff.1 hoj).1;rw [hoj,b1 j hj] at this;simp only [Bool.or_false,Bool.or_eq_true,beq_iff_eq,(b0 j hj).2,false_or] at this;rw [if_pos (by simpa using hj)] at this;obtain ⟨e,he,hb⟩:=Array.any_eq_true'.1 this;simp only [Bool.and_eq_true,Bool.or_eq_true,beq_iff_eq] at hb;exact ⟨e,he,hb.1,hb.2.imp id (fun q=>by simpa using q)⟩
 ·have:=b2 j (Array.getElem?_eq_some_iff.1 hoj).1;rw [hoj,hun] at this;simp only [Bool.or_false,Bool.or_eq_true,beq_iff_eq,hji,false_or] at this;rw [if_neg (by simpa using hjB)] at this;exact mildB_spec this
end
theorem calm_cell (p:Addr) (v:Value):Calmly (fun w=>w.cell? p=some v) :=
 ⟨fun w o h=>by rw [World.cell?_alloc_lt _ _ _ (World.block_lt_of_cell? w p h)];exact h,fun _ h=>h⟩
end Go.Proofs.Ytdbjgihnngigeaa
