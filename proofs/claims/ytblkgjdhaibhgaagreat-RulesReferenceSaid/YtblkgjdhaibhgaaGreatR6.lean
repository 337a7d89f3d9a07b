/-
  Lemmas and walks that the claim rests on, part 6 (packed by a program).
-/
import Derived.Test.YtblkgjdhaibhgaaGreatR1
import Derived.Test.YtblkgjdhaibhgaaGreatR5
import Derived.Test.YtblkgjdhaibhgaaGreatR3
import Derived.Lib.AppendStr
namespace Go.Proofs.YtblkgjdhaibhgaaGreat
open Go.RowKit
def set14 (w:World) (g:Nat) (a b c d e f g1 h i j k l m n:Value):World:=(((((((((set5 w g a b c d e).setCell ⟨g,5,none⟩ f).setCell ⟨g,6,none⟩ g1).setCell ⟨g,7,none⟩ h).setCell ⟨g,8,none⟩ i).setCell ⟨g,9,none⟩ j).setCell ⟨g,10,none⟩ k).setCell ⟨g,11,none⟩ l).setCell ⟨g,12,none⟩ m).setCell ⟨g,13,none⟩ n
theorem set14_blk {w:World} {g:Nat} {t:TypeId} {x0 x1 x2 x3 x4 x5 x6 x7 x8 x9 x10 x11 x12 x13:Value} (h:Blk w g t #[x0,x1,x2,x3,x4,x5,x6,x7,x8,x9,x10,x11,x12,x13]) (a b c d e f g1 i j k l m n o:Value):Blk (set14 w g a b c d e f g1 i j k l m n o) g t #[a,b,c,d,e,f,g1,i,j,k,l,m,n,o]:=by
 unfold set14 set5
 simpa using (((((((((((((h.set_ 0 a).set_ 1 b).set_ 2 c).set_ 3 d).set_ 4 e).set_ 5 f).set_ 6 g1).set_ 7 i).set_ 8 j).set_ 9 k).set_ 10 l).set_ 11 m).set_ 12 n).set_ 13 o
theorem set14_upd (w:World) (g:Nat) (a b c d e f g1 i j k l m n o:Value):Upd (·=g) w (set14 w g a b c d e f g1 i j k l m n o):=by
 have s:∀(w:World) (i:Nat) (v:Value),Upd (·=g) w (w.setCell ⟨g,i,none⟩ v):=fun w i v=>updCell _ _ _ _
 have t:∀{a b c:World},Upd (·=g) a b→Upd (·=g) b c→Upd (·=g) a c:=fun h k=>h.trans k (fun _ _ h=>h)
 exact t (t (t (t (t (t (t (t (t (set5_upd _ _ _ _ _ _ _) (s _ _ _)) (s _ _ _)) (s _ _ _)) (s _ _ _)) (s _ _ _)) (s _ _ _)) (s _ _ _)) (s _ _ _)) (s _ _ _)
theorem set14_eq (w:World) (g:Nat) (a b c d e f g1 h i j k l m n:Value):(((((((((((((w.setCell ⟨g,0,none⟩ a).setCell ⟨g,1,none⟩ b).setCell ⟨g,2,none⟩ c).setCell ⟨g,3,none⟩ d).setCell ⟨g,4,none⟩ e).setCell ⟨g,5,none⟩ f).setCell ⟨g,6,none⟩ g1).setCell ⟨g,7,none⟩ h).setCell ⟨g,8,none⟩ i).setCell ⟨g,9,none⟩ j).setCell ⟨g,10,none⟩ k).setCell ⟨g,11,none⟩ l).setCell ⟨g,12,none⟩ m).setCell ⟨g,13,none⟩ n=set14 w g a b c d e f g1 h i j k l m n:=rfl
def setRt (w:World) (g:Nat) (a b c d e:Value):World:=((((w.setCell ⟨g,6,none⟩ a).setCell ⟨g,7,none⟩ b).setCell ⟨g,8,none⟩ c).setCell ⟨g,9,none⟩ d).setCell ⟨g,10,none⟩ e
theorem setRt_blk {w:World} {g:Nat} {t:TypeId} {x0 x1 x2 x3 x4 x5 x6 x7 x8 x9 x10 x11 x12 x13:Value} (h:Blk w g t #[x0,x1,x2,x3,x4,x5,x6,x7,x8,x9,x10,x11,x12,x13]) (a b c d e:Value):Blk (setRt w g a b c d e) g t #[x0,x1,x2,x3,x4,x5,a,b,c,d,e,x11,x12,x13]:=by
 unfold setRt
 simpa using ((((h.set_ 6 a).set_ 7 b).set_ 8 c).set_ 9 d).set_ 10 e
theorem setRt_upd (w:World) (g:Nat) (a b c d e:Value):Upd (·=g) w (setRt w g a b c d e):=by
 have s:∀(w:World) (i:Nat) (v:Value),Upd (·=g) w (w.setCell ⟨g,i,none⟩ v):=fun w i v=>updCell _ _ _ _
 have t:∀{a b c:World},Upd (·=g) a b→Upd (·=g) b c→Upd (·=g) a c:=fun h k=>h.trans k (fun _ _ h=>h)
 exact t (t (t (t (s _ _ _) (s _ _ _)) (s _ _ _)) (s _ _ _)) (s _ _ _)
theorem setRt_eq (w:World) (g:Nat) (a b c d e:Value):((((w.setCell ⟨g,6,none⟩ a).setCell ⟨g,7,none⟩ b).setCell ⟨g,8,none⟩ c).setCell ⟨g,9,none⟩ d).setCell ⟨g,10,none⟩ e=setRt w g a b c d e:=rfl
theorem results_cell_cell_tmp {P:Program} {fn:Func} {p q u:Tmp} {ty ty2:TypeId} (h:fn.results=#[.cell p ty,.cell q ty2,.tmp u]) (tmps:Array Value) (w:World) (g:Nat) (t:TypeId) (cs:Array Value) (fr:Nat×Nat) (d:TypeDesc) (g2:Nat) (t2:TypeId) (cs2:Array Value) (fr2:Nat×Nat) (d2:TypeDesc)
  (hp:tmps.getD p undef=.pointer (some ⟨g,0,none⟩)) (hg:w.heap[g]?=some (.cells cs t fr))
  (hu:P.underlying ty=some d) (hd:(match d with | .struct _ | .array _ _=>true | _=>false)=true) (hi:(P.info? ty).map (·.size)=some cs.size)
  (hp2:tmps.getD q undef=.pointer (some ⟨g2,0,none⟩)) (hg2:w.heap[g2]?=some (.cells cs2 t2 fr2))
  (hu2:P.underlying ty2=some d2) (hd2:(match d2 with | .struct _ | .array _ _=>true | _=>false)=true) (hi2:(P.info? ty2).map (·.size)=some cs2.size) :
  (results fn tmps).run P w=.ok (.tuple #[.agg cs,.agg cs2,tmps.getD u undef]) w:=by
 have hp':tmps[p]?.getD undef=.pointer (some ⟨g,0,none⟩):=by simpa using hp
 have hp2':tmps[q]?.getD undef=.pointer (some ⟨g2,0,none⟩):=by simpa using hp2
 simp [results,h,hp',hp2',asAddr,run_loadVar_row w g t ty cs fr d hg hu hd hi,run_loadVar_row w g2 t2 ty2 cs2 fr2 d2 hg2 hu2 hd2 hi2,Result.andThen]
def setLf (w:World) (g:Nat) (a b c d e:Value):World:=((((w.setCell ⟨g,1,none⟩ a).setCell ⟨g,2,none⟩ b).setCell ⟨g,3,none⟩ c).setCell ⟨g,4,none⟩ d).setCell ⟨g,5,none⟩ e
theorem setLf_blk {w:World} {g:Nat} {t:TypeId} {x0 x1 x2 x3 x4 x5 x6 x7 x8 x9 x10 x11 x12 x13:Value} (h:Blk w g t #[x0,x1,x2,x3,x4,x5,x6,x7,x8,x9,x10,x11,x12,x13]) (a b c d e:Value):Blk (setLf w g a b c d e) g t #[x0,a,b,c,d,e,x6,x7,x8,x9,x10,x11,x12,x13]:=by
 unfold setLf
 simpa using ((((h.set_ 1 a).set_ 2 b).set_ 3 c).set_ 4 d).set_ 5 e
theorem setLf_upd (w:World) (g:Nat) (a b c d e:Value):Upd (·=g) w (setLf w g a b c d e):=by
 have s:∀(w:World) (i:Nat) (v:Value),Upd (·=g) w (w.setCell ⟨g,i,none⟩ v):=fun w i v=>updCell _ _ _ _
 have t:∀{a b c:World},Upd (·=g) a b→Upd (·=g) b c→Upd (·=g) a c:=fun h k=>h.trans k (fun _ _ h=>h)
 exact t (t (t (t (s _ _ _) (s _ _ _)) (s _ _ _)) (s _ _ _)) (s _ _ _)
theorem setLf_eq (w:World) (g:Nat) (a b c d e:Value):((((w.setCell ⟨g,1,none⟩ a).setCell ⟨g,2,none⟩ b).setCell ⟨g,3,none⟩ c).setCell ⟨g,4,none⟩ d).setCell ⟨g,5,none⟩ e=setLf w g a b c d e:=rfl
theorem exp_left_set (y:St) (L:List Tok) (s:Bs) (b:Bool):({ y with left:=b }:St).exp L s={ (y.exp L s) with left:=b }:=by
 unfold St.exp
 cases (y.why==0&&isT L y.i s) with
 | true=>rfl
 | false =>
  show ({ y with left:=b }:St).fail 2 (posT L y.i)={ (y.fail 2 (posT L y.i)) with left:=b };unfold St.fail
  by_cases h:y.why=0
  ·
   rw [if_pos h,if_pos h]
  ·
   rw [if_neg h,if_neg h]
def AxP (ax:Bs→Option Rl) (s:Bs) (w:World) (e:Ending) (w':World):Prop :=
 ∃(rl:Rl) (a:RlA) (b:Bool),e=.returned (.tuple #[rlv rl a,.bool b])∧RlK w' (fun k=>w.heap.size≤k) rl a∧Upd Non w w'∧(b=true→ax s=some rl)∧(b=false→ax s=none)
def ItemP (T:List (Bs×Nat)) (w:World) (p:Nat) (A:Option Addr) (c:Nat) (L:List Tok) (x:St) (r:Except Er ((Option Rl×Nat)×PS)) (e:Ending) (w':World):Prop :=
 ∃(rl:Rl) (a:RlA) (ts:Bs) (tp:Nat) (b:Bool) (y:St),e=.returned (.tuple #[rlv rl a,tokVal ts tp,.bool b])∧RlK w' (fun k=>w.heap.size≤k∧¬y.own p k) rl a∧RdS w' p A c L y∧Good T y∧(∀k,y.own p k→x.own p k∨w.heap.size≤k)∧Upd (x.own p) w w'∧ResS x y r (fun v=>v.2=tp∧(b=true→v.1=some rl)∧(b=false→v.1=none))
theorem ResS.mono {α:Type} {x y:St} {r:Except Er (α×PS)} {P Q:α→Prop} (h:ResS x y r P) (k:∀v,P v→Q v):ResS x y r Q:=by
 refine ⟨fun h0=>?_,h.2⟩;have h1:=h.1 h0
 cases r with
 | error e=>exact h1
 | ok v=>exact ⟨h1.1,h1.2.1,k _ h1.2.2⟩
theorem tkF_lt {T:List (Bs×Nat)} {i:Nat} {s:Bs} (h:tkF T i=some s):i<T.length:=by
 rcases Nat.lt_or_ge i T.length with q | q
 ·
  exact q
 ·
  unfold tkF at h;rw [List.getElem?_eq_none q] at h;cases h
section
variable {L:List Tok} {T:List (Bs×Nat)} {fin:Nat}
theorem rt_cells {w:World} {g1 g2:Nat} {s:Bs} {tp:Nat} {R:Rl} {a:RlA} (h2:Blk w g2 43 (rlCells R a)) (h1:Blk w g1 62 #[.string (kstr s),.int .i64 tp,.bool false]) :
  w.cell? ⟨g2,0,none⟩=some (.string R.name)∧w.cell? ⟨g2,1,none⟩=some (.int .i64 R.l.v)∧w.cell? ⟨g2,2,none⟩=some (.int .i64 R.l.op)∧w.cell? ⟨g2,3,none⟩=some (.int .i64 R.l.imm)∧w.cell? ⟨g2,4,none⟩=some (.int .i64 R.l.iv)∧w.cell? ⟨g2,5,none⟩=some (.slice a.la R.l.kids.length a.lc)∧w.cell? ⟨g2,6,none⟩=some (.int .i64 R.r.v)∧w.cell? ⟨g2,7,none⟩=some (.int .i64 R.r.op)∧w.cell? ⟨g2,8,none⟩=some (.int .i64 R.r.imm)∧w.cell? ⟨g2,9,none⟩=some (.int .i64 R.r.iv)∧w.cell? ⟨g2,10,none⟩=some (.slice a.ra R.r.kids.length a.rc)∧w.cell? ⟨g2,11,none⟩=some (.slice a.ca R.conds.length a.cc)∧w.cell? ⟨g2,12,none⟩=some (.int .i64 R.vars)∧w.cell? ⟨g2,13,none⟩=some (.int .i64 R.imms)∧w.cell? ⟨g1,0,none⟩=some (.string (kstr s))∧w.cell? ⟨g1,1,none⟩=some (.int .i64 (tp:Nat))∧w.cell? ⟨g1,2,none⟩=some (.bool false):=by
 unfold rlCells at h2
 exact ⟨h2.cell 0,h2.cell 1,h2.cell 2,h2.cell 3,h2.cell 4,h2.cell 5,h2.cell 6,h2.cell 7,h2.cell 8,h2.cell 9,h2.cell 10,h2.cell 11,h2.cell 12,h2.cell 13,h1.cell 0,h1.cell 1,h1.cell 2⟩
theorem any_res {x y:St} {ts:Bs} {P:Bs→Prop} (h:ResS x y (anyF T fin (psOf x)) P) (ht:y.why=0→tkF T x.i=some ts):ResS x y (anyF T fin (psOf x)) (fun v=>v=ts):=by
 refine ⟨fun h0=>?_,h.2⟩;have h1:=h.1 h0
 cases ha:anyF T fin (psOf x) with
 | error e=>rw [ha] at h1;exact h1
 | ok v =>
  obtain ⟨v,s⟩:=v;rw [ha] at h1;refine ⟨h1.1,h1.2.1,?_⟩;have h2:=ht h1.1;unfold anyF wrdF at ha;rw [show (psOf x).i=x.i from rfl,h2] at ha;dsimp only at ha
  split at ha
  ·
   cases ha
  ·
   injection ha with ha;injection ha with ha _;exact ha.symm
theorem item_ax {ax:Bs→Option Rl} (hL:LOk L T fin) {x y1:St} {rl:Rl} {b:Bool} {ts:Bs} {tp:Nat} (h0:x.why=0) (ht:tkF T x.i=some [97,120,105,111,109]) (h1:ResS { x with i:=x.i+1 } y1 (anyF T fin (psOf { x with i:=x.i+1 })) (fun v=>v=ts)) (g1:Good T y1) (hp:y1.why=0→tp=offF T fin (x.i+1)) (hb:(b=true→ax ts=some rl)∧(b=false→ax ts=none)) :
  ResS x (y1.exp L [59]) (itemF T fin ax (psOf x)) (fun v=>v.2=tp∧(b=true→v.1=some rl)∧(b=false→v.1=none)):=by
 refine ⟨fun _=>?_,fun q=>absurd h0 q⟩;unfold itemF;rw [show (psOf x).i=x.i from rfl,if_pos ht];have h2:=h1.1 h0;rw [show psOf { x with i:=x.i+1 }={ psOf x with i:=x.i+1 } from rfl] at h2
 cases ha:anyF T fin { psOf x with i:=x.i+1 } with
 | error e =>
  rw [ha] at h2
  have hn:y1.why≠0:=by rw [h2.1];exact wrdF_err ha
  dsimp only;rw [exp_err hn];exact h2
 | ok v =>
  obtain ⟨s,y⟩:=v;rw [ha] at h2;obtain ⟨k0,rfl,rfl⟩:=h2;dsimp only;have e:=exp_res (s:=[59]) hL g1 k0
  cases he:expF T fin [59] (psOf y1) with
  | error er=>rw [he] at e;exact e
  | ok u=>rw [he] at e;exact ⟨e.1,e.2,(hp k0).symm,hb.1,hb.2⟩
theorem item_ru {ax:Bs→Option Rl} (hL:LOk L T fin) {x y1 yE:St} {rl:Rl} {ts:Bs} {tp:Nat} (hx:Good T x) (hz:(x.why==0&&decide (tkF T x.i=some [97,120,105,111,109]))=false)
  (h1:ResS (x.exp L [114,117,108,101]) y1 (anyF T fin { psOf (x.exp L [114,117,108,101]) with vs:=[],ms:=[] }) (fun v=>v=ts)) (hp:y1.why=0→tp=offF T fin (x.exp L [114,117,108,101]).i)
  (h:ResS (x.exp L [114,117,108,101]) yE (ruleF T fin (psOf (x.exp L [114,117,108,101]))) (fun v=>v=rl)) :
  ResS x yE (itemF T fin ax (psOf x)) (fun v=>v.2=tp∧(true=true→v.1=some rl)∧(true=false→v.1=none)):=by
 refine ⟨fun h0=>?_,fun h0=>?_⟩
 ·
  have ht:¬tkF T x.i=some [97,120,105,111,109]:=by simpa [h0] using hz
  unfold itemF;rw [show (psOf x).i=x.i from rfl,if_neg ht];have e:=exp_res (s:=[114,117,108,101]) hL hx h0
  cases he:expF T fin [114,117,108,101] (psOf x) with
  | error er =>
   rw [he] at e
   have hn:(x.exp L [114,117,108,101]).why≠0:=by rw [e.1];exact expF_err he
   exact ⟨(h.2 hn).1.trans e.1,(h.2 hn).2.trans e.2⟩
  | ok u =>
   rw [he] at e;obtain ⟨g0,rfl⟩:=e;have h2:=h.1 g0;have h3:=h1.1 g0;dsimp only
   cases hr:ruleF T fin (psOf (x.exp L [114,117,108,101])) with
   | error er=>rw [hr] at h2;exact h2
   | ok v =>
    obtain ⟨r,z⟩:=v;rw [hr] at h2;refine ⟨h2.1,h2.2.1,?_,fun _=>congrArg some h2.2.2,fun q=>by cases q⟩;rw [ruleF_eq] at hr;unfold bindE at hr
    cases ha:anyF T fin { psOf (x.exp L [114,117,108,101]) with vs:=[],ms:=[] } with
    | error er=>rw [ha] at hr;cases hr
    | ok v=>rw [ha] at h3;exact (hp h3.1).symm
 ·
  rw [exp_err h0] at h;exact h.2 h0
end
section
variable {P P' S:Nat→Prop} {w0 w w':World} {p:Nat} {A:Option Addr} {c:Nat} {L:List Tok} {x y y':St}
theorem LocP.callP (h:LocP P w0 w p A c L x y) (hr:RdS w' p A c L y') (ho:∀k,y'.own p k→y.own p k∨w.heap.size≤k) (u:Upd (fun k=>y.own p k∨P k) w w'):LocP P w0 w' p A c L x y':=by
 have hl:=h.le;refine ⟨hr,fun k q=>?_,fun k q=>?_,h.xlt,h.upd.trans u (fun k hk q=>?_)⟩
 ·
  rcases ho k q with r | r
  ·
   exact h.own k r
  ·
   exact .inr (by omega)
 ·
  obtain ⟨h1,h2,h3⟩:=h.pr k q;refine ⟨h1,Nat.lt_of_lt_of_le h2 u.size,fun r=>?_⟩
  rcases ho k r with r | r
  ·
   exact h3 r
  ·
   omega
 ·
  rcases q with q | q
  ·
   rcases h.own k q with r | r
   ·
    exact r
   ·
    omega
  ·
   have:=(h.pr k q).1;omega
def P2 (n0 k:Nat):Prop:=k=n0∨k=n0+1
def z14:Array Value:=#[.string ⟨#[]⟩,.int .i64 0,.int .i64 0,.int .i64 0,.int .i64 0,.slice none 0 0,.int .i64 0,.int .i64 0,.int .i64 0,.int .i64 0,.slice none 0 0,.slice none 0 0,.int .i64 0,.int .i64 0]
def z3:Array Value:=#[.string ⟨#[]⟩,.int .i64 0,.bool false]
def P5 (n0 g1 g2:Nat) (CA:Option Addr) (k:Nat):Prop:=k=n0∨k=n0+1∨k=g1∨k=g2∨At CA k
structure ItS (w0 w:World) (p:Nat) (A:Option Addr) (c:Nat) (L:List Tok) (x y:St) (g1 g2:Nat) (ts:Bs) (tp:Nat) (R:Rl) (a:RlA):Prop where
 loc:LocP (P5 w0.heap.size g1 g2 a.ca) w0 w p A c L x y
 res:Blk w w0.heap.size 43 z14
 tkr:Blk w (w0.heap.size+1) 62 z3
 tk:Blk w g1 62 #[.string (kstr ts),.int .i64 tp,.bool false]
 rl:Blk w g2 43 (rlCells R a)
 cds:CdO w a.ca a.cc R.conds
 o1:w0.heap.size+1<g1
 o2:g1<g2
 kl:KpS (P5 w0.heap.size g1 g2 a.ca) w0.heap.size p w y R.l a.la a.lc
 kr:KpS (P5 w0.heap.size g1 g2 a.ca) w0.heap.size p w y R.r a.ra a.rc
section
variable {g1 g2:Nat} {ts:Bs} {tp:Nat} {R R':Rl} {a a':RlA}
theorem ItS.ncd (h:ItS w0 w p A c L x y g1 g2 ts tp R a):¬At a.ca w0.heap.size∧¬At a.ca (w0.heap.size+1)∧¬At a.ca g1∧¬At a.ca g2 :=
 ⟨Own.ne_blk h.cds h.res (by decide),Own.ne_blk h.cds h.tkr (by decide),Own.ne_blk h.cds h.tk (by decide),Own.ne_blk h.cds h.rl (by decide)⟩
theorem ItS.leaf {S:Nat→Prop} {n0:Nat}:KpS S n0 p w y (.mk 0 0 0 0 []) none 0:=PtK.leaf
theorem ItS.new (h:ItS w0 w p A c L x y g1 g2 ts tp R a) {q:Pt} {KA:Option Addr} {kc:Nat} (hq:PtK w' (fun k=>w.heap.size≤k∧¬y'.own p k) q KA kc):KpS (P5 w0.heap.size g1 g2 a.ca) w0.heap.size p w' y' q KA kc:=KpS.new hq (fun k r=>(h.loc.pr k r).2.1) h.loc.le
theorem ItS.call (h:ItS w0 w p A c L x y g1 g2 ts tp R a) (hr:RdS w' p A c L y') (ho:∀k,y'.own p k→y.own p k∨w.heap.size≤k) (u:Upd (y.own p) w w'):ItS w0 w' p A c L x y' g1 g2 ts tp R a :=
 ⟨h.loc.call hr ho u,h.loc.keep u (.inl rfl) h.res,h.loc.keep u (.inr (.inl rfl)) h.tkr,h.loc.keep u (.inr (.inr (.inl rfl))) h.tk,h.loc.keep u (.inr (.inr (.inr (.inl rfl)))) h.rl,h.cds.upd u (fun k q=>(h.loc.pr k (.inr (.inr (.inr (.inr q))))).2.2),h.o1,h.o2,h.kl.call ho u,h.kr.call ho u⟩
theorem ItS.exp (h:ItS w0 w p A c L x y g1 g2 ts tp R a) {s:Bs} (hr:RdS w' p A c L (y.exp L s)) (u:Upd (·=p) w w'):ItS w0 w' p A c L x (y.exp L s) g1 g2 ts tp R a :=
 h.call hr (fun _ hk=>.inl ((exp_own _ _).1 hk)) (u.mono (fun _ _ e=>.inl e))
theorem ItS.non (h:ItS w0 w p A c L x y g1 g2 ts tp R a) (u:Upd Non w w'):ItS w0 w' p A c L x y g1 g2 ts tp R a :=
 h.call (h.loc.rd.non u) (fun _ q=>.inl q) (u.mono (fun _ _ f=>f.elim))
theorem ItS.setI (h:ItS w0 w p A c L x y g1 g2 ts tp R a) (n:Nat):ItS w0 (w.setCell ⟨p,1,none⟩ (.int .i64 n)) p A c L x { y with i:=n } g1 g2 ts tp R a :=
 h.call (h.loc.rd.setI n) (fun _ q=>.inl q) ((updCell _ _ _ _).mono (fun _ _ e=>.inl e))
theorem ItS.setLeft (h:ItS w0 w p A c L x y g1 g2 ts tp R a) (b:Bool):ItS w0 (w.setCell ⟨p,6,none⟩ (.bool b)) p A c L x { y with left:=b } g1 g2 ts tp R a :=
 h.call (h.loc.rd.setLeft b) (fun _ q=>.inl q) ((updCell _ _ _ _).mono (fun _ _ e=>.inl e))
theorem ItS.rule (h:ItS w0 w p A c L x y g1 g2 ts tp R a) (u:Upd (·=g2) w w') (hb:Blk w' g2 43 (rlCells R' a')) (e1:a'.ca=a.ca) (e2:a'.cc=a.cc) (e3:R'.conds=R.conds) (kl:KpS (P5 w0.heap.size g1 g2 a.ca) w0.heap.size p w y R'.l a'.la a'.lc) (kr:KpS (P5 w0.heap.size g1 g2 a.ca) w0.heap.size p w y R'.r a'.ra a'.rc):ItS w0 w' p A c L x y g1 g2 ts tp R' a':=by
 have hc:=h.ncd;have o1:=h.o1;have o2:=h.o2;refine ⟨?_,h.res.upd u (by omega),h.tkr.upd u (by omega),h.tk.upd u (by omega),hb,?_,o1,o2,?_,?_⟩
 ·
  rw [e1];exact h.loc.turn u (fun _ _ e=>.inr (.inr (.inr (.inl e)))) (fun _ q=>.inl q)
 ·
  rw [e1,e2,e3];exact h.cds.upd u (fun k hk e=>hc.2.2.2 (e ▸ hk))
 ·
  rw [e1];exact kl.turn u (fun _ _ e=>.inr (.inr (.inr (.inl e)))) (fun _ q=>.inl q)
 ·
  rw [e1];exact kr.turn u (fun _ _ e=>.inr (.inr (.inr (.inl e)))) (fun _ q=>.inl q)
theorem ItS.fin (h:ItS w0 w p A c L x y g1 g2 ts tp R a) (u:Upd (P2 w0.heap.size) w w'):LocP (P5 w0.heap.size g1 g2 a.ca) w0 w' p A c L x y∧RlK w' (fun k=>w0.heap.size≤k∧¬y.own p k) R a∧Blk w' g1 62 #[.string (kstr ts),.int .i64 tp,.bool false]∧Blk w' g2 43 (rlCells R a):=by
 have hn:=h.ncd;have o1:=h.o1;have o2:=h.o2
 have hS:∀k,k<w.heap.size→P2 w0.heap.size k→P5 w0.heap.size g1 g2 a.ca k:=fun k _ q=>q.imp_right .inl
 have hl:=h.loc.turn (P':=P5 w0.heap.size g1 g2 a.ca) u hS (fun _ q=>.inl q);refine ⟨hl,⟨?_,?_,?_,?_⟩,h.tk.upd u (fun q=>?_),h.rl.upd u (fun q=>?_)⟩
 ·
  exact PtK.mono (fun _ _ q=>⟨q.1,q.2.1⟩) _ _ _ (h.kl.turn (P':=P5 w0.heap.size g1 g2 a.ca) u hS (fun _ q=>.inl q))
 ·
  exact PtK.mono (fun _ _ q=>⟨q.1,q.2.1⟩) _ _ _ (h.kr.turn (P':=P5 w0.heap.size g1 g2 a.ca) u hS (fun _ q=>.inl q))
 ·
  have hc:CdO w' a.ca a.cc R.conds:=h.cds.upd u (fun k hk q=>by
   rcases q with q | q
   ·
    exact hn.1 (q ▸ hk)
   ·
    exact hn.2.1 (q ▸ hk))
  exact hc.view.mono (fun k _ q=>⟨(hl.pr k (.inr (.inr (.inr (.inr q))))).1,(hl.pr k (.inr (.inr (.inr (.inr q))))).2.2⟩)
 ·
  exact CdO.le h.cds
 ·
  rcases q with q | q <;> omega
 ·
  rcases q with q | q <;> omega
theorem ItS.app (h:ItS w0 w p A c L x y g1 g2 ts tp R a) {CA:Option Addr} {cc:Nat} {cd:Cd} (u:Upd (At a.ca) w w') (hc:CdO w' CA cc (R.conds++[cd])) (hat:∀k,At CA k→At a.ca k∨k=w.heap.size) {w'':World} (u2:Upd (·=g2) w' w'') (hb:Blk w'' g2 43 (rlCells { R with conds:=R.conds++[cd] } { a with ca:=CA,cc:=cc })):ItS w0 w'' p A c L x y g1 g2 ts tp { R with conds:=R.conds++[cd] } { a with ca:=CA,cc:=cc }:=by
 have hn:=h.ncd;have o1:=h.o1;have o2:=h.o2;have hg:g2<w.heap.size:=h.rl.lt;have uu:Upd (fun k=>At a.ca k∨k=g2) w w'':=(u.mono (fun _ _ q=>.inl q)).trans (u2.mono (fun _ _ q=>.inr q)) (fun _ _ q=>q)
 have hS:∀k,k<w.heap.size→(At a.ca k∨k=g2)→P5 w0.heap.size g1 g2 a.ca k:=fun k _ e=>by
  rcases e with e | e
  ·
   exact .inr (.inr (.inr (.inr e)))
  ·
   exact .inr (.inr (.inr (.inl e)))
 have hP:∀k,P5 w0.heap.size g1 g2 CA k→P5 w0.heap.size g1 g2 a.ca k∨(w.heap.size≤k∧k<w''.heap.size):=fun k q=>by
  rcases q with q | q | q | q | q
  ·
   exact .inl (.inl q)
  ·
   exact .inl (.inr (.inl q))
  ·
   exact .inl (.inr (.inr (.inl q)))
  ·
   exact .inl (.inr (.inr (.inr (.inl q))))
  ·
   rcases hat k q with r | r
   ·
    exact .inl (.inr (.inr (.inr (.inr r))))
   ·
    have hk:=hc.lt q;have:=u2.size;exact .inr ⟨by omega,by omega⟩
 refine ⟨h.loc.turn uu hS hP,h.res.upd uu (fun q=>?_),h.tkr.upd uu (fun q=>?_),h.tk.upd uu (fun q=>?_),hb,?_,o1,o2,h.kl.turn uu hS hP,h.kr.turn uu hS hP⟩
 ·
  rcases q with q | q
  ·
   exact hn.1 q
  ·
   omega
 ·
  rcases q with q | q
  ·
   exact hn.2.1 q
  ·
   omega
 ·
  rcases q with q | q
  ·
   exact hn.2.2.1 q
  ·
   omega
 ·
  refine CdO.upd hc u2 (fun k hk e=>?_);subst e
  rcases hat _ hk with r | r
  ·
   exact hn.2.2.2 r
  ·
   omega
end
end
theorem ba_beq (s q:ByteArray):(s==q)=decide (s=q):=by
 rcases s with ⟨s⟩;rcases q with ⟨q⟩
 show (s==q)=_;rw [Bool.eq_iff_iff];simp
def lookS:List MapEntry→ByteArray→Option Value
 | [],_=>none
 | e::es,s=>match e.key with
  | .string k=>if s=k then some e.val else lookS es s
  | _=>lookS es s
def SMap (w:World) (b:Nat) (m:ByteArray→Option Value):Prop :=
 ∃es clock,w.heap[b]?=some (.map es clock)∧(∀e∈es.toList,∃s,e.key=.string s)∧∀s,lookS es.toList s=m s
section
variable {P:Program} {w w':World} {b:Nat} {m:ByteArray→Option Value}
theorem SMap.lt (h:SMap w b m):b<w.heap.size:=by obtain ⟨_,_,hb,_⟩:=h;exact lt_of_heap hb
theorem SMap.new (w:World):SMap (w.alloc (.map #[] 0)) w.heap.size (fun _=>none):=⟨#[],0,heap_alloc_new w _,by simp,fun _=>rfl⟩
theorem SMap.upd {S:Nat→Prop} (h:SMap w b m) (u:Upd S w w') (hS:¬S b):SMap w' b m:=by
 obtain ⟨es,clock,hb,h1,h2⟩:=h;exact ⟨es,clock,(u.block b (lt_of_heap hb) hS).trans hb,h1,h2⟩
theorem findNow_str (s:ByteArray):∀(es:List MapEntry) (i:Nat),(∀e∈es,∃s,e.key=.string s)→∃r,Instr.findNow .string (.string s) es i=some r∧r.map (·.2)=lookS es s ∧
  (∀j v,r=some (j,v)→∃k,j=i+k∧k<es.length∧(es[k]?).map (·.key)=some (.string s)∧∀s' x,lookS (es.modify k fun e=>{ e with key:=.string s,val:=x }) s'=if s'=s then some x else lookS es s') ∧
  (r=none→∀s' x c,lookS (es++[{ key:=.string s,val:=x,born:=c }]) s'=if s'=s then some x else lookS es s'):=by
 intro es
 induction es with
 | nil =>
  intro i _;refine ⟨none,rfl,rfl,by simp,fun _ s' x c=>?_⟩;simp only [List.nil_append,lookS]
 | cons e es ih =>
  intro i hk;obtain ⟨q,hq⟩:=hk e (by simp);obtain ⟨r,h1,h2,h3,h4⟩:=ih (i+1) (fun x hx=>hk x (by simp [hx]))
  by_cases he:s=q
  ·
   subst he;refine ⟨some (i,e.val),by simp [Instr.findNow,Instr.sameNow,hq,ba_beq],by simp [lookS,hq],?_,by simp⟩;rintro j v ⟨⟩;refine ⟨0,rfl,by simp,by simp [hq],fun s' x=>?_⟩;simp only [List.modify_zero_cons,lookS,hq]
   split <;> simp_all
  ·
   have hb:(s==q)=false:=by simpa [ba_beq] using he
   refine ⟨r,by simp [Instr.findNow,Instr.sameNow,hq,hb,h1],by simp [lookS,hq,he,h2],?_,?_⟩
   ·
    rintro j v rfl;obtain ⟨k,rfl,hkl,hkk,hm⟩:=h3 j v rfl;refine ⟨k+1,by omega,by simpa using hkl,by simpa using hkk,fun s' x=>?_⟩;simp only [List.modify_succ_cons,lookS,hq,hm]
    split
    ·
     rename_i e2;subst e2;rw [if_neg (fun h=>he h.symm)]
    ·
     rfl
   ·
    intro hr s' x c;simp only [List.cons_append,lookS,hq,h4 hr]
    split
    ·
     rename_i e2;subst e2;rw [if_neg (fun h=>he h.symm)]
    ·
     rfl
theorem checkKey_string {k:TypeId} (hk:P.underlying k=some .string) (b:Bool) (n:Nat) (s:ByteArray):(Instr.checkKey b (n+1) k (.string s)).run P w=.ok () w:=by
 simp [Instr.checkKey,run_underlying hk]
theorem SMap.look1 {t k e:TypeId} (ht:P.underlying t=some (.map k e)) (hk:P.underlying k=some .string) {z:Value} (hz:(zeroValue e).run P w=.ok z w) (h:SMap w b m) (s:ByteArray) :
  (Instr.lookup t (.map (some b)) (.string s) false).run P w=.ok ((m s).getD z) w:=by
 obtain ⟨es,clock,hb,h1,h2⟩:=h;obtain ⟨r,hr,hm,_⟩:=findNow_str s es.toList 0 h1
 have hg:(getObj b).run P w=.ok (.map es clock) w:=by simp [getObj,Sem.run,hb]
 rw [←h2 s,←hm]
 cases r with
 | none=>simp [Instr.lookup,run_underlying ht,run_underlying hk,hg,checkKey_string hk,Instr.findKey,hr,hz]
 | some p=>simp [Instr.lookup,run_underlying ht,run_underlying hk,hg,checkKey_string hk,Instr.findKey,hr]
theorem SMap.store {t k e:TypeId} (ht:P.underlying t=some (.map k e)) (hk:P.underlying k=some .string) (h:SMap w b m) (s:ByteArray) (v:Value) :
  ∃w',(Instr.mapUpdate t (.map (some b)) (.string s) v).run P w=.ok () w'∧SMap w' b (fun x=>if x=s then some v else m x)∧Upd (·=b) w w':=by
 obtain ⟨es,clock,hb,h1,h2⟩:=h;obtain ⟨r,hr,hm,h3,h4⟩:=findNow_str s es.toList 0 h1
 have hg:(getObj b).run P w=.ok (.map es clock) w:=by simp [getObj,Sem.run,hb]
 have hset:∀o,(setObj b o).run P w=.ok () { w with heap:=w.heap.setIfInBounds b o }:=fun o=>by simp [setObj,Sem.run,hb]
 have hU:∀o,Upd (·=b) w { w with heap:=w.heap.setIfInBounds b o }:=fun o=>⟨rfl,rfl,rfl,by simp,fun j hj hne=>by simp [Ne.symm hne]⟩
 have hlt:=lt_of_heap hb
 cases r with
 | none =>
  refine ⟨{ w with heap:=w.heap.setIfInBounds b (.map (es.push { key:=.string s,val:=v,born:=clock }) (clock+1)) },by simp [Instr.mapUpdate,run_underlying ht,hg,checkKey_string hk,Instr.findKey,run_underlying hk,hr,hset],?_,hU _⟩
  refine ⟨es.push { key:=.string s,val:=v,born:=clock },clock+1,by simp [hlt],?_,fun s'=>?_⟩
  ·
   intro e he;rw [Array.toList_push] at he
   rcases List.mem_append.1 he with he | he
   ·
    exact h1 e he
   ·
    simp at he;subst he;exact ⟨s,rfl⟩
  ·
   rw [Array.toList_push,h4 rfl];simp only [h2]
 | some p =>
  obtain ⟨j,v0⟩:=p;obtain ⟨kk,hj,hkl,hkk,hmod⟩:=h3 j v0 rfl
  have hj':j=kk:=by omega
  subst hj'
  have hkey:((es[j]?).map (·.key)).getD (.string s)=.string s:=by
   have : es.toList[j]?=es[j]?:=by simp
   rw [←this,hkk];rfl
  have hst:(Instr.keyThatStays (.string s) (.string s)).run P w=.ok (.string s) w:=by simp [Instr.keyThatStays,Instr.sameBits,ba_beq]
  refine ⟨{ w with heap:=w.heap.setIfInBounds b (.map (es.modify j fun e=>{ e with key:=.string s,val:=v }) clock) },by simp [Instr.mapUpdate,run_underlying ht,hg,checkKey_string hk,Instr.findKey,run_underlying hk,hr,hkey,hst,hset],?_,hU _⟩
  refine ⟨es.modify j fun e=>{ e with key:=.string s,val:=v },clock,by simp [hlt],?_,fun s'=>?_⟩
  ·
   intro e he;rw [Array.toList_modify] at he;obtain ⟨i,hi,rfl⟩:=List.mem_iff_getElem.1 he;rw [List.getElem_modify]
   split
   ·
    exact ⟨s,rfl⟩
   ·
    exact h1 _ (List.getElem_mem _)
  ·
   rw [Array.toList_modify,hmod];simp only [h2]
end
theorem rs_len (op:Int):(rsF op).1.length=3:=by
 unfold rsF
 (repeat' split) <;> rfl
theorem arr3_cells (l:List Int) (h:l.length=3):#[Value.int .i64 (l.getD 0 0),.int .i64 (l.getD 1 0),.int .i64 (l.getD 2 0)]=(icells l).toArray:=by
 match l,h with
 | [a,b,c],_=>rfl
theorem arr3_get {w:World} {g:Nat} {l:List Int} (h:Blk w g 93 (icells l).toArray) {i:Nat} (hi:i<l.length):w.cell? ⟨g,i,none⟩=some (.int .i64 (l.getD i 0)):=by
 rw [h.cell];simp [icells,List.getD,hi]
def ss_ok (ks:List Pt) (ss:List Int) (m:Int) (n:Nat):Prop:=shpL ks ss m n=true
set_option maxRecDepth 100000 in
set_option maxHeartbeats 4000000 in
theorem rlCollect_c (p:Pt):∀(w:World) (F:Nat→Prop) (KA:Option Addr) (kc gv c gi d:Nat) (s s0:Int) (m n:Nat) (vs ms:List Int),PtK w F p KA kc→¬F gv→¬F gi→gv≠gi→VBlk w gv vs→VBlk w gi ms→shp p s0 m n=true→vs.length=n+1→ms.length=m+1→n≤1000→m≤1000 →
  Calls Tryz.prog 47 #[pv p KA kc,.int .i64 s,.slice (some ⟨gv,0,none⟩) vs.length c,.slice (some ⟨gi,0,none⟩) ms.length d] w fun e w'=>e=.returned (.tuple #[])∧VBlk w' gv (colV (occ p s) vs)∧VBlk w' gi (colI (occI p) ms)∧Upd (fun k=>k=gv∨k=gi) w w':=by
 induction p using Pt.ind with
 | h p ih =>
  intro w F KA kc gv c gi d s s0 m n vs ms hp hFv hFi hne hgv hgi hsh hvl hml hn hm;have HI:=Lib.hid ih;obtain ⟨W,HW⟩:=nm (w.alloc (.cells #[.int .i64 p.v,.int .i64 p.op,.int .i64 p.imm,.int .i64 p.iv,.slice KA p.kids.length kc] 40))
  have hU:Upd Non w W:=by rw [←HW.out];exact Upd.refl.alloc _
  have hb:Blk W w.heap.size 40 #[.int .i64 p.v,.int .i64 p.op,.int .i64 p.imm,.int .i64 p.iv,.slice KA p.kids.length kc]:=by rw [←HW.out];exact Blk.new _ _ _
  have hsz:W.heap.size=w.heap.size+1:=by rw [←HW.out];simp
  have e0:=HW.out;have hvlt:gv<w.heap.size:=Blk.lt hgv;have hilt:gi<w.heap.size:=Blk.lt hgi;have hgv:VBlk W gv vs:=Blk.upd hgv hU (fun f=>f);have hgi:VBlk W gi ms:=Blk.upd hgi hU (fun f=>f);have hp:=PtK.upd hU (fun _ _ _ f=>f) p KA kc hp;have HSV:=Lib.hid (@shp_var p);have HSO:=Lib.hid (@shp_op p);have HIV:=Lib.hid (@occI_var p s0 m n hsh)
  have HIO:=Lib.hid (@occI_op p);have HOV:=Lib.hid (fun h=>@occ_var p h s);have HOO:=Lib.hid (fun h=>@occ_op p h s);have HND:=Lib.hid ((shp_nodes _ _ _ _ hsh).2 p (by rw [nodes_eq];simp));have HSH:=Lib.hid hsh;obtain ⟨RV,HRV⟩:=nm (occ p s);obtain ⟨RI,HRI⟩:=nm (occI p);rw [HRV.out,HRI.out];have c0:=hb.cell 0;have c1:=hb.cell 1;have c3:=hb.cell 3;have c4:=hb.cell 4
  have h2U:Upd (fun k=>k=gv∨k=gi) w W:=hU.mono (fun _ _ f=>f.elim);unfold pv;obtain ⟨v,Hv⟩:=nm p.v;obtain ⟨op,Hop⟩:=nm p.op;obtain ⟨imm,Him⟩:=nm p.imm;obtain ⟨iv,Hiv⟩:=nm p.iv;obtain ⟨k,Hk⟩:=nm p.kids.length;rw [Hv.out] at c0 e0 hb;rw [Hop.out] at c1 e0 hb;rw [Him.out] at e0 hb;rw [Hiv.out] at c3 e0 hb HND;rw [Hk.out] at c4 e0 hb HND
  rw [Hv.out,Hop.out,Him.out,Hiv.out,Hk.out];obtain ⟨vn,Hvn⟩:=nm vs.length;obtain ⟨mn,Hmn⟩:=nm ms.length;rw [Hvn.out] at hvl ⊢;rw [Hmn.out] at hml ⊢;subst hvl;subst hml;clear ih hsh
  by_cases hv:v=0
  ·
   subst hv
   have hso:(oSortsF op).2.2=true∧k=(oSortsF op).1.length∧shpL p.kids (oSortsF op).1 m n=true:=by
    have h:=HSH.out;rw [HSO.out Hv.out,Bool.and_eq_true,decide_eq_true_eq,Hop.out,Hk.out] at h;exact ⟨h.1.1,h.1.2.1,h.2⟩
   obtain ⟨ho,hk,hsl⟩:=hso;obtain ⟨_,hk3,hrs⟩:=rs_parts ho;obtain ⟨_,hivr,_⟩:=HND.out;have hivr:=hivr (by omega);obtain ⟨j,rfl⟩:∃j:Nat,iv=(j:Int):=Int.eq_ofNat_of_zero_le hivr.1
   have hjm:j<ms.length:=by rw [Hmn.out];omega
   have hRI:Hid (RI=(j:Int)::occIL p.kids):=by show _=_;rw [←HRI.out,HIO.out Hv.out,Hiv.out]
   have hRV:Hid (RV=occL p.kids (oSortsF op).1):=by show _=_;rw [←HRV.out,HOO.out Hv.out,Hop.out]
   have hkk:k≤3:=by omega
   have HSL:=Lib.hid hsl
   have HRS:Hid (∀i,i<k→(rsF op).1.getD i 0=(oSortsF op).1.getD i 0):=fun i hi=>by rw [hrs i (by omega),getD_of (by omega:i<(oSortsF op).1.length)]
   have hz:=VBlk.cell hgi hjm;have hfr:=Blk.frozen hgi;obtain ⟨W2,HW2⟩:=nm (W.setCell ⟨gi,j,none⟩ (.int .i64 1))
   have hgi2:VBlk W2 gi (ms.set j 1):=by rw [←HW2.out];exact VBlk.set_ hgi j 1
   have u2:Upd (·=gi) W W2:=by rw [←HW2.out];exact updCell _ _ _ _
   have e2:=HW2.out;have hgv2:VBlk W2 gv vs:=Blk.upd hgv u2 hne;have hb2:=hb.upd u2 (by omega);have hp2:=PtK.upd u2 (fun q _ hq e=>hFi (by rw [←e];exact hq)) p KA kc hp;have hs2:=u2.size;have HU2:Upd (fun q=>q=gv∨q=gi) w W2:=h2U.trans u2 (fun q _ h=>.inr h);have d1:=hb2.cell 1;have d4:=hb2.cell 4;have CS:=Lib.hid (rlSorts_c op W2)
   clear HSV HSO HIV HIO HOV HOO HND HSH HRV HRI hrs ho hk3 hsl hb hp hgv hgi hk;go_enter Tryz.func47,Tryz.ntmps47
   go_wp2_with fail
   refine CS.out.mono ?_;rintro e w3 ⟨rfl,u3⟩;obtain ⟨l3,Hl3⟩:=nm (rsF op).1;have hl3:=rs_len op;have ha3:=arr3_cells (rsF op).1 hl3;rw [Hl3.out] at hl3 ha3 HRS;rw [Hl3.out];obtain ⟨x0,Hx0⟩:=nm (l3.getD 0 0);obtain ⟨x1,Hx1⟩:=nm (l3.getD 1 0);obtain ⟨x2,Hx2⟩:=nm (l3.getD 2 0);rw [Hx0.out,Hx1.out,Hx2.out] at ha3;rw [Hx0.out,Hx1.out,Hx2.out];have HA3:=Lib.hid ha3
   obtain ⟨W4,HW4⟩:=nm (w3.alloc (.cells #[.int .i64 x0,.int .i64 x1,.int .i64 x2] 93));have e4:=HW4.out
   have u4:Upd Non w3 W4:=by rw [←e4];exact Upd.refl.alloc _
   have hb4:Blk W4 w3.heap.size 93 (icells l3).toArray:=by rw [←ha3,←e4];exact Blk.new _ _ _
   have u24:=u3.then_non u4;have hb2:=hb2.upd u24 (fun f=>f);have hs3:=u3.size;have d4:=hb2.cell 4;have hgi4:VBlk W4 gi (ms.set j 1):=Blk.upd hgi2 u24 (fun f=>f);have hgv4:VBlk W4 gv vs:=Blk.upd hgv2 u24 (fun f=>f);have hp4:=PtK.upd u24 (fun _ _ _ f=>f) p KA kc hp2;have HU4:=HU2.then_non u24;have HSS:Hid (ss_ok p.kids (oSortsF op).1 m n):=HSL.out
   have HM0:Hid ((ms.set j 1).length=m+1∧vs.length=n+1):=⟨by rw [List.length_set,Hmn.out],Hvn.out⟩;obtain ⟨ss,Hss⟩:=nm (oSortsF op).1;rw [Hss.out] at HSS HRS hRV;have hgi4:=Lib.hid hgi4;have hgv4:=Lib.hid hgv4;obtain ⟨ms1,Hms1⟩:=nm (ms.set j 1);rw [Hms1.out] at HM0 hgi4
   have hl3k:k≤l3.length:=by omega
   have hsz4:W4.heap.size=w3.heap.size+1:=by rw [←HW4.out];simp
   clear CS ha3 hgi2 hgv2 hp2 hz hfr HSL hl3 hb2 d1
   go_wp2_with fail
   go_loopg [10,11,36] k (fun g _ _ i wr=>∃q:Nat,Hid (g=k - q)∧q≤k∧i=.int .i64 q∧Hid (VBlk wr gv (colV (occL (p.kids.take q) ss) vs))∧Hid (VBlk wr gi (colI (occIL (p.kids.take q)) ms1))∧Upd (fun q=>q=gv∨q=gi) W4 wr)
   case atStart=>exact ⟨0,rfl,by omega,rfl,hgv4.out,hgi4.out,Upd.refl⟩
   case round =>
    obtain ⟨q,Hg,hq,rfl,HV,HM,hu⟩:=hrel
    by_cases hlt:q<k
    ·
     have hql:q<p.kids.length:=by rw [Hk.out];exact hlt
     obtain ⟨b,o,rfl,hF,hbw,KB,kd,h0,h1,h2,h3,h4,h5⟩:=(PtK.upd hu (fun q _ hq e=>by rcases e with rfl | rfl;exact hFv hq;exact hFi hq) p KA kc hp4).at_ hql
     have HTK:Hid (p.kids.take (q+1)=p.kids.take q++[p.kids[q]]∧(p.kids.take q).length=q):=⟨take_snoc' hql,by rw [List.length_take];omega⟩;have hmem:=List.getElem_mem hql;have hsk:=shpL_at hql HSS.out;generalize p.kids[q]=t at *;have hb4r:=hb4.upd hu (by omega);have a0:=arr3_get hb4r (i:=q) (by omega);have HRQ:=Lib.hid (HRS.out q hlt)
     obtain ⟨sq,Hsq⟩:=nm (l3.getD q 0);rw [Hsq.out] at a0 HRQ;obtain ⟨W5,HW5⟩:=nm (wr.alloc (.cells #[.int .i64 t.v,.int .i64 t.op,.int .i64 t.imm,.int .i64 t.iv,.slice KB t.kids.length kd] 40));have e5:=HW5.out
     have u5:Upd Non wr W5:=by rw [←e5];exact Upd.refl.alloc _
     have bt:Blk W5 wr.heap.size 40 #[.int .i64 t.v,.int .i64 t.op,.int .i64 t.imm,.int .i64 t.iv,.slice KB t.kids.length kd]:=by rw [←e5];exact Blk.new _ _ _
     obtain ⟨wD,HwD⟩:=nm W5.drew
     have uD:Upd Non W5 wD:=by rw [←HwD.out];exact Upd.refl.drew
     have u6:=u5.then_non uD;have hsu:=hu.size;have hs5:=u5.size
     have C1:=Lib.hid (HI.out t hmem wD F KB kd gv c gi d sq (ss.getD q 0) m n (colV (occL (p.kids.take q) ss) vs) (colI (occIL (p.kids.take q)) ms1) (PtK.upd u6 (fun _ _ _ f=>f) _ _ _ h5) hFv hFi hne (Blk.upd HV.out u6 (fun f=>f)) (Blk.upd HM.out u6 (fun f=>f)) hsk (by rw [colV_len,HM0.out.2]) (by rw [colI_len,HM0.out.1]) hn hm)
     rw [colV_len,colI_len,HM0.out.1,HM0.out.2] at C1;unfold pv at C1
     have HV2:Hid (colV (occ t sq) (colV (occL (p.kids.take q) ss) vs)=colV (occL (p.kids.take (q+1)) ss) vs):=by show _=_;rw [HTK.out.1,occL_snoc,HTK.out.2,colV_snoc,HRQ.out]
     have HM2:Hid (colI (occI t) (colI (occIL (p.kids.take q)) ms1)=colI (occIL (p.kids.take (q+1))) ms1):=by show _=_;rw [HTK.out.1,occIL_snoc,colI_snoc]
     rw [HV2.out,HM2.out] at C1
     have SS:∀w',Upd (fun q=>q=gv∨q=gi) W5 w'→w'.cell? ⟨wr.heap.size,0,none⟩=some (.int .i64 t.v)∧w'.cell? ⟨wr.heap.size,1,none⟩=some (.int .i64 t.op)∧w'.cell? ⟨wr.heap.size,2,none⟩=some (.int .i64 t.imm)∧w'.cell? ⟨wr.heap.size,3,none⟩=some (.int .i64 t.iv)∧w'.cell? ⟨wr.heap.size,4,none⟩=some (.slice KB t.kids.length kd)∧w'.cell? ⟨w3.heap.size,q,none⟩=some (.int .i64 sq):=fun w' u =>
      ⟨cell_upd (bt.cell 0) u (by omega),cell_upd (bt.cell 1) u (by omega),cell_upd (bt.cell 2) u (by omega),cell_upd (bt.cell 3) u (by omega),cell_upd (bt.cell 4) u (by omega),cell_upd (cell_upd a0 u5 (fun f=>f)) u (by omega)⟩
     have HS:=Lib.hid SS;have q0:=bt.cell 0;have q1:=bt.cell 1;have q2:=bt.cell 2;have q3:=bt.cell 3;have q4:=bt.cell 4
     have hq3:(q:Int)<3:=by omega
     have hq0:(0:Int)≤(q:Int):=by omega
     clear SS h5 HV HM bt HTK hmem hsk
     go_wp2_with fail
     refine wp_region_held_drew (S:=fun w'=>w'.cell? ⟨wr.heap.size,0,none⟩=some (.int .i64 t.v)∧w'.cell? ⟨wr.heap.size,1,none⟩=some (.int .i64 t.op)∧w'.cell? ⟨wr.heap.size,2,none⟩=some (.int .i64 t.imm)∧w'.cell? ⟨wr.heap.size,3,none⟩=some (.int .i64 t.iv)∧w'.cell? ⟨wr.heap.size,4,none⟩=some (.slice KB t.kids.length kd)∧w'.cell? ⟨w3.heap.size,q,none⟩=some (.int .i64 sq)) (by kernel_rfl) (by rw [HwD.out];exact HS.out _ (uD.mono (fun _ _ f=>f.elim))) (fun hHeld=>?_)
     rw [HwD.out] at hHeld ⊢;refine wpT 0 ?_
     try simp only [put_y,put_z]
     refine wpT 1 ?_
     try simp only [put_y,put_z]
     refine wpT 2 ?_
     try simp only [put_y,put_z]
     refine wpT 3 ?_
     try simp only [put_y,put_z]
     refine wpT 4 ?_
     try simp only [put_y,put_z]
     refine wpT 5 ?_
     try simp only [put_y,put_z]
     refine wpAnyH_ready (rs:=[6]) (by kernel_rfl) (by simp) ?_;refine AllReadyH.cons rfl (fun K hK=>?_) AllReadyH.nil;go_simp;refine C1.out.mono ?_;rintro e w7 ⟨rfl,hv7,hm7,hu7⟩;have u7:Upd (fun q=>q=gv∨q=gi) W5 w7:=(uD.mono (T:=fun q=>q=gv∨q=gi) (fun _ _ f=>f.elim)).trans hu7 (fun _ _ h=>h);have HV7:=Lib.hid hv7;have HM7:=Lib.hid hm7
     go_wp2_with fail
     refine hK.out _ _ ?_ (fun hHeld=>?_)
     ·
      exact HS.out _ u7
     clear hK K
     try simp only [put_y,put_z]
     refine wpAnyH_done (by kernel_rfl) ?_ _;have HU7:Upd (fun q=>q=gv∨q=gi) W4 w7:=(hu.then_non u5).trans u7 (fun _ _ h=>h);clear hv7 hm7 C1 HS
     go_wp2_with fail
     go_roundg (k - (q+1))
     case measure=>rw [Hg.out];omega
     case rel=>exact ⟨q+1,rfl,by omega,by go_num,HV7.out,HM7.out,HU7⟩
    ·
     obtain rfl:k=q:=by omega
     have HT:Hid (p.kids.take k=p.kids):=List.take_of_length_le (by rw [Hk.out];exact Nat.le_refl _);rw [HT.out] at HV HM;have HU:=HU4.trans hu (fun _ _ h=>h)
     go_wp2_with fail
     go_end0
     rw [hRV.out,hRI.out];refine ⟨rfl,HV.out,?_,HU⟩;show VBlk _ gi (colI (occIL p.kids) (ms.set (j:Int).toNat 1));rw [Int.toNat_natCast,Hms1.out];exact HM.out
  ·
   have hsv:1≤v∧v≤n:=by
    have h:=HSH.out;rw [HSV.out (by rw [Hv.out];exact hv),decide_eq_true_eq,Hv.out] at h;omega
   obtain ⟨j,rfl⟩:∃j:Nat,v=(j:Int):=Int.eq_ofNat_of_zero_le (by omega)
   have hjn:j<vs.length:=by rw [Hvn.out];omega
   have hRI:Hid (RI=[]):=by show _=_;rw [←HRI.out];exact HIV.out (by rw [Hv.out];exact hv)
   have hRV:Hid (RV=[((j:Int),s)]):=by show _=_;rw [←HRV.out,HOV.out (by rw [Hv.out];exact hv),Hv.out]
   have hz:=VBlk.cell hgv hjn;have hfr:=Blk.frozen hgv;have hset:=VBlk.set_ hgv j (orB (vs.getD j 0) s);obtain ⟨z,Hz⟩:=nm (vs.getD j 0);rw [Hz.out] at hz hset;unfold orB at hset
   have hj0:(0:Int)<(j:Int):=by omega
   clear HSV HSO HIV HIO HOV HOO HND HSH HRV HRI hb;go_enter Tryz.func47,Tryz.ntmps47
   go_wp2_with fail
   refine bodyPost_ret (results_none rfl _ _ _) rfl ?_;rw [hRV.out,hRI.out];refine ⟨rfl,?_,Blk.upd hgi (updCell _ _ _ _) (fun e=>hne e.symm),h2U.trans (updCell _ _ _ _) (fun q _ e=>.inl e)⟩;show VBlk _ gv (vs.set (j:Int).toNat (orB (vs.getD (j:Int).toNat 0) s));rw [Int.toNat_natCast,Hz.out];exact hset
theorem nm_cases (x:Int):(97≤x∧x≤122)∨(48≤x∧x≤57)∨x=45∨(x<48∧x≠45)∨(57<x∧x<97)∨122<x:=by omega
theorem all_take {s:ByteArray} {k:Nat} (hk:k<s.size) (h:((kx s).take k).all nmCh=true) (c:nmCh ((kx s).getD k 0)=true):((kx s).take (k+1)).all nmCh=true:=by
 have hl:k<(kx s).length:=by rw [kx_len];exact hk
 rw [List.take_add_one,List.getElem?_eq_getElem hl,List.all_append,h];rw [getD_of hl] at c;simp [c]
theorem all_bad {s:ByteArray} {k:Nat} (hk:k<s.size) (c:nmCh ((kx s).getD k 0)=false):nameF s=false:=by
 have hl:k<(kx s).length:=by rw [kx_len];exact hk
 rw [getD_of hl] at c;unfold nameF
 have : s.data.toList.all nmCh=false:=by
  rw [Bool.eq_false_iff];intro h;rw [List.all_eq_true] at h;have:=h _ (List.getElem_mem hl);rw [c] at this;cases this
 rw [this];rfl
theorem all_ok {s:ByteArray} (h:((kx s).take s.size).all nmCh=true):nameF s=decide (1≤s.size∧s.size≤16):=by
 have hl:(kx s).length≤s.size:=by rw [kx_len];exact Nat.le_refl _
 rw [List.take_of_length_le hl] at h;unfold nameF;rw [show s.data.toList.all nmCh=true from h];rfl
set_option maxRecDepth 100000 in
set_option maxHeartbeats 4000000 in
theorem rlValidName_c (s:ByteArray) (w:World) (hs:s.size≤1000000000000000):Calls Tryz.prog 45 #[.string s] w fun e w'=>e=.returned (.bool (nameF s))∧∃n,w'=w.drewN n:=by
 obtain ⟨n,Hn⟩:=nm s.size;rw [Hn.out] at hs;have hsn:=Hn.out;obtain ⟨R,HR⟩:=nm (nameF s);rw [HR.out];go_enter Tryz.func45,Tryz.ntmps45
 go_wp2_with fail
 go_loopg [3,4] n (fun g i _ wr=>∃k:Nat,Hid (g=n - k)∧k≤n∧i=.int .i64 k∧Hid (((kx s).take k).all nmCh=true)∧∃q,wr=w.drewN q)
 case atStart=>exact ⟨0,rfl,by omega,rfl,by show _=_;simp,0,rfl⟩
 case round =>
  obtain ⟨k,Hg,hk,rfl,HA,n1,rfl⟩:=hrel
  by_cases hlt:k<n
  ·
   have hks:k<s.size:=by rw [Hn.out];exact hlt
   have HOK:=Lib.hid (fun c=>all_take hks HA.out c);have HBAD:=Lib.hid (fun c=>@all_bad s k hks c);rw [HR.out] at HBAD
   have hkl:k<(kx s).length:=by rw [kx_len];exact hks
   rw [getD_of hkl,show (kx s)[k]=s[k]'hks from rfl] at HOK HBAD
   have HNC:Hid (nmCh (s[k]'hks)=decide (97≤(s[k]'hks).toNat∧(s[k]'hks).toNat≤122∨48≤(s[k]'hks).toNat∧(s[k]'hks).toNat≤57∨(s[k]'hks).toNat=45)):=rfl
   obtain ⟨x,Hx⟩:=nm (((s[k]'hks).toNat:Nat):Int);have HX:=Hx.out
   rcases nm_cases x with hc | hc | hc | hc | hc | hc
   ·
    have f1:decide ((((s[k]'hks).toNat:Nat):Int)<97)=false:=by rw [Hx.out];exact decide_eq_false (by omega)
    have f2:decide (122<(((s[k]'hks).toNat:Nat):Int))=false:=by rw [Hx.out];exact decide_eq_false (by omega)
    have hok:nmCh (s[k]'hks)=true:=by rw [HNC.out,decide_eq_true_eq];omega
    have HOK2:=Lib.hid (HOK.out hok);clear hok;clear hc HX
    go_wp2_with fail
    go_roundg (n - (k+1))
    case measure=>rw [Hg.out];omega
    case rel=>exact ⟨k+1,rfl,by omega,by go_num,HOK2.out,_,rfl⟩
   ·
    have f1:decide ((((s[k]'hks).toNat:Nat):Int)<97)=true:=by rw [Hx.out];exact decide_eq_true (by omega)
    have f3:decide ((((s[k]'hks).toNat:Nat):Int)<48)=false:=by rw [Hx.out];exact decide_eq_false (by omega)
    have f4:decide (57<(((s[k]'hks).toNat:Nat):Int))=false:=by rw [Hx.out];exact decide_eq_false (by omega)
    have hok:nmCh (s[k]'hks)=true:=by rw [HNC.out,decide_eq_true_eq];omega
    have HOK2:=Lib.hid (HOK.out hok);clear hok;clear hc HX
    go_wp2_with fail
    go_roundg (n - (k+1))
    case measure=>rw [Hg.out];omega
    case rel=>exact ⟨k+1,rfl,by omega,by go_num,HOK2.out,_,rfl⟩
   ·
    have f1:decide ((((s[k]'hks).toNat:Nat):Int)<97)=true:=by rw [Hx.out];exact decide_eq_true (by omega)
    have f3:decide ((((s[k]'hks).toNat:Nat):Int)<48)=true:=by rw [Hx.out];exact decide_eq_true (by omega)
    have f5:((((s[k]'hks).toNat:Nat):Int) != 45)=false:=by rw [Hx.out];simp [hc]
    have hok:nmCh (s[k]'hks)=true:=by rw [HNC.out,decide_eq_true_eq];omega
    have HOK2:=Lib.hid (HOK.out hok);clear hok;clear hc HX
    go_wp2_with fail
    go_roundg (n - (k+1))
    case measure=>rw [Hg.out];omega
    case rel=>exact ⟨k+1,rfl,by omega,by go_num,HOK2.out,_,rfl⟩
   ·
    have f1:decide ((((s[k]'hks).toNat:Nat):Int)<97)=true:=by rw [Hx.out];exact decide_eq_true (by omega)
    have f3:decide ((((s[k]'hks).toNat:Nat):Int)<48)=true:=by rw [Hx.out];exact decide_eq_true (by omega)
    have f5:((((s[k]'hks).toNat:Nat):Int) != 45)=true:=by rw [Hx.out];simp;omega
    have hbad:nmCh (s[k]'hks)=false:=by rw [HNC.out,decide_eq_false_iff_not];omega
    have HB:=Lib.hid (HBAD.out hbad);clear hbad;clear hc HX
    go_wp2_with fail
    go_ret;exact ⟨by rw [HB.out];rfl,_,rfl⟩
   ·
    have f1:decide ((((s[k]'hks).toNat:Nat):Int)<97)=true:=by rw [Hx.out];exact decide_eq_true (by omega)
    have f3:decide ((((s[k]'hks).toNat:Nat):Int)<48)=false:=by rw [Hx.out];exact decide_eq_false (by omega)
    have f4:decide (57<(((s[k]'hks).toNat:Nat):Int))=true:=by rw [Hx.out];exact decide_eq_true (by omega)
    have f5:((((s[k]'hks).toNat:Nat):Int) != 45)=true:=by rw [Hx.out];simp;omega
    have hbad:nmCh (s[k]'hks)=false:=by rw [HNC.out,decide_eq_false_iff_not];omega
    have HB:=Lib.hid (HBAD.out hbad);clear hbad;clear hc HX
    go_wp2_with fail
    go_ret;exact ⟨by rw [HB.out];rfl,_,rfl⟩
   ·
    have f1:decide ((((s[k]'hks).toNat:Nat):Int)<97)=false:=by rw [Hx.out];exact decide_eq_false (by omega)
    have f2:decide (122<(((s[k]'hks).toNat:Nat):Int))=true:=by rw [Hx.out];exact decide_eq_true (by omega)
    have f3:decide ((((s[k]'hks).toNat:Nat):Int)<48)=false:=by rw [Hx.out];exact decide_eq_false (by omega)
    have f4:decide (57<(((s[k]'hks).toNat:Nat):Int))=true:=by rw [Hx.out];exact decide_eq_true (by omega)
    have f5:((((s[k]'hks).toNat:Nat):Int) != 45)=true:=by rw [Hx.out];simp;omega
    have hbad:nmCh (s[k]'hks)=false:=by rw [HNC.out,decide_eq_false_iff_not];omega
    have HB:=Lib.hid (HBAD.out hbad);clear hbad;clear hc HX
    go_wp2_with fail
    go_ret;exact ⟨by rw [HB.out];rfl,_,rfl⟩
  ·
   obtain rfl:n=k:=by omega
   have HRE:Hid (R=decide (1≤n∧n≤16)):=by
    have:=HA.out;rw [←Hn.out] at this;show _=_;rw [←HR.out,all_ok this,Hn.out]
   by_cases h1:1≤n
   ·
    have f1:decide ((1:Int)≤(n:Int))=true:=decide_eq_true (by omega)
    by_cases h2:n≤16
    ·
     have f2:decide ((n:Int)≤16)=true:=decide_eq_true (by omega)
     have HR2:Hid (R=true):=by show _=_;rw [HRE.out];exact decide_eq_true ⟨h1,h2⟩
     clear h1 h2
     go_wp2_with fail
     go_ret;exact ⟨by rw [HR2.out];rfl,_,rfl⟩
    ·
     have f2:decide ((n:Int)≤16)=false:=decide_eq_false (by omega)
     have HR2:Hid (R=false):=by show _=_;rw [HRE.out];exact decide_eq_false (by omega)
     clear h1 h2
     go_wp2_with fail
     go_ret;exact ⟨by rw [HR2.out];rfl,_,rfl⟩
   ·
    have f1:decide ((1:Int)≤(n:Int))=false:=decide_eq_false (by omega)
    have HR2:Hid (R=false):=by show _=_;rw [HRE.out];exact decide_eq_false (by omega)
    clear h1
    go_wp2_with fail
    go_ret;exact ⟨by rw [HR2.out];rfl,_,rfl⟩
set_option maxRecDepth 100000 in
set_option maxHeartbeats 4000000 in
theorem r15validName_c (s:ByteArray) (w:World) (hs:s.size≤1000000000000000):Calls Tryz.prog 49 #[.string s] w fun e w'=>e=.returned (.bool (nameF s))∧∃n,w'=w.drewN n:=by
 obtain ⟨n,Hn⟩:=nm s.size;rw [Hn.out] at hs;have hsn:=Hn.out;obtain ⟨R,HR⟩:=nm (nameF s);rw [HR.out];go_enter Tryz.func49,Tryz.ntmps49
 go_wp2_with fail
 go_loopg [3] n (fun g i wr=>∃k:Nat,Hid (g=n - k)∧k≤n∧i=.int .i64 k∧Hid (((kx s).take k).all nmCh=true)∧∃q,wr=w.drewN q)
 case atStart=>exact ⟨0,rfl,by omega,rfl,by show _=_;simp,0,rfl⟩
 case round =>
  obtain ⟨k,Hg,hk,rfl,HA,n1,rfl⟩:=hrel
  by_cases hlt:k<n
  ·
   have hks:k<s.size:=by rw [Hn.out];exact hlt
   have HOK:=Lib.hid (fun c=>all_take hks HA.out c);have HBAD:=Lib.hid (fun c=>@all_bad s k hks c);rw [HR.out] at HBAD
   have hkl:k<(kx s).length:=by rw [kx_len];exact hks
   rw [getD_of hkl,show (kx s)[k]=s[k]'hks from rfl] at HOK HBAD
   have HNC:Hid (nmCh (s[k]'hks)=decide (97≤(s[k]'hks).toNat∧(s[k]'hks).toNat≤122∨48≤(s[k]'hks).toNat∧(s[k]'hks).toNat≤57∨(s[k]'hks).toNat=45)):=rfl
   obtain ⟨x,Hx⟩:=nm (((s[k]'hks).toNat:Nat):Int);have HX:=Hx.out
   rcases nm_cases x with hc | hc | hc | hc | hc | hc
   ·
    have f1:decide ((((s[k]'hks).toNat:Nat):Int)<97)=false:=by rw [Hx.out];exact decide_eq_false (by omega)
    have f2:decide (122<(((s[k]'hks).toNat:Nat):Int))=false:=by rw [Hx.out];exact decide_eq_false (by omega)
    have hok:nmCh (s[k]'hks)=true:=by rw [HNC.out,decide_eq_true_eq];omega
    have HOK2:=Lib.hid (HOK.out hok);clear hok;clear hc HX
    go_wp2_with fail
    go_roundg (n - (k+1))
    case measure=>rw [Hg.out];omega
    case rel=>exact ⟨k+1,rfl,by omega,by go_num,HOK2.out,_,rfl⟩
   ·
    have f1:decide ((((s[k]'hks).toNat:Nat):Int)<97)=true:=by rw [Hx.out];exact decide_eq_true (by omega)
    have f3:decide ((((s[k]'hks).toNat:Nat):Int)<48)=false:=by rw [Hx.out];exact decide_eq_false (by omega)
    have f4:decide (57<(((s[k]'hks).toNat:Nat):Int))=false:=by rw [Hx.out];exact decide_eq_false (by omega)
    have hok:nmCh (s[k]'hks)=true:=by rw [HNC.out,decide_eq_true_eq];omega
    have HOK2:=Lib.hid (HOK.out hok);clear hok;clear hc HX
    go_wp2_with fail
    go_roundg (n - (k+1))
    case measure=>rw [Hg.out];omega
    case rel=>exact ⟨k+1,rfl,by omega,by go_num,HOK2.out,_,rfl⟩
   ·
    have f1:decide ((((s[k]'hks).toNat:Nat):Int)<97)=true:=by rw [Hx.out];exact decide_eq_true (by omega)
    have f3:decide ((((s[k]'hks).toNat:Nat):Int)<48)=true:=by rw [Hx.out];exact decide_eq_true (by omega)
    have f5:((((s[k]'hks).toNat:Nat):Int) != 45)=false:=by rw [Hx.out];simp [hc]
    have hok:nmCh (s[k]'hks)=true:=by rw [HNC.out,decide_eq_true_eq];omega
    have HOK2:=Lib.hid (HOK.out hok);clear hok;clear hc HX
    go_wp2_with fail
    go_roundg (n - (k+1))
    case measure=>rw [Hg.out];omega
    case rel=>exact ⟨k+1,rfl,by omega,by go_num,HOK2.out,_,rfl⟩
   ·
    have f1:decide ((((s[k]'hks).toNat:Nat):Int)<97)=true:=by rw [Hx.out];exact decide_eq_true (by omega)
    have f3:decide ((((s[k]'hks).toNat:Nat):Int)<48)=true:=by rw [Hx.out];exact decide_eq_true (by omega)
    have f5:((((s[k]'hks).toNat:Nat):Int) != 45)=true:=by rw [Hx.out];simp;omega
    have hbad:nmCh (s[k]'hks)=false:=by rw [HNC.out,decide_eq_false_iff_not];omega
    have HB:=Lib.hid (HBAD.out hbad);clear hbad;clear hc HX
    go_wp2_with fail
    go_ret;exact ⟨by rw [HB.out];rfl,_,rfl⟩
   ·
    have f1:decide ((((s[k]'hks).toNat:Nat):Int)<97)=true:=by rw [Hx.out];exact decide_eq_true (by omega)
    have f3:decide ((((s[k]'hks).toNat:Nat):Int)<48)=false:=by rw [Hx.out];exact decide_eq_false (by omega)
    have f4:decide (57<(((s[k]'hks).toNat:Nat):Int))=true:=by rw [Hx.out];exact decide_eq_true (by omega)
    have f5:((((s[k]'hks).toNat:Nat):Int) != 45)=true:=by rw [Hx.out];simp;omega
    have hbad:nmCh (s[k]'hks)=false:=by rw [HNC.out,decide_eq_false_iff_not];omega
    have HB:=Lib.hid (HBAD.out hbad);clear hbad;clear hc HX
    go_wp2_with fail
    go_ret;exact ⟨by rw [HB.out];rfl,_,rfl⟩
   ·
    have f1:decide ((((s[k]'hks).toNat:Nat):Int)<97)=false:=by rw [Hx.out];exact decide_eq_false (by omega)
    have f2:decide (122<(((s[k]'hks).toNat:Nat):Int))=true:=by rw [Hx.out];exact decide_eq_true (by omega)
    have f3:decide ((((s[k]'hks).toNat:Nat):Int)<48)=false:=by rw [Hx.out];exact decide_eq_false (by omega)
    have f4:decide (57<(((s[k]'hks).toNat:Nat):Int))=true:=by rw [Hx.out];exact decide_eq_true (by omega)
    have f5:((((s[k]'hks).toNat:Nat):Int) != 45)=true:=by rw [Hx.out];simp;omega
    have hbad:nmCh (s[k]'hks)=false:=by rw [HNC.out,decide_eq_false_iff_not];omega
    have HB:=Lib.hid (HBAD.out hbad);clear hbad;clear hc HX
    go_wp2_with fail
    go_ret;exact ⟨by rw [HB.out];rfl,_,rfl⟩
  ·
   obtain rfl:n=k:=by omega
   have HRE:Hid (R=decide (1≤n∧n≤16)):=by
    have:=HA.out;rw [←Hn.out] at this;show _=_;rw [←HR.out,all_ok this,Hn.out]
   by_cases h1:1≤n
   ·
    have f1:decide ((1:Int)≤(n:Int))=true:=decide_eq_true (by omega)
    by_cases h2:n≤16
    ·
     have f2:decide ((n:Int)≤16)=true:=decide_eq_true (by omega)
     have HR2:Hid (R=true):=by show _=_;rw [HRE.out];exact decide_eq_true ⟨h1,h2⟩
     clear h1 h2
     go_wp2_with fail
     go_ret;exact ⟨by rw [HR2.out];rfl,_,rfl⟩
    ·
     have f2:decide ((n:Int)≤16)=false:=decide_eq_false (by omega)
     have HR2:Hid (R=false):=by show _=_;rw [HRE.out];exact decide_eq_false (by omega)
     clear h1 h2
     go_wp2_with fail
     go_ret;exact ⟨by rw [HR2.out];rfl,_,rfl⟩
   ·
    have f1:decide ((1:Int)≤(n:Int))=false:=decide_eq_false (by omega)
    have HR2:Hid (R=false):=by show _=_;rw [HRE.out];exact decide_eq_false (by omega)
    clear h1
    go_wp2_with fail
    go_ret;exact ⟨by rw [HR2.out];rfl,_,rfl⟩
set_option maxRecDepth 100000 in
set_option maxHeartbeats 4000000 in
theorem rlVC1_c (n:Int) (b:Nat) (ss:List Int) (A:Option Addr) (c:Nat) (F:Nat→Prop) (w:World) (hb:w.cell? ⟨b,0,none⟩=some (.slice A ss.length c)) (hs:Ints w F A ss) :
  Calls Tryz.prog 87 #[.int .i64 n,.pointer (some ⟨b,0,none⟩)] w fun e w'=>e=.returned (.bool (isValF ss n))∧w=w':=by
 obtain ⟨l,Hl⟩:=nm ss.length;obtain ⟨R,HR⟩:=nm (isValF ss n)
 have HD:Hid (R=decide (1≤n∧n<(l:Int)∧ss.getD n.toNat 0=1)):=by show _=_;rw [←HR.out,←Hl.out];rfl
 rw [Hl.out] at hb;rw [HR.out]
 by_cases h1:1≤n
 ·
  have f1:decide ((1:Int)≤n)=true:=decide_eq_true h1
  by_cases h2:n<(l:Int)
  ·
   have f2:decide (n<(l:Int))=true:=decide_eq_true h2;obtain ⟨j,rfl⟩:∃j:Nat,n=(j:Int):=Int.eq_ofNat_of_zero_le (by omega)
   have hj:j<ss.length:=by rw [Hl.out];omega
   obtain ⟨g,o,rfl,_,_,hx⟩:=hs.at_ hj
   have HE:Hid (R=decide (ss[j]=1)):=by show _=_;rw [HD.out,Int.toNat_natCast,getD_of hj];simp [h1,h2]
   generalize ss[j]=x at *;clear h1;go_enter Tryz.func87,Tryz.ntmps87
   go_wp2_with fail
   go_ret;refine ⟨?_,rfl⟩;rw [HE.out];show Ending.returned (Value.bool _)=_
   congr 2
  ·
   have f2:decide (n<(l:Int))=false:=decide_eq_false h2
   have HE:Hid (R=false):=by show _=_;rw [HD.out];exact decide_eq_false (fun q=>h2 q.2.1)
   clear h1 h2;go_enter Tryz.func87,Tryz.ntmps87
   go_wp2_with fail
   go_ret;exact ⟨by rw [HE.out];rfl,rfl⟩
 ·
  have f1:decide ((1:Int)≤n)=false:=decide_eq_false h1
  have HE:Hid (R=false):=by show _=_;rw [HD.out];exact decide_eq_false (fun q=>h1 q.1)
  clear h1;go_enter Tryz.func87,Tryz.ntmps87
  go_wp2_with fail
  go_ret;exact ⟨by rw [HE.out];rfl,rfl⟩
set_option maxRecDepth 100000 in
set_option maxHeartbeats 4000000 in
theorem rlVC2_c (n m:Int) (b:Nat) (w:World) (hb:w.cell? ⟨b,0,none⟩=some (.int .i64 m)) :
  Calls Tryz.prog 88 #[.int .i64 n,.pointer (some ⟨b,0,none⟩)] w fun e w'=>e=.returned (.bool (isImmF m n))∧w=w':=by
 obtain ⟨R,HR⟩:=nm (isImmF m n)
 have HD:Hid (R=decide (1≤n∧n≤m)):=by show _=_;rw [←HR.out];rfl
 rw [HR.out]
 by_cases h1:1≤n
 ·
  have f1:decide ((1:Int)≤n)=true:=decide_eq_true h1
  have HE:Hid (R=decide (n≤m)):=by show _=_;rw [HD.out];simp [h1]
  clear h1;go_enter Tryz.func88,Tryz.ntmps88
  go_wp2_with fail
  go_ret;exact ⟨by rw [HE.out];rfl,rfl⟩
 ·
  have f1:decide ((1:Int)≤n)=false:=decide_eq_false h1
  have HE:Hid (R=false):=by show _=_;rw [HD.out];exact decide_eq_false (fun q=>h1 q.1)
  clear h1;go_enter Tryz.func88,Tryz.ntmps88
  go_wp2_with fail
  go_ret;exact ⟨by rw [HE.out];rfl,rfl⟩
set_option maxRecDepth 100000 in
set_option maxHeartbeats 4000000 in
theorem rlValidCond_c (x:Cd) (ss:List Int) (m:Int) (A:Option Addr) (c:Nat) (F:Nat→Prop) (w:World) (hs:Ints w F A ss) :
  Calls Tryz.prog 48 #[.agg #[.int .i64 x.kind,.int .i64 x.a,.int .i64 x.b,.int .i64 x.n],.slice A ss.length c,.int .i64 m] w fun e w'=>e=.returned (.bool (condF x ss m))∧Upd Non w w':=by
 obtain ⟨k,a,b,n⟩:=x;dsimp only;obtain ⟨W1,HW1⟩:=nm (w.alloc (.cells #[.int .i64 k,.int .i64 a,.int .i64 b,.int .i64 n] 69));obtain ⟨W2,HW2⟩:=nm (W1.alloc (.cells #[.slice A ss.length c] 22));obtain ⟨W3,HW3⟩:=nm (W2.alloc (.cells #[.int .i64 m] 3))
 have u1:Upd Non w W1:=by rw [←HW1.out];exact Upd.refl.alloc _
 have u2:Upd Non W1 W2:=by rw [←HW2.out];exact Upd.refl.alloc _
 have u3:Upd Non W2 W3:=by rw [←HW3.out];exact Upd.refl.alloc _
 have s1:W1.heap.size=w.heap.size+1:=by rw [←HW1.out];simp
 have s2:W2.heap.size=w.heap.size+2:=by rw [←HW2.out];simp [s1]
 have b1:Blk W1 w.heap.size 69 #[.int .i64 k,.int .i64 a,.int .i64 b,.int .i64 n]:=by rw [←HW1.out];exact Blk.new _ _ _
 have b2:Blk W2 (w.heap.size+1) 22 #[.slice A ss.length c]:=by rw [←HW2.out,←s1];exact Blk.new _ _ _
 have b3:Blk W3 (w.heap.size+2) 3 #[.int .i64 m]:=by rw [←HW3.out,←s2];exact Blk.new _ _ _
 have b2:=b2.upd u3 (fun f=>f);have b1:=(b1.upd u2 (fun f=>f)).upd u3 (fun f=>f);have e1:=HW1.out;have e2:=HW2.out;have e3:=HW3.out;have U:Upd Non w W3:=(u1.then_non u2).then_non u3;have hs:=hs.upd U (fun _ _ _ f=>f);have CV:=Lib.hid (fun n=>rlVC1_c n (w.heap.size+1) ss A c F W3 (b2.cell 0) hs)
 have CM:=Lib.hid (fun n=>rlVC2_c n m (w.heap.size+2) W3 (b3.cell 0));have c0:=b1.cell 0;have c1:=b1.cell 1;have c2:=b1.cell 2;have c3:=b1.cell 3
 have hmf:∀(fn:Fn) (first cap:Array Value) (w:World),(Instr.makeFunc fn first cap).run Tryz.prog w=.ok (.func fn first cap) w:=fun _ _ _ _=>rfl
 obtain ⟨l,Hl⟩:=nm ss.length;rw [Hl.out] at e2;rw [Hl.out];obtain ⟨R,HR⟩:=nm (condF ⟨k,a,b,n⟩ ss m);rw [HR.out];have HR1:Hid (R=condF ⟨k,a,b,n⟩ ss m):=HR.out.symm;unfold condF at HR1;dsimp only at HR1;obtain ⟨va,Hva⟩:=nm (isValF ss a);obtain ⟨vb,Hvb⟩:=nm (isValF ss b);obtain ⟨ia,Hia⟩:=nm (isImmF m a);obtain ⟨ib,Hib⟩:=nm (isImmF m b);have CVa:=Lib.hid (CV.out a)
 have CVb:=Lib.hid (CV.out b);have CMa:=Lib.hid (CM.out a);have CMb:=Lib.hid (CM.out b);rw [Hva.out] at HR1 CVa;rw [Hvb.out] at HR1 CVb;rw [Hia.out] at HR1 CMa;rw [Hib.out] at HR1 CMb;clear CV CM b1 b2 b3 hs HR u1 u2 u3;obtain ⟨tb,ftb⟩:∃t,(b==0)=t:=⟨_,rfl⟩;obtain ⟨tn,ftn⟩:∃t,(n==0)=t:=⟨_,rfl⟩;obtain ⟨tab,ftab⟩:∃t,(a != b)=t:=⟨_,rfl⟩
 have gtb:decide (b=0)=tb:=by rw [←ftb,Bool.eq_iff_iff];simp
 have gtn:decide (n=0)=tn:=by rw [←ftn,Bool.eq_iff_iff];simp
 have gtab:decide (a≠b)=tab:=by rw [←ftab,Bool.eq_iff_iff];simp
 rw [gtb,gtn,gtab] at HR1;clear gtb gtn gtab
 by_cases h1:k=1
 ·
  subst h1;have HE0:Hid (R=(va&&tb&&tn)):=HR1.out;go_enter Tryz.func48,Tryz.ntmps48
  go_wp2_with fail
  refine CVa.out.mono ?_;rintro e w5 ⟨rfl,rfl⟩
  cases va with
  | false =>
   have HE:Hid (R=false):=HE0.out
   go_wp2_with fail
   go_ret;exact ⟨by rw [HE.out];rfl,U⟩
  | true =>
   cases tb with
   | false =>
    have HE:Hid (R=false):=HE0.out
    go_wp2_with fail
    go_ret;exact ⟨by rw [HE.out];rfl,U⟩
   | true =>
    have HE:Hid (R=tn):=HE0.out
    go_wp2_with fail
    go_ret;exact ⟨by rw [HE.out];rfl,U⟩
 ·
  by_cases h2:k=2∨k=3
  ·
   have HE0:Hid (R=(va&&tb)):=by have:=HR1.out;rw [if_neg h1,if_pos h2] at this;exact this
   rcases h2 with rfl | rfl
   ·
    go_enter Tryz.func48,Tryz.ntmps48
    go_wp2_with fail
    refine CVa.out.mono ?_;rintro e w5 ⟨rfl,rfl⟩
    cases va with
    | false =>
     have HE:Hid (R=false):=HE0.out
     go_wp2_with fail
     go_ret;exact ⟨by rw [HE.out];rfl,U⟩
    | true =>
     have HE:Hid (R=tb):=HE0.out
     go_wp2_with fail
     go_ret;exact ⟨by rw [HE.out];rfl,U⟩
   ·
    go_enter Tryz.func48,Tryz.ntmps48
    go_wp2_with fail
    refine CVa.out.mono ?_;rintro e w5 ⟨rfl,rfl⟩
    cases va with
    | false =>
     have HE:Hid (R=false):=HE0.out
     go_wp2_with fail
     go_ret;exact ⟨by rw [HE.out];rfl,U⟩
    | true =>
     have HE:Hid (R=tb):=HE0.out
     go_wp2_with fail
     go_ret;exact ⟨by rw [HE.out];rfl,U⟩
  ·
   have HR2:=HR1.out;rw [if_neg h1,if_neg h2] at HR2
   have t1:(k==1)=false:=by simpa using h1
   have t2:(k==2)=false:=by simp;omega
   have t3:(k==3)=false:=by simp;omega
   have HR1:=Lib.hid HR2;clear HR2 h1 h2
   by_cases h4:k=4
   ·
    subst h4;have HE0:Hid (R=(va&&vb&&tab&&tn)):=HR1.out;go_enter Tryz.func48,Tryz.ntmps48
    go_wp2_with fail
    refine CVa.out.mono ?_;rintro e w5 ⟨rfl,rfl⟩
    cases va with
    | false =>
     have HE:Hid (R=false):=HE0.out
     go_wp2_with fail
     go_ret;exact ⟨by rw [HE.out];rfl,U⟩
    | true =>
     go_wp2_with fail
     refine CVb.out.mono ?_;rintro e w5 ⟨rfl,rfl⟩
     cases vb with
     | false =>
      have HE:Hid (R=false):=HE0.out
      go_wp2_with fail
      go_ret;exact ⟨by rw [HE.out];rfl,U⟩
     | true =>
      cases tab with
      | false =>
       have HE:Hid (R=false):=HE0.out
       go_wp2_with fail
       go_ret;exact ⟨by rw [HE.out];rfl,U⟩
      | true =>
       have HE:Hid (R=tn):=HE0.out
       go_wp2_with fail
       go_ret;exact ⟨by rw [HE.out];rfl,U⟩
   ·
    have HR2:=HR1.out;rw [if_neg h4] at HR2
    have t4:(k==4)=false:=by simpa using h4
    have HR1:=Lib.hid HR2;clear HR2 h4
    by_cases h5:k=5
    ·
     subst h5;have HE0:Hid (R=(va&&ib&&tn)):=HR1.out;go_enter Tryz.func48,Tryz.ntmps48
     go_wp2_with fail
     refine CVa.out.mono ?_;rintro e w5 ⟨rfl,rfl⟩
     cases va with
     | false =>
      have HE:Hid (R=false):=HE0.out
      go_wp2_with fail
      go_ret;exact ⟨by rw [HE.out];rfl,U⟩
     | true =>
      go_wp2_with fail
      refine CMb.out.mono ?_;rintro e w5 ⟨rfl,rfl⟩
      cases ib with
      | false =>
       have HE:Hid (R=false):=HE0.out
       go_wp2_with fail
       go_ret;exact ⟨by rw [HE.out];rfl,U⟩
      | true =>
       have HE:Hid (R=tn):=HE0.out
       go_wp2_with fail
       go_ret;exact ⟨by rw [HE.out];rfl,U⟩
    ·
     have HR2:=HR1.out;rw [if_neg h5] at HR2
     have t5:(k==5)=false:=by simpa using h5
     have HR1:=Lib.hid HR2;clear HR2 h5
     by_cases h6:k=6
     ·
      subst h6;have HE0:Hid (R=(ia&&ib&&tab&&tn)):=HR1.out;go_enter Tryz.func48,Tryz.ntmps48
      go_wp2_with fail
      refine CMa.out.mono ?_;rintro e w5 ⟨rfl,rfl⟩
      cases ia with
      | false =>
       have HE:Hid (R=false):=HE0.out
       go_wp2_with fail
       go_ret;exact ⟨by rw [HE.out];rfl,U⟩
      | true =>
       go_wp2_with fail
       refine CMb.out.mono ?_;rintro e w5 ⟨rfl,rfl⟩
       cases ib with
       | false =>
        have HE:Hid (R=false):=HE0.out
        go_wp2_with fail
        go_ret;exact ⟨by rw [HE.out];rfl,U⟩
       | true =>
        cases tab with
        | false =>
         have HE:Hid (R=false):=HE0.out
         go_wp2_with fail
         go_ret;exact ⟨by rw [HE.out];rfl,U⟩
        | true =>
         have HE:Hid (R=tn):=HE0.out
         go_wp2_with fail
         go_ret;exact ⟨by rw [HE.out];rfl,U⟩
     ·
      have HR2:=HR1.out;rw [if_neg h6] at HR2
      have t6:(k==6)=false:=by simpa using h6
      have HE:=Lib.hid HR2;clear HR2 h6;go_enter Tryz.func48,Tryz.ntmps48
      go_wp2_with fail
      go_ret;exact ⟨by rw [HE.out];rfl,U⟩
theorem rl_cells {w:World} {b:Nat} {t:TypeId} {r:Rl} {a:RlA} (h:Blk w b t (rlCells r a)) :
  w.cell? ⟨b,0,none⟩=some (.string r.name)∧w.cell? ⟨b,1,none⟩=some (.int .i64 r.l.v)∧w.cell? ⟨b,2,none⟩=some (.int .i64 r.l.op)∧w.cell? ⟨b,3,none⟩=some (.int .i64 r.l.imm)∧w.cell? ⟨b,4,none⟩=some (.int .i64 r.l.iv)∧w.cell? ⟨b,5,none⟩=some (.slice a.la r.l.kids.length a.lc) ∧
  w.cell? ⟨b,6,none⟩=some (.int .i64 r.r.v)∧w.cell? ⟨b,7,none⟩=some (.int .i64 r.r.op)∧w.cell? ⟨b,8,none⟩=some (.int .i64 r.r.imm)∧w.cell? ⟨b,9,none⟩=some (.int .i64 r.r.iv)∧w.cell? ⟨b,10,none⟩=some (.slice a.ra r.r.kids.length a.rc) ∧
  w.cell? ⟨b,11,none⟩=some (.slice a.ca r.conds.length a.cc)∧w.cell? ⟨b,12,none⟩=some (.int .i64 r.vars)∧w.cell? ⟨b,13,none⟩=some (.int .i64 r.imms):=by
 refine ⟨?_,?_,?_,?_,?_,?_,?_,?_,?_,?_,?_,?_,?_,?_⟩ <;> (rw [h.cell];rfl)
theorem VBlk.ints {w:World} {g:Nat} {vs:List Int} (h:VBlk w g vs):Ints w (fun _=>True) (some ⟨g,0,none⟩) vs:=by
 have:=Sl.of_blk (F:=fun _=>True) trivial h vs.length;unfold Ints
 have e:(icells vs).toArray.toList.take vs.length=icells vs:=by
  rw [List.take_of_length_le (by simp [icells])]
 rw [e] at this;exact this
structure RlSz (x:Rl):Prop where
 l:x.l.size≤1000000000000
 r:x.r.size≤1000000000000
 c:x.conds.length≤1000000000000
 n:x.name.size≤1000000000000000
theorem VBlk.new (w:World) (n:Nat):VBlk (w.alloc (.cells (Array.replicate n (.int .i64 0)) 3)) w.heap.size (List.replicate n 0):=by
 unfold VBlk;rw [show (icells (List.replicate n 0)).toArray=Array.replicate n (.int .i64 0) by simp [icells]];exact Blk.new _ _ _
set_option maxRecDepth 100000 in
set_option maxHeartbeats 4000000 in
theorem rlValid_c (r:Rl) (a:RlA) (F:Nat→Prop) (w:World) (hk:RlK w F r a) (hz:RlSz r) :
  Calls Tryz.prog 21 #[rlv r a] w fun e w'=>e=.returned (.bool (implF r))∧Upd Non w w':=by
 obtain ⟨W,HW⟩:=nm (w.alloc (.cells (rlCells r a) 43))
 have hU:Upd Non w W:=by rw [←HW.out];exact Upd.refl.alloc _
 have hb:Blk W w.heap.size 43 (rlCells r a):=by rw [←HW.out];exact Blk.new _ _ _
 have hsz:W.heap.size=w.heap.size+1:=by rw [←HW.out];simp
 have e0:=HW.out;have hK:=(hk.mono (G:=fun k=>k<w.heap.size) (fun _ h _=>h)).upd hU (fun _ _ _ f=>f);have HC:=Lib.hid (fun (w':World) (u:Upd Non W w')=>rl_cells (hb.upd u (fun f=>f)));obtain ⟨c0,c1,c2,c3,c4,c5,c6,c7,c8,c9,c10,c11,c12,c13⟩:=HC.out W Upd.refl;have CL:=Lib.hid (ptValid_c r.l W _ a.la a.lc r.vars r.imms hK.l hz.l)
 have CR:=Lib.hid (fun (w':World) (u:Upd Non W w')=>ptValid_c r.r w' _ a.ra a.rc r.vars r.imms (PtK.upd u (fun _ _ _ f=>f) _ _ _ hK.r) hz.r);have CN:=Lib.hid (fun w'=>rlValidName_c r.name w' hz.n);have HZ:=Lib.hid hz;have HK:=Lib.hid hK;unfold pv at CL CR;unfold rlv;unfold rlCells at e0 ⊢;obtain ⟨R,HR⟩:=nm (implF r);rw [HR.out]
 have HR1:Hid (R=(decide (r.l.v=0)&&validF r.l r.vars r.imms&&validF r.r r.vars r.imms&&nameF r.name&&decide (r.conds.length≤6)&&implG r)):=HR.out.symm
 have HVL:Hid (∀b,validF r.l r.vars r.imms=b→validF r.l r.vars r.imms=b):=fun _ h=>h
 obtain ⟨vl,Hvl⟩:=nm (validF r.l r.vars r.imms);obtain ⟨vr,Hvr⟩:=nm (validF r.r r.vars r.imms);obtain ⟨vn,Hvn⟩:=nm (nameF r.name);rw [Hvl.out] at CL HR1;rw [Hvr.out] at CR HR1;rw [Hvn.out] at CN HR1;clear hk hz hK HR HVL hb
 by_cases hv:r.l.v=0
 ·
  have t1:(r.l.v != 0)=false:=by simp [hv]
  have HR2:Hid (R=(vl&&vr&&vn&&decide (r.conds.length≤6)&&implG r)):=by show _=_;rw [HR1.out,decide_eq_true hv];simp
  have HLV:=Lib.hid hv;clear hv HR1;go_enter Tryz.func21,Tryz.ntmps21
  go_wp2_with fail
  refine CL.out.mono ?_;rintro e w1 ⟨rfl,u1⟩;have HU:=hU.then_non u1;obtain ⟨c0,c1,c2,c3,c4,c5,c6,c7,c8,c9,c10,c11,c12,c13⟩:=HC.out _ u1
  cases vl with
  | false =>
   have HF:Hid (R=false):=HR2.out
   go_wp2_with fail
   go_ret;exact ⟨by rw [HF.out];rfl,HU⟩
  | true =>
   go_wp2_with fail
   refine (CR.out _ u1).mono ?_;rintro e w2 ⟨rfl,u2'⟩;have u2:=u1.then_non u2';have HU:=hU.then_non u2;obtain ⟨c0,c1,c2,c3,c4,c5,c6,c7,c8,c9,c10,c11,c12,c13⟩:=HC.out _ u2
   cases vr with
   | false =>
    have HF:Hid (R=false):=HR2.out
    go_wp2_with fail
    go_ret;exact ⟨by rw [HF.out];rfl,HU⟩
   | true =>
    go_wp2_with fail
    refine (CN.out _).mono ?_;rintro e w3 ⟨rfl,q3,rfl⟩;have u3:Upd Non W (w2.drewN q3):=u2.drewN _;have HU:=hU.then_non u3;obtain ⟨w3,Hw3⟩:=nm (w2.drewN q3);rw [Hw3.out] at u3 HU ⊢;obtain ⟨c0,c1,c2,c3,c4,c5,c6,c7,c8,c9,c10,c11,c12,c13⟩:=HC.out _ u3
    cases vn with
    | false =>
     have HF:Hid (R=false):=HR2.out
     go_wp2_with fail
     go_ret;exact ⟨by rw [HF.out];rfl,HU⟩
    | true =>
     by_cases h6:r.conds.length≤6
     ·
      have t2:decide ((6:Int)<(r.conds.length:Int))=false:=decide_eq_false (by omega)
      have HR3:Hid (R=implG r):=by show _=_;rw [HR2.out,decide_eq_true h6];rfl
      have H6:=Lib.hid h6;clear h6 HR2 CL CR CN
      obtain ⟨hvl,hshl⟩:(0≤r.vars∧r.vars≤6∧0≤r.imms∧r.imms≤6)∧shp r.l 0 r.imms r.vars.toNat=true:=by
       have h:=Hvl.out;unfold validF at h;simp only [Bool.and_eq_true,decide_eq_true_eq] at h;obtain ⟨v1,a1,_⟩:=vPt_fst.1 h.2;rw [List.length_replicate] at a1;exact ⟨by omega,a1⟩
      have hshr:shp r.r 0 r.imms r.vars.toNat=true:=by
       have h:=Hvr.out;unfold validF at h;simp only [Bool.and_eq_true,decide_eq_true_eq] at h;obtain ⟨v1,a1,_⟩:=vPt_fst.1 h.2;rw [List.length_replicate] at a1;exact a1
      have HSL:=Lib.hid hshl;have HSR:=Lib.hid hshr;obtain ⟨n,Hn⟩:∃n:Nat,Hid (r.vars=(n:Int)):=Int.eq_ofNat_of_zero_le hvl.1;obtain ⟨m,Hm⟩:∃m:Nat,Hid (r.imms=(m:Int)):=Int.eq_ofNat_of_zero_le hvl.2.2.1
      have hn6:n≤6:=by have:=Hn.out;omega
      have hm6:m≤6:=by have:=Hm.out;omega
      obtain ⟨N,HN⟩:=nm (n+1);obtain ⟨M,HM⟩:=nm (m+1)
      have hN7:N≤7:=by rw [←HN.out];omega
      have hM7:M≤7:=by rw [←HM.out];omega
      have hwN:IntKind.i64.wrap ((n:Int)+1)=(N:Int):=by rw [i64w_of (by unfold I64;omega),←HN.out];omega
      have hwM:IntKind.i64.wrap ((m:Int)+1)=(M:Int):=by rw [i64w_of (by unfold I64;omega),←HM.out];omega
      have mkN:=run_mk T_ints' zero_int_ rfl N (by omega) (by omega);have mkM:=run_mk T_ints' zero_int_ rfl M (by omega) (by omega);rw [Hn.out] at c12;rw [Hm.out] at c13;clear hvl hshl hshr
      go_upto_region 3 with fail
      go_cut [3,4] (fun v i wx=>∃gv gi:Nat,v=.slice (some ⟨gv,0,none⟩) N N∧i=.slice (some ⟨gi,0,none⟩) M M∧VBlk wx gv (List.replicate N 0)∧VBlk wx gi (List.replicate M 0)∧gv≠gi∧W.heap.size≤gv∧W.heap.size≤gi∧Upd Non W wx)
      case first =>
       obtain ⟨wD,HwD⟩:=nm w3.drew
       have uD:Upd Non w3 wD:=by rw [←HwD.out];exact Upd.refl.drew
       have vD:=u3.then_non uD;have hsD:=vD.size
       refine wp_region_held_drew (S:=fun w'=>w'.cell? ⟨w.heap.size,12,none⟩=some (.int .i64 n)∧w'.cell? ⟨w.heap.size,13,none⟩=some (.int .i64 m)) (by kernel_rfl) (by rw [HwD.out];exact ⟨cell_upd c12 uD (fun f=>f),cell_upd c13 uD (fun f=>f)⟩) (fun hHeld=>?_)
       rw [HwD.out] at hHeld ⊢;refine wpT 0 ?_
       try simp only [put_y,put_z]
       refine wpT 1 ?_
       try simp only [put_y,put_z]
       refine wpT 2 ?_
       try simp only [put_y,put_z]
       refine wpT 4 ?_
       try simp only [put_y,put_z]
       refine wpT 5 ?_
       try simp only [put_y,put_z]
       refine wpT 6 ?_
       try simp only [put_y,put_z]
       refine wpAnyH_ready (rs:=[3,7]) (by kernel_rfl) (by simp) ?_;refine AllReadyH.cons rfl (fun K hK=>?_) (AllReadyH.cons rfl (fun K hK=>?_) AllReadyH.nil)
       ·
        go_simp;have uA:Upd Non wD (wD.alloc (.cells (Array.replicate N (.int .i64 0)) 3)):=Upd.refl.alloc _;refine hK.out _ _ ?_ (fun hHeld=>?_)
        ·
         exact ⟨cell_upd c12 (uD.then_non uA) (fun f=>f),cell_upd c13 (uD.then_non uA) (fun f=>f)⟩
        clear hK K
        try simp only [put_y,put_z]
        have hA:=VBlk.new wD N
        have hAs:(wD.alloc (.cells (Array.replicate N (.int .i64 0)) 3)).heap.size=wD.heap.size+1:=by simp
        obtain ⟨wA,HwA⟩:=nm (wD.alloc (.cells (Array.replicate N (.int .i64 0)) 3));rw [HwA.out] at uA hA hAs hHeld ⊢;refine wpT 8 ?_
        try simp only [put_y,put_z]
        refine wpAnyH_ready (rs:=[7]) (by kernel_rfl) (by simp) ?_;refine AllReadyH.cons rfl (fun K hK=>?_) AllReadyH.nil;go_simp;have uB:Upd Non wA (wA.alloc (.cells (Array.replicate M (.int .i64 0)) 3)):=Upd.refl.alloc _;have uC:=(uD.then_non uA).then_non uB;refine hK.out _ _ ?_ (fun hHeld=>?_)
        ·
         exact ⟨cell_upd c12 uC (fun f=>f),cell_upd c13 uC (fun f=>f)⟩
        clear hK K
        try simp only [put_y,put_z]
        refine wpT 9 ?_
        try simp only [put_y,put_z]
        refine wpAnyH_done (by kernel_rfl) ?_ _
        go_wp2_with fail
        go_meet
        case rel=>exact ⟨wD.heap.size,wD.heap.size+1,rfl,rfl,Blk.upd hA uB (fun f=>f),by rw [←hAs];exact VBlk.new wA M,by omega,by omega,by omega,u3.then_non uC⟩
       ·
        go_simp;have uA:Upd Non wD (wD.alloc (.cells (Array.replicate M (.int .i64 0)) 3)):=Upd.refl.alloc _;refine hK.out _ _ ?_ (fun hHeld=>?_)
        ·
         exact ⟨cell_upd c12 (uD.then_non uA) (fun f=>f),cell_upd c13 (uD.then_non uA) (fun f=>f)⟩
        clear hK K
        try simp only [put_y,put_z]
        have hA:=VBlk.new wD M
        have hAs:(wD.alloc (.cells (Array.replicate M (.int .i64 0)) 3)).heap.size=wD.heap.size+1:=by simp
        obtain ⟨wA,HwA⟩:=nm (wD.alloc (.cells (Array.replicate M (.int .i64 0)) 3));rw [HwA.out] at uA hA hAs hHeld ⊢;refine wpAnyH_ready (rs:=[3]) (by kernel_rfl) (by simp) ?_;refine AllReadyH.cons rfl (fun K hK=>?_) AllReadyH.nil;go_simp;have uB:Upd Non wA (wA.alloc (.cells (Array.replicate N (.int .i64 0)) 3)):=Upd.refl.alloc _;have uC:=(uD.then_non uA).then_non uB
        refine hK.out _ _ ?_ (fun hHeld=>?_)
        ·
         exact ⟨cell_upd c12 uC (fun f=>f),cell_upd c13 uC (fun f=>f)⟩
        clear hK K
        try simp only [put_y,put_z]
        refine wpT 8 ?_
        try simp only [put_y,put_z]
        refine wpT 9 ?_
        try simp only [put_y,put_z]
        refine wpAnyH_done (by kernel_rfl) ?_ _
        go_wp2_with fail
        go_meet
        case rel=>exact ⟨wD.heap.size+1,wD.heap.size,rfl,rfl,by rw [←hAs];exact VBlk.new wA N,Blk.upd hA uB (fun f=>f),by omega,by omega,by omega,u3.then_non uC⟩
      case rest =>
       obtain ⟨gv,gi,rfl,rfl,hgv,hgi,hne,hv1,hi1,u4⟩:=hcut
       have hFv:¬(fun k=>k<w.heap.size) gv:=by show ¬gv<w.heap.size;omega
       have hFi:¬(fun k=>k<w.heap.size) gi:=by show ¬gi<w.heap.size;omega
       obtain ⟨c0,c1,c2,c3,c4,c5,c6,c7,c8,c9,c10,c11,c12,c13⟩:=HC.out _ u4;have CS:=Lib.hid (fun op w=>rlSorts_c op w);unfold implG at HR3;rw [show r.vars.toNat+1=N by rw [Hn.out,←HN.out];rfl,show r.imms.toNat+1=M by rw [Hm.out,←HM.out];rfl] at HR3
       have HVN:Hid (r.vars.toNat=n):=by show _=_;rw [Hn.out];rfl
       rw [HVN.out] at HSL HSR;rw [Hm.out] at HSL HSR HR3;rw [Hn.out] at c12;rw [Hm.out] at c13
       have CCL:=Lib.hid (fun (w':World) (gv' gi':Nat) (own:Int) (u:Upd Non W w') h1 h2 h3 h4 h5=>rlCollect_c r.l w' _ a.la a.lc gv' N gi' M own 0 m n (List.replicate N 0) (List.replicate M 0) (PtK.upd u (fun _ _ _ f=>f) _ _ _ HK.out.l) h1 h2 h3 h4 h5 HSL.out (by rw [List.length_replicate,HN.out]) (by rw [List.length_replicate,HM.out]) (by omega) (by omega))
       rw [List.length_replicate,List.length_replicate] at CCL;obtain ⟨own,Hown⟩:=nm (rsF r.l.op).2;rw [Hown.out] at HR3;obtain ⟨V1,HV1⟩:=nm (colV (occ r.l own) (List.replicate N 0));obtain ⟨I1,HI1⟩:=nm (colI (occI r.l) (List.replicate M 0));rw [HV1.out,HI1.out] at HR3
       have HVL1:Hid (V1.length=n+1∧V1.length=N):=by
        show _∧_;rw [←HV1.out,colV_len,List.length_replicate,HN.out];exact ⟨rfl,rfl⟩
       have HIL1:Hid (I1.length=m+1∧I1.length=M):=by
        show _∧_;rw [←HI1.out,colI_len,List.length_replicate,HM.out];exact ⟨rfl,rfl⟩
       have C1:=Lib.hid (CS.out r.l.op wc);rw [Hown.out] at C1
       go_wp2_with fail
       refine C1.out.mono ?_;rintro e w5 ⟨rfl,u5⟩;obtain ⟨x0,Hx0⟩:=nm ((rsF r.l.op).1.getD 0 0);obtain ⟨x1,Hx1⟩:=nm ((rsF r.l.op).1.getD 1 0);obtain ⟨x2,Hx2⟩:=nm ((rsF r.l.op).1.getD 2 0);rw [Hx0.out,Hx1.out,Hx2.out];obtain ⟨W6,HW6⟩:=nm (w5.alloc (.cells #[.int .i64 x0,.int .i64 x1,.int .i64 x2] 93));have e6:=HW6.out
       have u6:Upd Non w5 W6:=by rw [←e6];exact Upd.refl.alloc _
       have u56:=u5.then_non u6;have u7:=u4.then_non u56;have hs7:=u4.size;obtain ⟨c0,c1,c2,c3,c4,c5,c6,c7,c8,c9,c10,c11,c12,c13⟩:=HC.out _ u7;have C2:=Lib.hid (CCL.out W6 gv gi own u7 hFv hFi hne (Blk.upd hgv u56 (fun f=>f)) (Blk.upd hgi u56 (fun f=>f)));rw [HV1.out,HI1.out] at C2;unfold pv at C2;rw [Hn.out] at c12;rw [Hm.out] at c13;clear C1 CCL hgv hgi
       go_wp2_with fail
       refine C2.out.mono ?_;rintro e w8 ⟨rfl,hgv,hgi,u8⟩;have HU8:Upd Non W w8:=u7.trans u8 (fun i hi h=>by omega);have u89:=u8;obtain ⟨c0,c1,c2,c3,c4,c5,c6,c7,c8,c9,c10,c11,c12,c13⟩:=HC.out _ HU8;rw [Hn.out] at c12;rw [Hm.out] at c13
       have HB1:Hid (((V1.drop 1).all fun x=>decide (x≠0))=true↔∀i:Nat,1≤i→i≤n→V1.getD i 0≠0):=by
        show _↔_;rw [all_drop (d:=0) HVL1.out.1];simp only [decide_eq_true_eq]
       have HB2:Hid (((I1.drop 1).all fun x=>decide (x≠0))=true↔∀i:Nat,1≤i→i≤m→I1.getD i 0≠0):=by
        show _↔_;rw [all_drop (d:=0) HIL1.out.1];simp only [decide_eq_true_eq]
       obtain ⟨b1,Hb1⟩:=nm ((V1.drop 1).all fun x=>decide (x≠0));obtain ⟨b2,Hb2⟩:=nm ((I1.drop 1).all fun x=>decide (x≠0));rw [Hb1.out] at HB1 HR3;rw [Hb2.out] at HB2 HR3;have hNn:N=n+1:=HN.out.symm;have hMm:M=m+1:=HM.out.symm;have HNn:=Lib.hid hNn;have HMm:=Lib.hid hMm;have HU:=hU.then_non HU8;clear C2 hNn hMm mkN mkM u8 u5 u6 u56
       go_wp2_with fail
       go_loopg [7] n (fun g i wr=>∃k:Nat,Hid (g=n+1 - k)∧1≤k∧k≤n+1∧i=.int .i64 k∧Hid (∀j:Nat,1≤j→j<k→V1.getD j 0≠0)∧w8=wr)
       case atStart=>exact ⟨1,by show _=_;omega,by omega,by omega,rfl,fun j h1 h2=>by omega,rfl⟩
       case round =>
        obtain ⟨k,Hg,hk1,hk2,rfl,HA,rfl⟩:=hrel
        by_cases hlt:k≤n
        ·
         have t3:decide (k≤n)=true:=decide_eq_true (by omega)
         have hkN:(k:Int)<(N:Int):=by have:=HNn.out;omega
         have hk0:(0:Int)≤(k:Int):=by omega
         have x1:=VBlk.cell hgv (i:=k) (by rw [HVL1.out.1];omega);obtain ⟨z,Hz⟩:=nm (V1.getD k 0);rw [Hz.out] at x1
         by_cases h0:z=0
         ·
          subst h0
          have hb:b1=false:=by
           rw [Bool.eq_false_iff];intro q;exact HB1.out.1 q k hk1 hlt Hz.out
          have HF:Hid (R=false):=by show _=_;rw [HR3.out,hb];rfl
          clear hb
          go_wp2_with fail
          go_ret;exact ⟨by rw [HF.out];rfl,HU⟩
         ·
          have t4:(z==0)=false:=by simpa using h0
          have HA2:Hid (∀j:Nat,1≤j→j<k+1→V1.getD j 0≠0):=by
           intro j j1 j2
           by_cases e:j=k
           ·
            rw [e,Hz.out];exact h0
           ·
            exact HA.out j j1 (by omega)
          clear h0
          go_wp2_with fail
          go_roundg (n+1 - (k+1))
          case measure=>rw [Hg.out];omega
          case rel=>exact ⟨k+1,rfl,by omega,by omega,by go_num,HA2,rfl⟩
        ·
         have t3:decide (k≤n)=false:=decide_eq_false (by omega);have hb1:b1=true:=HB1.out.2 (fun i i1 i2=>HA.out i i1 (by omega));subst hb1
         have HR4:Hid (R=(b2&&(decide (r.r.v≠0) || decide ((rsF r.r.op).2=own))&&((colV (occ r.r own) V1).drop 1).all (fun x=>decide (x≠3))&&r.conds.all fun c=>condF c (colV (occ r.r own) V1) (m:Int))):=by show _=_;rw [HR3.out];simp
         clear HA Hg hk1 hk2 hlt HR3
         go_wp2_with fail
         go_loopg [8] m (fun g i wr=>∃k:Nat,Hid (g=m+1 - k)∧1≤k∧k≤m+1∧i=.int .i64 k∧Hid (∀j:Nat,1≤j→j<k→I1.getD j 0≠0)∧w8=wr)
         case atStart=>exact ⟨1,by show _=_;omega,by omega,by omega,rfl,fun j h1 h2=>by omega,rfl⟩
         case round =>
          obtain ⟨k,Hg,hk1,hk2,rfl,HA,rfl⟩:=hrel
          by_cases hlt:k≤m
          ·
           have t3:decide (k≤m)=true:=decide_eq_true (by omega)
           have hkN:(k:Int)<(M:Int):=by have:=HMm.out;omega
           have hk0:(0:Int)≤(k:Int):=by omega
           have x1:=VBlk.cell hgi (i:=k) (by rw [HIL1.out.1];omega);obtain ⟨z,Hz⟩:=nm (I1.getD k 0);rw [Hz.out] at x1
           by_cases h0:z=0
           ·
            subst h0
            have hb:b2=false:=by
             rw [Bool.eq_false_iff];intro q;exact HB2.out.1 q k hk1 hlt Hz.out
            have HF:Hid (R=false):=by show _=_;rw [HR4.out,hb];rfl
            clear hb
            go_wp2_with fail
            go_ret;exact ⟨by rw [HF.out];rfl,HU⟩
           ·
            have t4:(z==0)=false:=by simpa using h0
            have HA2:Hid (∀j:Nat,1≤j→j<k+1→I1.getD j 0≠0):=by
             intro j j1 j2
             by_cases e:j=k
             ·
              rw [e,Hz.out];exact h0
             ·
              exact HA.out j j1 (by omega)
            clear h0
            go_wp2_with fail
            go_roundg (m+1 - (k+1))
            case measure=>rw [Hg.out];omega
            case rel=>exact ⟨k+1,rfl,by omega,by omega,by go_num,HA2,rfl⟩
          ·
           have t3:decide (k≤m)=false:=decide_eq_false (by omega);have hb2:b2=true:=HB2.out.2 (fun i i1 i2=>HA.out i i1 (by omega));subst hb2
           have HR5:Hid (R=((decide (r.r.v≠0) || decide ((rsF r.r.op).2=own))&&((colV (occ r.r own) V1).drop 1).all (fun x=>decide (x≠3))&&r.conds.all fun c=>condF c (colV (occ r.r own) V1) (m:Int))):=by show _=_;rw [HR4.out];simp
           clear HA Hg hk1 hk2 hlt HR4;have C1:=Lib.hid (CS.out r.r.op w8);obtain ⟨sR,HsR⟩:=nm (rsF r.r.op).2;rw [HsR.out] at C1 HR5
           go_wp2_with fail
           refine C1.out.mono ?_;rintro e w9 ⟨rfl,u9⟩;obtain ⟨y0,Hy0⟩:=nm ((rsF r.r.op).1.getD 0 0);obtain ⟨y1,Hy1⟩:=nm ((rsF r.r.op).1.getD 1 0);obtain ⟨y2,Hy2⟩:=nm ((rsF r.r.op).1.getD 2 0);rw [Hy0.out,Hy1.out,Hy2.out];obtain ⟨WA,HWA⟩:=nm (w9.alloc (.cells #[.int .i64 y0,.int .i64 y1,.int .i64 y2] 93));have eA:=HWA.out
           have uA:Upd Non w9 WA:=by rw [←eA];exact Upd.refl.alloc _
           have u9A:=u9.then_non uA;have HUA:=HU8.then_non u9A;have hgvA:VBlk WA gv V1:=Blk.upd hgv u9A (fun f=>f);have hgiA:VBlk WA gi I1:=Blk.upd hgi u9A (fun f=>f);obtain ⟨c0,c1,c2,c3,c4,c5,c6,c7,c8,c9,c10,c11,c12,c13⟩:=HC.out _ HUA;rw [Hn.out] at c12;rw [Hm.out] at c13;have HU:=hU.then_non HUA
           have C2:=Lib.hid (rlCollect_c r.r WA _ a.ra a.rc gv N gi M own 0 m n V1 I1 (PtK.upd HUA (fun _ _ _ f=>f) _ _ _ HK.out.r) hFv hFi hne hgvA hgiA HSR.out HVL1.out.1 HIL1.out.1 (by omega) (by omega))
           rw [HVL1.out.2,HIL1.out.2] at C2
           have HVL2:Hid ((colV (occ r.r own) V1).length=n+1∧(colV (occ r.r own) V1).length=N):=by
            show _∧_;rw [colV_len];exact HVL1.out
           obtain ⟨V2,HV2⟩:=nm (colV (occ r.r own) V1);rw [HV2.out] at C2 HR5 HVL2;unfold pv at C2;clear C1 hgv hgi hgvA hgiA c0 c1 c2 c3 c4 c5
           by_cases hv:r.r.v=0
           ·
            have t5:(r.r.v==0)=true:=by simp [hv]
            by_cases hs:sR=own
            ·
             have t6:(sR != own)=false:=by simp [hs]
             have HR6:Hid (R=(((V2.drop 1).all fun x=>decide (x≠3))&&r.conds.all fun c=>condF c V2 (m:Int))):=by show _=_;rw [HR5.out,decide_eq_true hs];simp
             clear hv hs HR5
             go_wp2_with fail
             refine C2.out.mono ?_;rintro e w10 ⟨rfl,hgv,hgi,u10⟩;have hsA:=HU8.size;have HUB:Upd Non W w10:=HUA.trans u10 (fun i hi h=>by omega);have HU:=hU.then_non HUB;obtain ⟨c0,c1,c2,c3,c4,c5,c6,c7,c8,c9,c10,c11,c12,c13⟩:=HC.out _ HUB;rw [Hn.out] at c12;rw [Hm.out] at c13
             have HB4:Hid (((V2.drop 1).all fun x=>decide (x≠3))=true↔∀i:Nat,1≤i→i≤n→V2.getD i 0≠3):=by
              show _↔_;rw [all_drop (d:=0) HVL2.out.1];simp only [decide_eq_true_eq]
             obtain ⟨b4,Hb4⟩:=nm ((V2.drop 1).all fun x=>decide (x≠3));rw [Hb4.out] at HB4 HR6;clear C2 hgi u10 HUA
             go_wp2_with fail
             go_loopg [11] n (fun g i wr=>∃k:Nat,Hid (g=n+1 - k)∧1≤k∧k≤n+1∧i=.int .i64 k∧Hid (∀j:Nat,1≤j→j<k→V2.getD j 0≠3)∧w10=wr)
             case atStart=>exact ⟨1,by show _=_;omega,by omega,by omega,rfl,fun j h1 h2=>by omega,rfl⟩
             case round =>
              obtain ⟨k,Hg,hk1,hk2,rfl,HA,rfl⟩:=hrel
              by_cases hlt:k≤n
              ·
               have t3:decide (k≤n)=true:=decide_eq_true (by omega)
               have hkN:(k:Int)<(N:Int):=by have:=HNn.out;omega
               have hk0:(0:Int)≤(k:Int):=by omega
               have x1:=VBlk.cell hgv (i:=k) (by rw [HVL2.out.1];omega);obtain ⟨z,Hz⟩:=nm (V2.getD k 0);rw [Hz.out] at x1
               by_cases h0:z=3
               ·
                subst h0
                have hb:b4=false:=by
                 rw [Bool.eq_false_iff];intro q;exact HB4.out.1 q k hk1 hlt Hz.out
                have HF:Hid (R=false):=by show _=_;rw [HR6.out,hb];rfl
                clear hb
                go_wp2_with fail
                go_ret;exact ⟨by rw [HF.out];rfl,HU⟩
               ·
                have t4:(z==3)=false:=by simpa using h0
                have HA2:Hid (∀j:Nat,1≤j→j<k+1→V2.getD j 0≠3):=by
                 intro j j1 j2
                 by_cases e:j=k
                 ·
                  rw [e,Hz.out];exact h0
                 ·
                  exact HA.out j j1 (by omega)
                clear h0
                go_wp2_with fail
                go_roundg (n+1 - (k+1))
                case measure=>rw [Hg.out];omega
                case rel=>exact ⟨k+1,rfl,by omega,by omega,by go_num,HA2,rfl⟩
              ·
               have t3:decide (k≤n)=false:=decide_eq_false (by omega);have hb4:b4=true:=HB4.out.2 (fun i i1 i2=>HA.out i i1 (by omega));subst hb4
               have HR7:Hid (R=r.conds.all fun c=>condF c V2 (m:Int)):=by show _=_;rw [HR6.out];simp
               have HI2:=Lib.hid hgv.ints;obtain ⟨cn,Hcn⟩:=nm r.conds.length;have hcn:=H6.out;rw [Hcn.out] at c11 hcn;clear HA Hg hk1 hk2 hlt HR6
               go_wp2_with fail
               go_loopg [13,129] cn (fun g _ i wr=>∃q:Nat,Hid (g=cn - q)∧q≤cn∧i=.int .i64 q∧Hid (∀j (h:j<r.conds.length),j<q→condF r.conds[j] V2 (m:Int)=true)∧Upd Non w10 wr)
               case atStart=>exact ⟨0,rfl,by omega,rfl,fun j h1 h2=>by omega,Upd.refl⟩
               case round =>
                obtain ⟨q,Hg,hq,rfl,HA,hu⟩:=hrel;have HUC:=HUB.then_non hu
                by_cases hlt:q<cn
                ·
                 have hql:q<r.conds.length:=by rw [Hcn.out];exact hlt
                 have hcv:=HK.out.c.upd HUC (fun _ _ _ f=>f);obtain ⟨cb,co,ecA,hF,hcb,k0,k1,k2,k3⟩:=hcv.at_ hql
                 have hcond:Hid (∀b,condF r.conds[q] V2 (m:Int)=b→(b=false→R=false)∧(b=true→∀j (h:j<r.conds.length),j<q+1→condF r.conds[j] V2 (m:Int)=true)):=by
                  intro b hb;refine ⟨fun h=>?_,fun h j hj1 hj2=>?_⟩
                  ·
                   rw [HR7.out,Bool.eq_false_iff];intro h2;rw [List.all_eq_true] at h2;have:=h2 _ (List.getElem_mem hql);rw [hb,h] at this;cases this
                  ·
                   by_cases e:j=q
                   ·
                    subst e;rw [hb,h]
                   ·
                    exact HA.out j hj1 (by omega)
                 generalize r.conds[q]=x at *;obtain ⟨d0,d1,d2,d3,d4,d5,d6,d7,d8,d9,d10,d11,d12,d13⟩:=HC.out _ HUC;rw [ecA,Hcn.out] at d11;rw [Hm.out] at d13;obtain ⟨WX,HWX⟩:=nm (wr.alloc (.cells #[.int .i64 x.kind,.int .i64 x.a,.int .i64 x.b,.int .i64 x.n] 69));have eX:=HWX.out
                 have uX:Upd Non wr WX:=by rw [←eX];exact Upd.refl.alloc _
                 have bX:Blk WX wr.heap.size 69 #[.int .i64 x.kind,.int .i64 x.a,.int .i64 x.b,.int .i64 x.n]:=by rw [←eX];exact Blk.new _ _ _
                 have f0:=bX.cell 0;have f1:=bX.cell 1;have f2:=bX.cell 2;have f3:=bX.cell 3;have f13:=cell_upd d13 uX (fun f=>f);have CC:=Lib.hid (rlValidCond_c x V2 (m:Int) (some ⟨gv,0,none⟩) N _ WX ((HI2.out.upd hu (fun _ _ _ f=>f)).upd uX (fun _ _ _ f=>f)));rw [HVL2.out.2] at CC;obtain ⟨cr,Hcr⟩:=nm (condF x V2 (m:Int));rw [Hcr.out] at CC hcond
                 have HCD:=Lib.hid (hcond.out cr rfl);simp only [ecA];clear hcv hcond bX
                 go_wp2_with fail
                 refine CC.out.mono ?_;rintro e w11 ⟨rfl,u11⟩;have HU11:=(hu.then_non uX).then_non u11;have HU:=HU.then_non HU11
                 cases cr with
                 | false =>
                  have HF:Hid (R=false):=HCD.out.1 rfl
                  go_wp2_with fail
                  go_ret;exact ⟨by rw [HF.out];rfl,HU⟩
                 | true =>
                  have HA2:=Lib.hid (HCD.out.2 rfl)
                  go_wp2_with fail
                  simp only [←ecA]
                  go_roundg (cn - (q+1))
                  case measure=>rw [Hg.out];omega
                  case rel=>exact ⟨q+1,rfl,by omega,by go_num,HA2.out,HU11⟩
                ·
                 obtain rfl:cn=q:=by omega
                 have HF:Hid (R=true):=by
                  show _=_;rw [HR7.out,List.all_eq_true];intro c hc;obtain ⟨j,hj,rfl⟩:=List.mem_iff_getElem.1 hc;exact HA.out j hj (by rw [←Hcn.out];exact hj)
                 have HU:=HU.then_non hu
                 go_wp2_with fail
                 go_ret;exact ⟨by rw [HF.out];rfl,HU⟩
            ·
             have t6:(sR != own)=true:=by simp [hs]
             have HF:Hid (R=false):=by show _=_;rw [HR5.out,decide_eq_false hs,decide_eq_false (fun q=>q hv)];rfl
             clear hv hs
             go_wp2_with fail
             go_ret;exact ⟨by rw [HF.out];rfl,HU⟩
           ·
            have t5:(r.r.v==0)=false:=by simp [hv]
            have HR6:Hid (R=(((V2.drop 1).all fun x=>decide (x≠3))&&r.conds.all fun c=>condF c V2 (m:Int))):=by show _=_;rw [HR5.out,decide_eq_true (show r.r.v≠0 from hv)];simp
            clear hv HR5
            go_wp2_with fail
            refine C2.out.mono ?_;rintro e w10 ⟨rfl,hgv,hgi,u10⟩;have hsA:=HU8.size;have HUB:Upd Non W w10:=HUA.trans u10 (fun i hi h=>by omega);have HU:=hU.then_non HUB;obtain ⟨c0,c1,c2,c3,c4,c5,c6,c7,c8,c9,c10,c11,c12,c13⟩:=HC.out _ HUB;rw [Hn.out] at c12;rw [Hm.out] at c13
            have HB4:Hid (((V2.drop 1).all fun x=>decide (x≠3))=true↔∀i:Nat,1≤i→i≤n→V2.getD i 0≠3):=by
             show _↔_;rw [all_drop (d:=0) HVL2.out.1];simp only [decide_eq_true_eq]
            obtain ⟨b4,Hb4⟩:=nm ((V2.drop 1).all fun x=>decide (x≠3));rw [Hb4.out] at HB4 HR6;clear C2 hgi u10 HUA
            go_wp2_with fail
            go_loopg [11] n (fun g i wr=>∃k:Nat,Hid (g=n+1 - k)∧1≤k∧k≤n+1∧i=.int .i64 k∧Hid (∀j:Nat,1≤j→j<k→V2.getD j 0≠3)∧w10=wr)
            case atStart=>exact ⟨1,by show _=_;omega,by omega,by omega,rfl,fun j h1 h2=>by omega,rfl⟩
            case round =>
             obtain ⟨k,Hg,hk1,hk2,rfl,HA,rfl⟩:=hrel
             by_cases hlt:k≤n
             ·
              have t3:decide (k≤n)=true:=decide_eq_true (by omega)
              have hkN:(k:Int)<(N:Int):=by have:=HNn.out;omega
              have hk0:(0:Int)≤(k:Int):=by omega
              have x1:=VBlk.cell hgv (i:=k) (by rw [HVL2.out.1];omega);obtain ⟨z,Hz⟩:=nm (V2.getD k 0);rw [Hz.out] at x1
              by_cases h0:z=3
              ·
               subst h0
               have hb:b4=false:=by
                rw [Bool.eq_false_iff];intro q;exact HB4.out.1 q k hk1 hlt Hz.out
               have HF:Hid (R=false):=by show _=_;rw [HR6.out,hb];rfl
               clear hb
               go_wp2_with fail
               go_ret;exact ⟨by rw [HF.out];rfl,HU⟩
              ·
               have t4:(z==3)=false:=by simpa using h0
               have HA2:Hid (∀j:Nat,1≤j→j<k+1→V2.getD j 0≠3):=by
                intro j j1 j2
                by_cases e:j=k
                ·
                 rw [e,Hz.out];exact h0
                ·
                 exact HA.out j j1 (by omega)
               clear h0
               go_wp2_with fail
               go_roundg (n+1 - (k+1))
               case measure=>rw [Hg.out];omega
               case rel=>exact ⟨k+1,rfl,by omega,by omega,by go_num,HA2,rfl⟩
             ·
              have t3:decide (k≤n)=false:=decide_eq_false (by omega);have hb4:b4=true:=HB4.out.2 (fun i i1 i2=>HA.out i i1 (by omega));subst hb4
              have HR7:Hid (R=r.conds.all fun c=>condF c V2 (m:Int)):=by show _=_;rw [HR6.out];simp
              have HI2:=Lib.hid hgv.ints;obtain ⟨cn,Hcn⟩:=nm r.conds.length;have hcn:=H6.out;rw [Hcn.out] at c11 hcn;clear HA Hg hk1 hk2 hlt HR6
              go_wp2_with fail
              go_loopg [13,129] cn (fun g _ i wr=>∃q:Nat,Hid (g=cn - q)∧q≤cn∧i=.int .i64 q∧Hid (∀j (h:j<r.conds.length),j<q→condF r.conds[j] V2 (m:Int)=true)∧Upd Non w10 wr)
              case atStart=>exact ⟨0,rfl,by omega,rfl,fun j h1 h2=>by omega,Upd.refl⟩
              case round =>
               obtain ⟨q,Hg,hq,rfl,HA,hu⟩:=hrel;have HUC:=HUB.then_non hu
               by_cases hlt:q<cn
               ·
                have hql:q<r.conds.length:=by rw [Hcn.out];exact hlt
                have hcv:=HK.out.c.upd HUC (fun _ _ _ f=>f);obtain ⟨cb,co,ecA,hF,hcb,k0,k1,k2,k3⟩:=hcv.at_ hql
                have hcond:Hid (∀b,condF r.conds[q] V2 (m:Int)=b→(b=false→R=false)∧(b=true→∀j (h:j<r.conds.length),j<q+1→condF r.conds[j] V2 (m:Int)=true)):=by
                 intro b hb;refine ⟨fun h=>?_,fun h j hj1 hj2=>?_⟩
                 ·
                  rw [HR7.out,Bool.eq_false_iff];intro h2;rw [List.all_eq_true] at h2;have:=h2 _ (List.getElem_mem hql);rw [hb,h] at this;cases this
                 ·
                  by_cases e:j=q
                  ·
                   subst e;rw [hb,h]
                  ·
                   exact HA.out j hj1 (by omega)
                generalize r.conds[q]=x at *;obtain ⟨d0,d1,d2,d3,d4,d5,d6,d7,d8,d9,d10,d11,d12,d13⟩:=HC.out _ HUC;rw [ecA,Hcn.out] at d11;rw [Hm.out] at d13;obtain ⟨WX,HWX⟩:=nm (wr.alloc (.cells #[.int .i64 x.kind,.int .i64 x.a,.int .i64 x.b,.int .i64 x.n] 69));have eX:=HWX.out
                have uX:Upd Non wr WX:=by rw [←eX];exact Upd.refl.alloc _
                have bX:Blk WX wr.heap.size 69 #[.int .i64 x.kind,.int .i64 x.a,.int .i64 x.b,.int .i64 x.n]:=by rw [←eX];exact Blk.new _ _ _
                have f0:=bX.cell 0;have f1:=bX.cell 1;have f2:=bX.cell 2;have f3:=bX.cell 3;have f13:=cell_upd d13 uX (fun f=>f);have CC:=Lib.hid (rlValidCond_c x V2 (m:Int) (some ⟨gv,0,none⟩) N _ WX ((HI2.out.upd hu (fun _ _ _ f=>f)).upd uX (fun _ _ _ f=>f)));rw [HVL2.out.2] at CC;obtain ⟨cr,Hcr⟩:=nm (condF x V2 (m:Int));rw [Hcr.out] at CC hcond
                have HCD:=Lib.hid (hcond.out cr rfl);simp only [ecA];clear hcv hcond bX
                go_wp2_with fail
                refine CC.out.mono ?_;rintro e w11 ⟨rfl,u11⟩;have HU11:=(hu.then_non uX).then_non u11;have HU:=HU.then_non HU11
                cases cr with
                | false =>
                 have HF:Hid (R=false):=HCD.out.1 rfl
                 go_wp2_with fail
                 go_ret;exact ⟨by rw [HF.out];rfl,HU⟩
                | true =>
                 have HA2:=Lib.hid (HCD.out.2 rfl)
                 go_wp2_with fail
                 simp only [←ecA]
                 go_roundg (cn - (q+1))
                 case measure=>rw [Hg.out];omega
                 case rel=>exact ⟨q+1,rfl,by omega,by go_num,HA2.out,HU11⟩
               ·
                obtain rfl:cn=q:=by omega
                have HF:Hid (R=true):=by
                 show _=_;rw [HR7.out,List.all_eq_true];intro c hc;obtain ⟨j,hj,rfl⟩:=List.mem_iff_getElem.1 hc;exact HA.out j hj (by rw [←Hcn.out];exact hj)
                have HU:=HU.then_non hu
                go_wp2_with fail
                go_ret;exact ⟨by rw [HF.out];rfl,HU⟩
     ·
      have t2:decide ((6:Int)<(r.conds.length:Int))=true:=decide_eq_true (by omega)
      have HF:Hid (R=false):=by show _=_;rw [HR2.out,decide_eq_false h6];rfl
      clear h6
      go_wp2_with fail
      go_ret;exact ⟨by rw [HF.out];rfl,HU⟩
 ·
  have t1:(r.l.v != 0)=true:=by simp [hv]
  have HF:Hid (R=false):=by show _=_;rw [HR1.out,decide_eq_false hv];rfl
  have HU:=hU;clear hv;go_enter Tryz.func21,Tryz.ntmps21
  go_wp2_with fail
  go_ret;exact ⟨by rw [HF.out];rfl,HU⟩
def RlAt (w:World) (b o:Nat) (r:Rl) (a:RlA):Prop :=
  w.cell? ⟨b,o,none⟩=some (.string r.name)∧w.cell? ⟨b,o+1,none⟩=some (.int .i64 r.l.v)∧w.cell? ⟨b,o+2,none⟩=some (.int .i64 r.l.op)∧w.cell? ⟨b,o+3,none⟩=some (.int .i64 r.l.imm)∧w.cell? ⟨b,o+4,none⟩=some (.int .i64 r.l.iv)∧w.cell? ⟨b,o+5,none⟩=some (.slice a.la r.l.kids.length a.lc) ∧
  w.cell? ⟨b,o+6,none⟩=some (.int .i64 r.r.v)∧w.cell? ⟨b,o+7,none⟩=some (.int .i64 r.r.op)∧w.cell? ⟨b,o+8,none⟩=some (.int .i64 r.r.imm)∧w.cell? ⟨b,o+9,none⟩=some (.int .i64 r.r.iv)∧w.cell? ⟨b,o+10,none⟩=some (.slice a.ra r.r.kids.length a.rc) ∧
  w.cell? ⟨b,o+11,none⟩=some (.slice a.ca r.conds.length a.cc)∧w.cell? ⟨b,o+12,none⟩=some (.int .i64 r.vars)∧w.cell? ⟨b,o+13,none⟩=some (.int .i64 r.imms)
theorem RlAt.upd {w w':World} {b o:Nat} {r:Rl} {a:RlA} {S:Nat→Prop} (h:RlAt w b o r a) (u:Upd S w w') (hb:¬S b):RlAt w' b o r a:=by
 obtain ⟨c0,c1,c2,c3,c4,c5,c6,c7,c8,c9,c10,c11,c12,c13⟩:=h
 exact ⟨cell_upd c0 u hb,cell_upd c1 u hb,cell_upd c2 u hb,cell_upd c3 u hb,cell_upd c4 u hb,cell_upd c5 u hb,cell_upd c6 u hb,cell_upd c7 u hb,cell_upd c8 u hb,cell_upd c9 u hb,cell_upd c10 u hb,cell_upd c11 u hb,cell_upd c12 u hb,cell_upd c13 u hb⟩
def RlsV (w:World) (F:Nat→Prop) (A:Option Addr) (L:List Rl):Prop :=
 L=[]∨∃b o,A=some ⟨b,o,none⟩∧F b∧∀i (h:i<L.length),∃a,RlAt w b (o+i * 14) L[i] a∧RlK w F L[i] a
theorem RlsV.upd {w w':World} {F S:Nat→Prop} {A:Option Addr} {L:List Rl} (h:RlsV w F A L) (u:Upd S w w') (d:∀k,k<w.heap.size→F k→¬S k):RlsV w' F A L:=by
 rcases h with h | ⟨b,o,e,hF,h⟩
 ·
  exact .inl h
 ·
  refine .inr ⟨b,o,e,hF,fun i hi=>?_⟩;obtain ⟨a,ha,hk⟩:=h i hi;exact ⟨a,ha.upd u (d b (World.block_lt_of_cell? _ _ ha.1) hF),hk.upd u d⟩
theorem RlsV.at_ {w:World} {F:Nat→Prop} {A:Option Addr} {L:List Rl} (h:RlsV w F A L) {i:Nat} (hi:i<L.length):∃b o a,A=some ⟨b,o,none⟩∧F b∧b<w.heap.size∧RlAt w b (o+i * 14) L[i] a∧RlK w F L[i] a:=by
 rcases h with h | ⟨b,o,e,hF,h⟩
 ·
  subst h;simp at hi
 ·
  obtain ⟨a,ha,hk⟩:=h i hi;exact ⟨b,o,a,e,hF,World.block_lt_of_cell? _ _ ha.1,ha,hk⟩
theorem RlsV.mono {w:World} {F G:Nat→Prop} {A:Option Addr} {L:List Rl} (h:RlsV w F A L) (g:∀k,k<w.heap.size→F k→G k):RlsV w G A L:=by
 rcases h with h | ⟨b,o,e,hF,h⟩
 ·
  exact .inl h
 ·
  by_cases hn:L=[]
  ·
   exact .inl hn
  ·
   obtain ⟨a,ha,_⟩:=h 0 (List.length_pos_iff.2 hn);refine .inr ⟨b,o,e,g b (World.block_lt_of_cell? _ _ ha.1) hF,fun i hi=>?_⟩;obtain ⟨a,ha,hk⟩:=h i hi;exact ⟨a,ha,hk.mono g⟩
theorem T_rules:SlT Tryz.prog 28 43 14 168:=by
 obtain ⟨i,h1,h2,h3,h4⟩:=info_parts (show (Tryz.prog.info? 43).map (fun i=>(i.zero,i.size,i.bytes))=some (some (.agg #[.string ⟨#[]⟩,.int .i64 0,.int .i64 0,.int .i64 0,.int .i64 0,.slice none 0 0,.int .i64 0,.int .i64 0,.int .i64 0,.int .i64 0,.slice none 0 0,.slice none 0 0,.int .i64 0,.int .i64 0]),14,168) from by kernel_rfl)
 exact ⟨Tryz.underlying28,⟨i,_,h1,h2,h3,h4,rfl⟩,by omega⟩
section
variable {w w':World} {F G G' S:Nat→Prop} {A:Option Addr} {L:List Rl} {n c:Nat}
def RsCells (w:World) (K:Nat→Prop) (cs:List Value) (L:List Rl):Prop :=
 cs.length=14 * L.length∧∀i (h:i<L.length),∃a,(∀j,j<14→cs[14 * i+j]?=(rlCells L[i] a).toList[j]?)∧RlK w K L[i] a
theorem RsCells.nil {K:Nat→Prop}:RsCells w K [] []:=⟨rfl,fun i h=>by simp at h⟩
theorem RsCells.mono {K K' S:Nat→Prop} {cs:List Value} (h:RsCells w K cs L) (u:Upd S w w') (d:∀k,k<w.heap.size→K k→¬S k) (hK:∀k,k<w.heap.size→K k→K' k):RsCells w' K' cs L:=by
 refine ⟨h.1,fun i hi=>?_⟩;obtain ⟨a,h1,h5⟩:=h.2 i hi;refine ⟨a,h1,?_⟩;have h6:RlK w (fun k=>K' k∧K k) L[i] a:=h5.mono (fun k hk hK0=>⟨hK k hk hK0,hK0⟩);exact (h6.upd u (fun k hk hk'=>d k hk hk'.2)).mono (fun _ _ h=>h.1)
theorem RsCells.snoc {K:Nat→Prop} {cs:List Value} (h:RsCells w K cs L) {r:Rl} {a:RlA} (hk:RlK w K r a) :
  RsCells w K (cs++(rlCells r a).toList) (L++[r]):=by
 refine ⟨by simp [h.1,rlCells];omega,fun i hi=>?_⟩;have hl:=h.1
 by_cases hlt:i<L.length
 ·
  obtain ⟨a,h1,h5⟩:=h.2 i hlt;refine ⟨a,fun j hj=>?_,?_⟩
  ·
   rw [List.getElem?_append_left (by omega),List.getElem_append_left hlt];exact h1 j hj
  ·
   rw [List.getElem_append_left hlt];exact h5
 ·
  have he:i=L.length:=by simp at hi;omega
  subst he;refine ⟨a,fun j hj=>?_,?_⟩
  ·
   rw [List.getElem?_append_right (by omega),hl];simp
  ·
   simpa using hk
def RlO (w:World) (G:Nat→Prop) (A:Option Addr) (n c:Nat) (L:List Rl):Prop :=
 n=L.length∧∃cs,Own w 43 14 A n c cs∧RsCells w (fun k=>G k∧¬At A k) cs L
theorem RlO.none_:RlO w G none 0 0 []:=⟨rfl,[],Own.none_,RsCells.nil⟩
theorem RlO.upd (h:RlO w G A n c L) (u:Upd S w w') (dA:∀k,At A k→¬S k) (dG:∀k,k<w.heap.size→G k→¬S k):RlO w' G A n c L:=by
 obtain ⟨h1,cs,h2,h3⟩:=h;exact ⟨h1,cs,h2.upd u dA,h3.mono u (fun k hk hg=>dG k hk hg.1) (fun _ _ h=>h)⟩
theorem RlO.mono (h:RlO w G A n c L) (hG:∀k,k<w.heap.size→G k→G' k):RlO w G' A n c L:=by
 obtain ⟨h1,cs,h2,h3⟩:=h;exact ⟨h1,cs,h2,h3.mono (Upd.refl (S:=Non)) (fun _ _ _ f=>f) (fun k hk hg=>⟨hG k hk hg.1,hg.2⟩)⟩
theorem RlO.le (h:RlO w G A n c L):n≤c:=by obtain ⟨_,_,h2,_⟩:=h;exact h2.le
theorem RlO.lt (h:RlO w G A n c L) {k:Nat} (hk:At A k):k<w.heap.size:=by obtain ⟨_,_,h2,_⟩:=h;exact h2.lt hk
theorem RlO.view (h:RlO w G A n c L) (hA:∀k,At A k→F k) (hG:∀k,k<w.heap.size→G k→F k):RlsV w F A L:=by
 obtain ⟨rfl,cs,h2,h3⟩:=h
 rcases h2.cases with ⟨_,h0,_,_⟩ | ⟨g,cur,rfl,hb,_,_,_,ht⟩
 ·
  exact .inl (List.eq_nil_of_length_eq_zero h0)
 ·
  refine .inr ⟨g,0,rfl,hA g (At.some_.2 rfl),fun i hi=>?_⟩;have hl:=h3.1;obtain ⟨a,c1,c5⟩:=h3.2 i hi
  have hcell:∀j u,cs[j]?=some u→w.cell? ⟨g,j,none⟩=some u:=by
   intro j u hj;rw [hb.cell];rw [←ht] at hj;rw [List.getElem?_take] at hj
   split at hj
   ·
    simpa using hj
   ·
    cases hj
  have e:0+i * 14=14 * i:=by omega
  refine ⟨a,?_,c5.mono (fun k hk hg=>hG k hk hg.1)⟩;rw [e]
  exact ⟨hcell _ _ (c1 0 (by omega)),hcell _ _ (c1 1 (by omega)),hcell _ _ (c1 2 (by omega)),hcell _ _ (c1 3 (by omega)),hcell _ _ (c1 4 (by omega)),hcell _ _ (c1 5 (by omega)),hcell _ _ (c1 6 (by omega)),hcell _ _ (c1 7 (by omega)),hcell _ _ (c1 8 (by omega)),hcell _ _ (c1 9 (by omega)),hcell _ _ (c1 10 (by omega)),hcell _ _ (c1 11 (by omega)),hcell _ _ (c1 12 (by omega)),hcell _ _ (c1 13 (by omega))⟩
theorem RlO.snoc {cs:List Value} (hn:n=L.length) (hc:RsCells w (fun k=>G k∧¬At A k) cs L) {r:Rl} {a:RlA} (hk:RlK w (fun k=>G k∧¬At A k) r a)
  {A':Option Addr} {c':Nat} (ho:Own w' 43 14 A' (n+1) c' (cs++(rlCells r a).toList)) (hu:Upd (At A) w w') (hat:∀k,At A' k→At A k∨k=w.heap.size) (hG:∀k,k<w.heap.size→G k→G' k) :
  RlO w' G' A' (n+1) c' (L++[r]):=by
 refine ⟨by simp [hn],_,ho,?_⟩;refine (hc.snoc hk).mono hu (fun k _ hg=>hg.2) (fun k hk hg=>⟨hG k hk hg.1,fun hA=>?_⟩)
 rcases hat k hA with h | h
 ·
  exact hg.2 h
 ·
  omega
end
def nmV (L:List Rl) (s:ByteArray):Option Value:=if L.any (fun q=>decide (q.name=s)) then some (.bool true) else none
theorem nmV_nil:nmV []=fun _=>none:=rfl
theorem nmV_get (L:List Rl) (s:ByteArray):(nmV L s).getD (.bool false)=.bool (L.any (fun q=>decide (q.name=s))):=by
 unfold nmV
 cases L.any (fun q=>decide (q.name=s)) <;> rfl
theorem nmV_snoc (L:List Rl) (r:Rl):(fun x=>if x=r.name then some (Value.bool true) else nmV L x)=nmV (L++[r]):=by
 funext x
 unfold nmV;rw [List.any_append]
 by_cases h:x=r.name
 ·
  rw [if_pos h,if_pos];rw [Bool.or_eq_true];exact .inr (by simp [h])
 ·
  rw [if_neg h]
  have : [r].any (fun q=>decide (q.name=x))=false:=by simpa using fun e=>h e.symm
  rw [this,Bool.or_false]
section
variable {T:List (Bs×Nat)} {fin:Nat} {L:List Tok}
theorem atomF_kids {left:Bool} {s:Bs} {x y:PS} {q:Pt} (h:atomF left s x=some (q,y)):q.kids=[]:=by
 unfold atomF at h
 split at h
 ·
  injection h with h;injection h with h _;subst h;rfl
 ·
  split at h
  ·
   injection h with h;injection h with h _;subst h;rfl
  ·
   split at h
   ·
    injection h with h;injection h with h _;subst h;rfl
   ·
    cases h
theorem kidsF_size {g:PS→Except Er (Pt×PS)} (hg:∀x y q,g x=.ok (q,y)→q.size+x.i≤y.i):∀{n:Nat} {x y:PS} {l:List Pt},kidsF g n x=.ok (l,y)→Pt.sizeL l+x.i≤y.i
 | 0,x,y,l,h=>by simp only [kidsF] at h;injection h with h;injection h with h1 h;subst h;subst h1;simp [Pt.sizeL]
 | n+1,x,y,l,h=>by
  rw [kidsF] at h
  split at h
  ·
   cases h
  ·
   rename_i q z hq
   split at h
   ·
    cases h
   ·
    rename_i l2 z2 hk
    injection h with h;injection h with h1 h;subst h;subst h1
    have e1:=hg _ _ _ hq;have e2:=kidsF_size hg hk;simp only [Pt.sizeL];omega
theorem termF_size {left:Bool}:∀(f:Nat) (x y:PS) (q:Pt),termF T fin left f x=.ok (q,y)→q.size+x.i≤y.i
 | 0,x,y,q,h=>by unfold termF at h;cases h
 | f+1,x,y,q,h=>by
  rw [termF_succ] at h
  split at h
  ·
   unfold appF at h
   split at h
   ·
    cases h
   ·
    rename_i q1 y1 h1
    split at h
    ·
     cases h
    ·
     rename_i l z h2
     split at h
     ·
      cases h
     ·
      rename_i u h3
      injection h with h;injection h with h4 h;subst h;subst h4
      have e1:y1.i=x.i+1+1:=wrdF_i h1;have e2:=kidsF_size (termF_size f) h2;have e3:=expF_i h3;rw [Pt.size_eq];show 1+Pt.sizeL l+x.i≤u.i;omega
  ·
   have e1:=wrdF_i h
   have hk:q.kids=[]:=by
    rw [wrd_eq] at h
    split at h
    ·
     split at h
     ·
      rename_i h2;injection h with h;injection h with h _;subst h;exact atomF_kids h2
     ·
      cases h
    ·
     cases h
   rw [size_leaf' hk];omega
theorem condsF_len:∀(f:Nat) (x y:PS) (l:List Cd),condsF T fin f x=.ok (l,y)→l.length+x.i≤y.i
 | 0,x,y,l,h=>by unfold condsF at h;injection h with h;injection h with h1 h;subst h;subst h1;simp
 | f+1,x,y,l,h=>by
  rw [condsF_succ] at h
  split at h
  ·
   split at h
   ·
    cases h
   ·
    rename_i c y1 h1;have e1:x.i+1≤y1.i:=pcondF_i h1
    split at h
    ·
     cases h
    ·
     rename_i l2 z h2;have e2:=condsF_len f _ _ _ h2
     injection h with h;injection h with h3 h;subst h;subst h3
     rw [List.length_cons];omega
  ·
   injection h with h;injection h with h1 h;subst h;subst h1;simp
theorem ifF_len {f:Nat} {x y:PS} {l:List Cd} (h:ifF T fin f x=.ok (l,y)):l.length+x.i≤y.i:=by
 unfold ifF at h
 split at h
 ·
  split at h
  ·
   cases h
  ·
   rename_i c y1 h1;have e1:x.i+1≤y1.i:=pcondF_i h1
   split at h
   ·
    cases h
   ·
    rename_i l2 z h2;have e2:=condsF_len f _ _ _ h2
    injection h with h;injection h with h3 h;subst h;subst h3
    rw [List.length_cons];omega
 ·
  injection h with h;injection h with h1 h;subst h;subst h1;simp
theorem expF_lt {s:Bs} {x y:PS} (h:expF T fin s x=.ok y):y.i≤T.length:=by
 have e:=expF_i h;unfold expF at h
 split at h
 ·
  rename_i q;have:=tkF_lt q;omega
 ·
  cases h
theorem ruleF_sz (hL:LOk L T fin) {x y:PS} {r:Rl} (h:ruleF T fin x=.ok (r,y)):RlSz r:=by
 have hTl:=hL.lt;have hTn:=hL.len;unfold ruleF at h
 split at h
 ·
  cases h
 ·
  rename_i s x1 h1;have e1:x1.i=x.i+1:=wrdF_i (x:={ x with vs:=[],ms:=[] }) h1
  have hs:s.length≤20000:=by
   unfold anyF at h1;rw [wrd_eq] at h1
   split at h1
   ·
    rename_i s2 hw
    have hi:({ x with vs:=[],ms:=[] }:PS).i<L.length:=by
     unfold wkF at hw
     split at hw
     ·
      rename_i q;have:=tkF_lt q;omega
     ·
      cases hw
    have:=(hL.at_ hi hw).2.2.2.1
    injection h1 with h1;injection h1 with h1 _;subst h1;exact this
   ·
    cases h1
  split at h
  ·
   cases h
  ·
   rename_i x2 h2;have e2:=expF_i h2
   split at h
   ·
    cases h
   ·
    rename_i l x3 h3;have e3:=termF_size _ _ _ _ h3
    split at h
    ·
     cases h
    ·
     rename_i x4 h4;have e4:=expF_i h4
     split at h
     ·
      cases h
     ·
      rename_i r5 x5 h5;have e5:=termF_size _ _ _ _ h5
      split at h
      ·
       cases h
      ·
       rename_i cs x6 h6;have e6:=ifF_len h6
       split at h
       ·
        cases h
       ·
        rename_i x7 h7;have e7:=expF_i h7;have e8:=expF_lt h7
        injection h with h;injection h with h _;subst h
        refine ⟨?_,?_,?_,?_⟩
        ·
         show l.size≤_;omega
        ·
         show r5.size≤_;omega
        ·
         show cs.length≤_;omega
        ·
         show (ByteArray.mk s.toArray).size≤_
         have : (ByteArray.mk s.toArray).size=s.length:=by show s.toArray.size=_;simp
         omega
theorem itemF_sz (hL:LOk L T fin) {ax:Bs→Option Rl} (hax:∀s r,ax s=some r→RlSz r) {x y:PS} {r:Rl} {n:Nat} (h:itemF T fin ax x=.ok ((some r,n),y)):RlSz r:=by
 unfold itemF at h
 split at h
 ·
  split at h
  ·
   cases h
  ·
   rename_i s y1 h1
   split at h
   ·
    cases h
   ·
    rename_i z h2
    injection h with h;injection h with h _;injection h with h _
    exact hax _ _ h
 ·
  split at h
  ·
   cases h
  ·
   rename_i y1 h1
   split at h
   ·
    cases h
   ·
    rename_i r2 z h2
    injection h with h;injection h with h _;injection h with h _;injection h with h;subst h
    exact ruleF_sz hL h2
theorem bindE_err {α β:Type} {r:Except Er α} {g:α→Except Er β} (hr:∀e,r=.error e→e.1≠0) (hg:∀v e,g v=.error e→e.1≠0) {e:Er} (h:bindE r g=.error e):e.1≠0:=by
 unfold bindE at h
 cases r with
 | error e2=>injection h with h;subst h;exact hr _ rfl
 | ok v=>exact hg _ _ h
theorem ruleF_err {x:PS} {e:Er} (h:ruleF T fin x=.error e):e.1≠0:=by
 rw [ruleF_eq] at h;refine bindE_err (fun e=>wrdF_err) (fun v e h=>?_) h;refine bindE_err (fun e=>expF_err) (fun v e h=>?_) h;refine bindE_err (fun e=>termF_err _ _ e) (fun v e h=>?_) h;refine bindE_err (fun e=>expF_err) (fun v e h=>?_) h;refine bindE_err (fun e=>termF_err _ _ e) (fun v e h=>?_) h;refine bindE_err (fun e=>ifF_err) (fun v e h=>?_) h
 exact bindE_err (fun e=>expF_err) (fun v e h=>by cases h) h
theorem itemF_err {ax:Bs→Option Rl} {x:PS} {e:Er} (h:itemF T fin ax x=.error e):e.1≠0:=by
 unfold itemF at h
 split at h
 ·
  split at h
  ·
   rename_i e' he;injection h with h;subst h;exact wrdF_err he
  ·
   split at h
   ·
    rename_i e' he;injection h with h;subst h;exact expF_err he
   ·
    cases h
 ·
  split at h
  ·
   rename_i e' he;injection h with h;subst h;exact expF_err he
  ·
   split at h
   ·
    rename_i e' he;injection h with h;subst h
    exact ruleF_err he
   ·
    cases h
end
def LpR (T:List (Bs×Nat)) (fin:Nat) (ax:Bs→Option Rl) (n:Nat) (R:Except Er (List Rl)) (y:St) (Q:List Rl) (fu:Nat):Prop :=
 (y.why=0→T.length<fu+y.i∧Q.length≤160∧loopF T fin ax n fu (psOf y) Q=R)∧(y.why≠0→R=.error (y.why,y.ea))
section
variable {T:List (Bs×Nat)} {fin:Nat} {ax:Bs→Option Rl} {n:Nat} {R:Except Er (List Rl)} {y y':St} {Q:List Rl} {fu:Nat}
theorem LpR.exit (h:LpR T fin ax n R y Q fu) (hg:y.i≤T.length) (hD:(y.why==0&&decide (offF T fin y.i<n))=false):(y.why=0→R=.ok Q)∧(y.why≠0→R=.error (y.why,y.ea)):=by
 refine ⟨fun h0=>?_,h.2⟩;obtain ⟨h1,_,h2⟩:=h.1 h0
 have hd:¬offF T fin y.i<n:=by simpa [h0] using hD
 match fu with
 | 0=>omega
 | f+1 =>
  unfold loopF at h2;rw [show (psOf y).i=y.i from rfl,if_neg hd] at h2;exact h2.symm
def RndR (T:List (Bs×Nat)) (fin:Nat) (ax:Bs→Option Rl) (n:Nat) (R:Except Er (List Rl)) (y:St) (Q:List Rl) (fu:Nat) (rl:Rl) (tp:Nat) (b:Bool):Prop :=
 (y.why≠0→R=.error (y.why,y.ea))∧(y.why=0→Q.length≤160∧(b=false→R=.error (3,tp))∧(b=true→RlSz rl∧(implF rl=false→R=.error (1,tp))∧(implF rl=true →
  (Q.any (fun q=>decide (q.name=rl.name))=true→R=.error (4,tp))∧(Q.any (fun q=>decide (q.name=rl.name))=false→(Q.length=160→R=.error (6,tp))∧(Q.length≠160→LpR T fin ax n R y (Q++[rl]) fu)))))
theorem LpR.item {L:List Tok} (hL:LOk L T fin) (hax:∀s r,ax s=some r→RlSz r) (h:LpR T fin ax n R y Q fu) (hg:y.i≤T.length) (h0:y.why=0) (hD:offF T fin y.i<n) {rl:Rl} {tp:Nat} {b:Bool}
  (hr:ResS y y' (itemF T fin ax (psOf y)) (fun v=>v.2=tp∧(b=true→v.1=some rl)∧(b=false→v.1=none))):0<fu∧RndR T fin ax n R y' Q (fu - 1) rl tp b:=by
 obtain ⟨h1,hq,h2⟩:=h.1 h0;have h3:=hr.1 h0
 match fu with
 | 0=>omega
 | f+1 =>
  refine ⟨by omega,?_⟩;rw [show f+1 - 1=f from rfl];unfold loopF at h2;rw [show (psOf y).i=y.i from rfl,if_pos hD] at h2
  cases hi:itemF T fin ax (psOf y) with
  | error e =>
   rw [hi] at h2 h3;have hn:=itemF_err hi;refine ⟨fun _=>?_,fun q=>absurd (h3.1 ▸ q) hn⟩;rw [h3.1,h3.2];exact h2.symm
  | ok v =>
   obtain ⟨⟨o,pos⟩,s⟩:=v;rw [hi] at h2 h3;obtain ⟨k0,rfl,rfl,k3,k4⟩:=h3;have him:=itemF_i hi;refine ⟨fun q=>absurd k0 q,fun _=>⟨hq,fun hb=>?_,fun hb=>?_⟩⟩
   ·
    have e:=k4 hb;dsimp only at e;subst e;exact h2.symm
   ·
    have e:=k3 hb;dsimp only at e;subst e;dsimp only at h2;refine ⟨itemF_sz hL hax hi,fun hv=>?_,fun hv=>⟨fun hm=>?_,fun hm=>⟨fun hl=>?_,fun hl=>?_⟩⟩⟩
    ·
     rw [if_pos hv] at h2;exact h2.symm
    ·
     rw [if_neg (by simp [hv]),if_pos hm] at h2;exact h2.symm
    ·
     rw [if_neg (by simp [hv]),if_neg (by simp [hm]),if_pos hl] at h2;exact h2.symm
    ·
     rw [if_neg (by simp [hv]),if_neg (by simp [hm]),if_neg hl] at h2;refine ⟨fun _=>⟨?_,by rw [List.length_append,List.length_singleton];omega,h2⟩,fun q=>absurd k0 q⟩;have : y.i+1≤y'.i:=him;omega
theorem RndR.err {k:Int} {tp:Nat} (h:y.why=0) (hk:k≠0) (hR:R=.error (k,(tp:Int))) {Q':List Rl}:LpR T fin ax n R (y.fail k tp) Q' fu:=by
 rw [fail_zero h];exact ⟨fun q=>absurd q hk,fun _=>hR⟩
end
end Go.Proofs.YtblkgjdhaibhgaaGreat
namespace Go.Proofs.YtblkgjdhaibhgaaGreat
open Go.RowKit
theorem results_tmp_cell {P:Program} {fn:Func} {p u:Tmp} {ty:TypeId} (h:fn.results=#[.tmp u,.cell p ty]) (tmps:Array Value) (w:World) (g:Nat) (t:TypeId) (cs:Array Value) (fr:Nat×Nat) (d:TypeDesc)
  (hp:tmps.getD p undef=.pointer (some ⟨g,0,none⟩)) (hg:w.heap[g]?=some (.cells cs t fr))
  (hu:P.underlying ty=some d) (hd:(match d with | .struct _ | .array _ _=>true | _=>false)=true) (hi:(P.info? ty).map (·.size)=some cs.size) :
  (results fn tmps).run P w=.ok (.tuple #[tmps.getD u undef,.agg cs]) w:=by
 have hp':tmps[p]?.getD undef=.pointer (some ⟨g,0,none⟩):=by simpa using hp
 simp [results,h,hp',asAddr,run_loadVar_row w g t ty cs fr d hg hu hd hi,Result.andThen]
theorem zeroBoolP (w:World):(zeroValue 4).run Tryz.prog w=.ok (.bool false) w:=by
 have h:(Tryz.prog.info? 4).bind (·.zero)=some (.bool false):=by kernel_rfl
 cases hi:Tryz.prog.info? 4 with
 | none=>rw [hi] at h;cases h
 | some i=>rw [hi] at h;simp at h;simp [zeroValue,typeInfo,hi,h]
def setE2 (w:World) (g:Nat) (a b:Value):World:=(w.setCell ⟨g,0,none⟩ a).setCell ⟨g,1,none⟩ b
theorem setE2_eq (w:World) (g:Nat) (a b:Value):(w.setCell ⟨g,0,none⟩ a).setCell ⟨g,1,none⟩ b=setE2 w g a b:=rfl
theorem setE2_blk {w:World} {g:Nat} {t:TypeId} {x0 x1:Value} (h:Blk w g t #[x0,x1]) (a b:Value):Blk (setE2 w g a b) g t #[a,b]:=by
 unfold setE2
 simpa using (h.set_ 0 a).set_ 1 b
theorem setE2_upd (w:World) (g:Nat) (a b:Value):Upd (·=g) w (setE2 w g a b) :=
 (updCell w g 0 a).trans (updCell _ g 1 b) (fun _ _ h=>h)
def ParseP (r:Except Er (List Rl)) (w:World) (e:Ending) (w':World):Prop :=
 Upd Non w w'∧((∃er,r=.error er∧e=.returned (.tuple #[.slice none 0 0,.agg #[.int .i64 er.1,.int .i64 er.2]])) ∨
  (∃(Q:List Rl) (A:Option Addr) (c:Nat),r=.ok Q∧e=.returned (.tuple #[.slice A Q.length c,.agg #[.int .i64 0,.int .i64 0]])∧RlsV w' (fun k=>w.heap.size≤k) A Q∧Q.length≤c))
structure PaS (w0 w:World) (p mb:Nat) (A:Option Addr) (c:Nat) (L:List Tok) (y:St) (OA:Option Addr) (oc:Nat) (Q:List Rl):Prop where
 rd:RdS w p A c L y
 er:Blk w w0.heap.size 31 #[.int .i64 0,.int .i64 0]
 out:RlO w (fun k=>w0.heap.size<k∧¬y.own p k∧k≠mb) OA Q.length oc Q
 map:SMap w mb (nmV Q)
 own:∀k,y.own p k→p≤k∧k≠mb
 oat:∀k,At OA k→mb<k
 lt:w0.heap.size<p∧p<mb
 upd:Upd Non w0 w
section
variable {w0 w w':World} {p mb:Nat} {A:Option Addr} {c:Nat} {L:List Tok} {y y':St} {OA:Option Addr} {oc:Nat} {Q:List Rl}
theorem RdS.own_ne2 {n:Nat} {cs:List Value} (h:RdS w p A c L y) (o:Own w 43 14 OA n oc cs):∀k,At OA k→¬y.own p k:=fun k hk q=>by
 rcases q with rfl | q | q
 ·
  exact o.ne_blk h.blk (by decide) hk
 ·
  exact o.ne_type h.v (by decide) hk q
 ·
  exact o.ne_type h.m (by decide) hk q
theorem PaS.call (h:PaS w0 w p mb A c L y OA oc Q) (hr:RdS w' p A c L y') (ho:∀k,y'.own p k→y.own p k∨w.heap.size≤k) (u:Upd (y.own p) w w'):PaS w0 w' p mb A c L y' OA oc Q:=by
 obtain ⟨_,cs,hown,_⟩:=id h.out;have hne:=h.rd.own_ne2 hown;have hmb:=h.map.lt;have hlt:=h.lt
 refine ⟨hr,h.er.upd u (fun q=>by have:=(h.own _ q).1;omega),?_,h.map.upd u (fun q=>(h.own _ q).2 rfl),fun k q=>?_,h.oat,h.lt,h.upd.trans u (fun k hk q=>by have:=(h.own _ q).1;omega)⟩
 ·
  have g1:RlO w (fun k=>(w0.heap.size<k∧¬y.own p k∧k≠mb)∧k<w.heap.size) OA Q.length oc Q:=h.out.mono (fun k hk q=>⟨q,hk⟩);refine (g1.upd u hne (fun k _ q=>q.1.2.1)).mono (fun k _ q=>⟨q.1.1,fun r=>?_,q.1.2.2⟩)
  rcases ho k r with r | r
  ·
   exact q.1.2.1 r
  ·
   exact Nat.lt_irrefl _ (Nat.lt_of_lt_of_le q.2 r)
 ·
  rcases ho k q with r | r
  ·
   exact h.own k r
  ·
   exact ⟨by omega,by omega⟩
theorem PaS.non (h:PaS w0 w p mb A c L y OA oc Q) (u:Upd Non w w'):PaS w0 w' p mb A c L y OA oc Q :=
 h.call (h.rd.non u) (fun _ q=>.inl q) (u.mono (fun _ _ f=>f.elim))
theorem PaS.app (h:PaS w0 w p mb A c L y OA oc Q) {rl:Rl} {a:RlA} {m:Nat} (hk:RlK w (fun k=>m≤k∧¬y.own p k) rl a) (hm:mb<m) (hA:∀k,At OA k→k<m) {cs:List Value} (hc:RsCells w (fun k=>(w0.heap.size<k∧¬y.own p k∧k≠mb)∧¬At OA k) cs Q) {w2 w3 w4:World} (hs:SMap w2 mb (nmV (Q++[rl]))) (u1:Upd (·=mb) w w2) (u2:Upd Non w2 w3) {OB:Option Addr} {ob:Nat} (ho:Own w4 43 14 OB (Q.length+1) ob (cs++(rlCells rl a).toList)) (u3:Upd (At OA) w3 w4) (hat:∀k,At OB k→At OA k∨k=w3.heap.size):PaS w0 w4 p mb A c L y OB ob (Q++[rl]):=by
 obtain ⟨hn,cs0,hown,_⟩:=id h.out;have hne:=h.rd.own_ne2 hown;have hlt:=h.lt;have hmb:=h.map.lt;have s1:=u1.size;have s2:=u2.size
 have uu:Upd (fun k=>k=mb∨At OA k) w w4:=((u1.mono (fun _ _ q=>.inl q)).trans (u2.mono (fun _ _ f=>f.elim)) (fun _ _ q=>q)).trans (u3.mono (fun _ _ q=>.inr q)) (fun _ _ q=>q)
 have hE:∀k,At OA k→k≠w0.heap.size:=fun k q=>by have:=h.oat k q;omega
 refine ⟨h.rd.upd uu (fun k hk q=>?_),h.er.upd uu (fun q=>?_),?_,?_,h.own,fun k q=>?_,h.lt,h.upd.trans uu (fun k hk q=>?_)⟩
 ·
  rcases q with q | q
  ·
   subst q;exact ⟨hlt.2,fun r=>(h.own _ (.inr (.inl r))).2 rfl,fun r=>(h.own _ (.inr (.inr r))).2 rfl⟩
  ·
   exact ⟨by have:=h.oat k q;omega,fun r=>hne k q (.inr (.inl r)),fun r=>hne k q (.inr (.inr r))⟩
 ·
  rcases q with q | q
  ·
   omega
  ·
   exact hE _ q rfl
 ·
  have hc3:RsCells w3 (fun k=>(w0.heap.size<k∧¬y.own p k∧k≠mb)∧¬At OA k) cs Q:=(hc.mono u1 (fun k _ q=>q.1.2.2) (fun _ _ q=>q)).mono u2 (fun _ _ _ f=>f) (fun _ _ q=>q)
  have hk3:RlK w3 (fun k=>(w0.heap.size<k∧¬y.own p k∧k≠mb)∧¬At OA k) rl a:=by
   have:=(hk.upd u1 (fun k _ q e=>by have:=q.1;omega)).upd u2 (fun _ _ _ f=>f);refine this.mono (fun k _ q=>⟨⟨by have:=q.1;omega,q.2,by have:=q.1;omega⟩,fun r=>by have:=hA k r;have:=q.1;omega⟩)
  have:=RlO.snoc (G':=fun k=>w0.heap.size<k∧¬y.own p k∧k≠mb) rfl hc3 hk3 ho u3 hat (fun _ _ q=>q);rw [List.length_append,List.length_singleton];exact this
 ·
  exact (hs.upd u2 (fun f=>f)).upd u3 (fun q=>by have:=h.oat _ q;omega)
 ·
  rcases hat k q with r | r
  ·
   exact h.oat k r
  ·
   omega
 ·
  rcases q with q | q
  ·
   omega
  ·
   have:=h.oat k q;omega
theorem PaS.res (h:PaS w0 w p mb A c L y OA oc Q) (a b:Value):Blk (setE2 w w0.heap.size a b) w0.heap.size 31 #[a,b]∧Upd Non w0 (setE2 w w0.heap.size a b)∧Blk (setE2 w w0.heap.size a b) p 59 (rcells A L.length c y)∧RlsV (setE2 w w0.heap.size a b) (fun k=>w0.heap.size≤k) OA Q:=by
 have u:=setE2_upd w w0.heap.size a b;have hlt:=h.lt;refine ⟨setE2_blk h.er a b,h.upd.trans u (fun k hk e=>by omega),h.rd.blk.upd u (by omega),?_⟩
 ·
  have hv:RlsV w (fun k=>w0.heap.size<k) OA Q:=h.out.view (fun k q=>by have:=h.oat k q;omega) (fun k _ q=>q.1);exact (hv.upd u (fun k _ q e=>by omega)).mono (fun k _ q=>Nat.le_of_lt q)
end
def PI (p:Pt):Prop:=∀q∈nodes p,I64 q.imm
structure RlI (R:Rl):Prop where
 l:PI R.l
 r:PI R.r
 c:∀x∈R.conds,I64 x.n
theorem nodes_self (p:Pt):p∈nodes p:=by cases p;simp [nodes]
theorem nodesL_mem {q k:Pt}:∀{ks:List Pt},k∈ks→q∈nodes k→q∈nodesL ks
 | x::ks,hk,hq=>by
  simp only [nodesL,List.mem_append]
  rcases List.mem_cons.1 hk with rfl | hk
  ·
   exact .inl hq
  ·
   exact .inr (nodesL_mem hk hq)
theorem PI.kid {p k:Pt} (h:PI p) (hk:k∈p.kids):PI k:=fun q hq=>h q (by
 cases p
 simp only [nodes,List.mem_cons]
 exact .inr (nodesL_mem hk hq))
theorem oS_ops {op:Int} (h:(oSortsF op).2.2=true):op=1∨(4≤op∧op<32):=by
 rw [←allowed_ok] at h;simp only [allowedF,decide_eq_true_iff] at h;omega
theorem shp_fm (p:Pt):∀(s m:Int) (n:Nat),shp p s m n=true→m≤6→n≤6→PI p→FmOk p:=by
 induction p using Pt.ind with
 | h p ih =>
  intro s m n hs hm hn hi
  by_cases hv:p.v=0
  ·
   rw [shp_op hv,Bool.and_eq_true,decide_eq_true_iff] at hs;obtain ⟨⟨h1,h2,_,h4⟩,h5⟩:=hs;have hI:=hi p (nodes_self p)
   have hiv:p.iv≤100:=by
    unfold pImmF at h4
    split at h4
    ·
     simp only [Bool.and_eq_true,decide_eq_true_iff] at h4;omega
    ·
     omega
   have hks:∀k∈p.kids,FmOk k:=fun k hk=>by
    obtain ⟨i,hi2,rfl⟩:=List.mem_iff_getElem.1 hk;exact ih _ hk _ m n (shpL_at hi2 h5) hm hn (hi.kid hk)
   cases p with
   | mk v op imm iv ks =>
    dsimp only [Pt.v,Pt.op,Pt.imm,Pt.iv,Pt.kids] at *
    rcases oS_ops h1 with rfl | ⟨a,b⟩
    ·
     exact .cst (by omega) hI.1 hI.2 hiv
    ·
     exact .app (by omega) a b hI.1 hI.2 hiv hks
  ·
   rw [shp_var hv,decide_eq_true_iff] at hs
   cases p with
   | mk v op imm iv ks =>
    dsimp only [Pt.v,Pt.op,Pt.imm,Pt.iv,Pt.kids] at *;exact .var (by omega) (by omega)
theorem cond_fm {c:Cd} {ss:List Int} {m:Int} (h:condF c ss m=true) (hs:ss.length≤7) (hm:m≤6) (hn:I64 c.n):CdFm c:=by
 unfold condF at h
 split at h
 ·
  simp only [isValF,Bool.and_eq_true,decide_eq_true_iff] at h;exact ⟨by omega,by omega,by omega,by omega,by omega,by omega,hn.1,hn.2⟩
 ·
  split at h
  ·
   simp only [isValF,Bool.and_eq_true,decide_eq_true_iff] at h;exact ⟨by omega,by omega,by omega,by omega,by omega,by omega,hn.1,hn.2⟩
  ·
   split at h
   ·
    simp only [isValF,Bool.and_eq_true,decide_eq_true_iff] at h;exact ⟨by omega,by omega,by omega,by omega,by omega,by omega,hn.1,hn.2⟩
   ·
    split at h
    ·
     simp only [isValF,isImmF,Bool.and_eq_true,decide_eq_true_iff] at h;exact ⟨by omega,by omega,by omega,by omega,by omega,by omega,hn.1,hn.2⟩
    ·
     split at h
     ·
      simp only [isImmF,Bool.and_eq_true,decide_eq_true_iff] at h;exact ⟨by omega,by omega,by omega,by omega,by omega,by omega,hn.1,hn.2⟩
     ·
      cases h
structure FmR (R:Rl):Prop where
 l:FmOk R.l
 r:FmOk R.r
 c:∀x∈R.conds,CdFm x
 few:R.conds.length≤6
 ls:R.l.size≤24
 rs:R.r.size≤24
 n:R.name.size≤16
theorem impl_fm {r:Rl} (h:implF r=true) (hi:RlI r):FmR r:=by
 have k:=imp_ok h;have hv:=k.vars
 refine ⟨shp_fm _ _ _ _ k.shl k.imms.2 (by omega) hi.l,shp_fm _ _ _ _ k.shr k.imms.2 (by omega) hi.r,fun x hx=>cond_fm (k.cnd x hx) (by simp;omega) k.imms.2 (hi.c x hx),k.few,k.sizes.1,k.sizes.2,?_⟩
 have:=k.name;simp only [nameF,Bool.and_eq_true,decide_eq_true_iff] at this;exact this.2.2
theorem fmtCs_len:∀{cs:List Cd} {b:Bool},(∀x∈cs,CdFm x)→(fmtCs cs b).length≤44 * cs.length
 | [],b,_=>by simp [fmtCs]
 | c::cs,b,h=>by
  have e1:=fmtC_len (h c List.mem_cons_self);have e2:=fmtCs_len (cs:=cs) (b:=false) (fun x hx=>h x (List.mem_cons_of_mem _ hx));simp only [fmtCs,List.length_append,List.length_cons]
  have : (if b=true then [32,105,102,32] else ([44,32]:Bs)).length≤4:=by split <;> simp
  omega
theorem fmtCs_snoc (c:Cd):∀(cs:List Cd) (b:Bool),fmtCs (cs++[c]) b=fmtCs cs b++((if b&&cs.isEmpty then [32,105,102,32] else [44,32])++fmtC c)
 | [],b=>by simp [fmtCs]
 | x::cs,b=>by simp [fmtCs,fmtCs_snoc c cs]
theorem fmtR_len {r:Rl} (h:FmR r):(fmtR r).length≤2000:=by
 have e1:=fmtF_len _ h.l;have e2:=fmtF_len _ h.r;have e3:=fmtCs_len (b:=true) h.c;have e4:=h.few;have e5:=h.ls;have e6:=h.rs
 have e7:(kx r.name).length≤16:=by rw [kx_len];exact h.n
 unfold fmtR;simp only [List.length_append,List.length_cons,List.length_nil];omega
theorem fmtRs_snoc (r:Rl):∀L:List Rl,fmtRs (L++[r])=fmtRs L++fmtR r
 | []=>by simp [fmtRs]
 | x::L=>by simp [fmtRs,fmtRs_snoc r L]
theorem fmtRs_len:∀{L:List Rl},(∀r∈L,FmR r)→(fmtRs L).length≤2000 * L.length
 | [],_=>by simp [fmtRs]
 | r::L,h=>by
  have e1:=fmtR_len (h r List.mem_cons_self);have e2:=fmtRs_len (L:=L) (fun x hx=>h x (List.mem_cons_of_mem _ hx));simp only [fmtRs,List.length_append,List.length_cons];omega
end Go.Proofs.YtblkgjdhaibhgaaGreat
namespace Go.Proofs.YtblkgjdhaibhgaaGreat
open Go.RowKit
theorem strCells_u8 (s:ByteArray):Lib.strCells s=u8s (kx s):=rfl
theorem run_apps {w:World} {A:Option Addr} {n c:Nat} {bs:Bs} (h:Own w 5 1 A n c (u8s bs)) {b0:Nat} (hA:∀k,At A k→b0≤k) (hb0:b0≤w.heap.size) (s:ByteArray) (hs:n+s.size≤100000000000000) (ty:TypeId) :
  ∃A' c' w',(Builtin.append_ #[57,9] ty #[.slice A n c,.string s]).run Tryz.prog w=.ok (.slice A' (n+s.size) c') w'∧Own w' 5 1 A' (n+s.size) c' (u8s (bs++kx s))∧Upd (At A) w w'∧(∀k,At A' k→b0≤k):=by
 obtain ⟨i,h1,h2,h3,h4⟩:=info_parts (show (Tryz.prog.info? 5).map (fun i=>(i.zero,i.size,i.bytes))=some (some (.int .u8 0),1,1) from by kernel_rfl)
 have hown:w.ownsRow b0 5 1 (.slice A n c) n (u8s bs):=by
  refine ⟨h.1,?_⟩
  rcases h.2 with q | ⟨g,cap,cur,hv,_,r⟩
  ·
   exact .inl q
  ·
   injection hv with hv e2 e3
   subst hv e3;exact .inr ⟨g,c,cur,rfl,hA g (At.some_.2 rfl),r⟩
 obtain ⟨v',w',hr,h5,h6,h7⟩:=Lib.run_append_own_string (P:=Tryz.prog) w b0 57 9 ty 5 i Tryz.underlying57 Tryz.underlying9 h1 h2 h3 h4 (.slice A n c) n (u8s bs) hown s (by simp only [maxLen];omega) (by omega) hb0
 rw [strCells_u8] at h5
 have hu:Upd (At A) w w':=(Upd.of_grown h6).mono (fun k _ hk=>by
  cases A with
  | none=>simp [Value.ownBlock] at hk
  | some a=>exact ⟨a.off,a.spot,by simp [Value.ownBlock] at hk;subst hk;rfl⟩)
 have hcat:u8s bs++u8s (kx s)=u8s (bs++kx s):=by simp [u8s]
 rw [hcat] at h5
 rcases h5.2 with ⟨rfl,h0⟩ | ⟨g,cap,cur,rfl,hbg,r⟩
 ·
  refine ⟨none,0,w',?_,?_,hu,fun k hk=>(At.none_ hk).elim⟩
  ·
   rw [h0];exact hr
  ·
   refine ⟨h5.1,.inl ⟨?_,h0⟩⟩;rw [h0]
 ·
  exact ⟨some ⟨g,0,none⟩,cap,w',hr,⟨h5.1,.inr ⟨g,cap,cur,rfl,Nat.zero_le _,r⟩⟩,hu,fun k hk=>by rw [At.some_] at hk;subst hk;exact hbg⟩
theorem wp_apps {w:World} {o:Oper} {a:Act} {K:Act→World→Prop} {Q:Exit→Act→World→Prop} {s x:Operand}
  (ho:o.op=.call { callee:=.builtin .append,args:=#[s,x],argTypes:=#[57,9] }) {A:Option Addr} {n c:Nat} {bs:Bs} (hs:a.eval s=.slice A n c) (h:Own w 5 1 A n c (u8s bs)) {b0:Nat} (hA:∀k,At A k→b0≤k) (hb0:b0≤w.heap.size) {str:ByteArray} (hx:a.eval x=.string str) (hn:n+str.size≤100000000000000)
  (k:∀A' c' w',Own w' 5 1 A' (n+str.size) c' (u8s (bs++kx str))→Upd (At A) w w'→(∀k,At A' k→b0≤k)→K (a.put o.dst (.slice A' (n+str.size) c')) w'):o.wp Tryz.prog a w K Q:=by
 obtain ⟨A',c',w',hrun,h2,h3,h4⟩:=run_apps h hA hb0 str hn o.type;unfold Oper.wp execOp;simp only [ho,resolve,invoke,builtin,Sem.run_bind,Sem.run_pure,Result.andThen_ok,List.map_toArray,List.map_cons,List.map_nil,hs,hx,hrun];exact k A' c' w' h2 h3 h4
theorem step_apps {w:World} {ops:Array Oper} {o:Oper} {a:Act} {K:Act→World→Prop} {Q:Exit→Act→World→Prop} {E:Prop} (hgd:o.guard=none) {s x:Operand}
  (ho:o.op=.call { callee:=.builtin .append,args:=#[s,x],argTypes:=#[57,9] }) {A:Option Addr} {n c:Nat} {bs:Bs} (hs:a.eval s=.slice A n c) (h:Own w 5 1 A n c (u8s bs)) {b0:Nat} (hA:∀k,At A k→b0≤k) (hb0:b0≤w.heap.size) {str:ByteArray} (hx:a.eval x=.string str) (hn:n+str.size≤100000000000000)
  (k:∀A' c' w',Own w' 5 1 A' (n+str.size) c' (u8s (bs++kx str))→Upd (At A) w w'→(∀k,At A' k→b0≤k)→K (a.put o.dst (.slice A' (n+str.size) c')) w') :
  if Region.wanted o (yielded ops a.tmps)=true then Oper.wp Tryz.prog o a w K Q else E:=by
 have hw:Region.wanted o (yielded ops a.tmps)=true:=by simp [Region.wanted,hgd]
 rw [if_pos hw];exact wp_apps ho hs h hA hb0 hx hn k
theorem wpList_apps {w:World} {ops:Array Oper} {rest:List Oper} {o:Oper} {a:Act} {Q:Exit→Act→World→Prop} (hgd:o.guard=none) {s x:Operand}
  (ho:o.op=.call { callee:=.builtin .append,args:=#[s,x],argTypes:=#[57,9] }) {A:Option Addr} {n c:Nat} {bs:Bs} (hs:a.eval s=.slice A n c) (h:Own w 5 1 A n c (u8s bs)) {b0:Nat} (hA:∀k,At A k→b0≤k) (hb0:b0≤w.heap.size) {str:ByteArray} (hx:a.eval x=.string str) (hn:n+str.size≤100000000000000)
  (k:∀A' c' w',Own w' 5 1 A' (n+str.size) c' (u8s (bs++kx str))→Upd (At A) w w'→(∀k,At A' k→b0≤k)→wpList Tryz.prog ops Q rest (a.put o.dst (.slice A' (n+str.size) c')) w'):wpList Tryz.prog ops Q (o::rest) a w :=
 wpList_plain hgd fun _ hK=>wp_apps ho hs h hA hb0 hx hn fun A' c' w' h2 h3 h4=>hK _ _ (k A' c' w' h2 h3 h4)
theorem conv_own {w:World} {A:Option Addr} {n c:Nat} {bs:Bs} (h:Own w 5 1 A n c (u8s bs)) (hn:n=bs.length):(convert 57 9 (.slice A n c)).run Tryz.prog w=.ok (.string (kstr bs)) w:=by
 have hs:Sl w (At A) A ((bs.map fun b=>(b.toNat:Int)).map fun x=>Value.int .u8 x):=by
  have:=Own.sl h;rw [show (bs.map fun b=>(b.toNat:Int)).map (fun x=>Value.int .u8 x)=u8s bs by simp [u8s]];exact this
 have:=run_str (P:=Tryz.prog) (src:=57) (dst:=9) Tryz.underlying57 Tryz.underlying5 Tryz.underlying9 (n:=n) (c:=c) hs (by simpa using hn);rw [bstr_ub] at this;exact this
section
variable {T1 T:List (Bs×Nat)} {fin fin' k:Nat}
end
section
variable {T:List (Bs×Nat)} {fin n:Nat} {ax:Bs→Option Rl}
end
def cnI (iv:Int) (n:Nat):Option Nat:=if 0<iv then (if iv≤n then some n else if iv=n+1 then some (n+1) else none) else some n
mutual
def cn:Pt→Nat→Nat→Option (Nat×Nat)
 | .mk v _ _ iv ks,m,n =>
  if 0<v then (if v≤m then some (m,n) else if v=m+1 then some (m+1,n) else none)
  else match cnI iv n with
   | none=>none
   | some n2=>cnL ks m n2
def cnL:List Pt→Nat→Nat→Option (Nat×Nat)
 | [],m,n=>some (m,n)
 | k::ks,m,n=>match cn k m n with
  | none=>none
  | some s=>cnL ks s.1 s.2
end
section
variable {T:List (Bs×Nat)} {fin:Nat}
end
section
variable {T:List (Bs×Nat)} {fin:Nat}
end
end Go.Proofs.YtblkgjdhaibhgaaGreat
