/-
  Walks and lemmas that the claim rests on.
-/
import Derived.Test.YtblkgjdhaibhgaaGreatV10
import Derived.Deep.Slices
import Derived.Test.YtblkgjdhaibhgaaGreatRows
import Derived.Test.YtblkgjdhaibhgaaGreatV1
import Derived.Test.YtblkgjdhaibhgaaGreatV8
import Derived.Test.YtblkgjdhaibhgaaGreatV6
namespace Go.Proofs.YtblkgjdhaibhgaaGreat
open Go.RowKit Go.WideShapes Go.ChangeShapes Go.ChangeAt
section
variable {H:Type} {enc:TypeId×Value→H} {P:Program} {w:World}
theorem open_intT {base:Nat} {sp:Nat→Bool} {held:Bool} {t:TypeId} {fuel:Nat} {cs:List Value} {x:DataW H×List MemPlace} (ht:P.underlying t=some (.int .i64)) (h:DataW.trod enc P w base sp held fuel t cs=some x):∃n,cs=[.int .i64 n]∧I64 n:=by
 obtain ⟨n,h1,_,h2⟩:=DataW.trod_int ht h;exact ⟨n,h1,i64_of_wf h2⟩
theorem spot_none {b off:Nat} {spot:Option Nat} {v:Value} (h:w.cell? ((⟨b,off,spot⟩:Addr).add 0)=some v):spot=none:=by simpa [Addr.add] using World.cell?_spot h
end
theorem list_of {α:Type} {p:Nat→α→Prop}:∀(n:Nat),(∀i,i<n→∃a,p i a)→∃l:List α,l.length=n∧∀i (h:i<l.length),p i l[i]
 | 0,_=>⟨[],rfl,by simp⟩
 | n+1,h=>by
  obtain ⟨l,hl,hp⟩:=list_of n (fun i hi=>h i (by omega));obtain ⟨a,ha⟩:=h n (by omega);refine ⟨l++[a],by simp [hl],fun i hi=>?_⟩;by_cases e:i<l.length
  ·rw [List.getElem_append_left e];exact hp i e
  ·have : i=l.length:=by simp at hi;omega
   subst this;simp;rw [hl];exact ha
theorem cells_int64:Tryz.prog.cellsOf 2=1:=by kernel_rfl
end Go.Proofs.YtblkgjdhaibhgaaGreat
namespace Go.Proofs.YtblkgjdhaibhgaaGreat
open Go.RowKit Go.WideShapes Go.ChangeShapes Go.ChangeAt
section
variable {H:Type}
theorem bulk_part {d:DataW H} {l:List (DataW H)} (h:d∈l):Rows.uptoBulk d≤Rows.uptoBulkAll l:=by
 induction l with
 | nil=>cases h
 | cons x r ih =>
  simp only [Rows.uptoBulkAll]
  cases List.mem_cons.1 h with
  | inl e=>subst e;omega
  | inr e=>have:=ih e;omega
theorem bulk_slice (elems spare:List (DataW H)):Rows.uptoBulkAll elems+1≤Rows.uptoBulk (.slice elems spare):=by
 simp only [Rows.uptoBulk];omega
theorem bulk_agg (l:List (DataW H)):Rows.uptoBulk (.agg l)=Rows.uptoBulkAll l+1:=by simp only [Rows.uptoBulk]
theorem bulk_string (bytes:List UInt8):Rows.uptoBulk (DataW.lit (H:=H) (.string bytes))=bytes.length+1:=by simp [Rows.uptoBulk]
theorem sizeL_bulk:∀(L:List Pt) (D:List (DataW H)),L.length=D.length→(∀i (h:i<L.length) (g:i<D.length),L[i].size≤Rows.uptoBulk D[i])→Pt.sizeL L≤Rows.uptoBulkAll D
 | [],[],_,_=>by simp [Pt.sizeL,Rows.uptoBulkAll]
 | p::L,d::D,hl,h=>by
  have h0:=h 0 (by simp) (by simp)
  have h1:=sizeL_bulk L D (by simpa using hl) (fun i hi gi=>by
   have:=h (i+1) (by simpa using hi) (by simpa using gi)
   simpa using this)
  simp only [Pt.sizeL,Rows.uptoBulkAll];simp at h0;omega
 | [],_::_,hl,_=>by simp at hl
 | _::_,[],hl,_=>by simp at hl
theorem len_bulk {α:Type} (L:List α) (D:List (DataW H)) (hl:L.length=D.length):L.length≤Rows.uptoBulkAll D:=by
 rw [hl];clear hl
 induction D with
 | nil=>simp
 | cons d D ih =>
  have : 1≤Rows.uptoBulk d:=by
   cases d with
   | lit l=>cases l <;> simp [Rows.uptoBulk]
   | nil=>simp [Rows.uptoBulk]
   | ptr d=>simp [Rows.uptoBulk]
   | slice elems spare=>simp [Rows.uptoBulk]
   | agg parts=>simp [Rows.uptoBulk]
   | iface t d=>simp [Rows.uptoBulk]
   | map entries=>simp [Rows.uptoBulk]
   | held h=>simp [Rows.uptoBulk]
  simp only [List.length_cons,Rows.uptoBulkAll];omega
end
section
variable {H:Type} {enc:TypeId×Value→H} {P:Program} {w:World} {base fuel:Nat} {sp:Nat→Bool} {held:Bool} {t e:TypeId} {cs:List Value} {x:DataW H×List MemPlace}
theorem open_slice_lt (ht:P.underlying t=some (.slice e)) (h:DataW.trod enc P w base sp held fuel t cs=some x) :
  (cs=[.slice none 0 0]∧x=(.nil,[])) ∨
  ∃(a:Addr) (len cap n:Nat) (D Sp:List (DataW H)) (ps:List MemPlace),fuel=n+1∧cs=[.slice (some a) len cap]∧len≤cap∧x=(.slice D Sp,ps)∧D.length=len ∧
   ∀i (hi:i<D.length),∃cs' Pl,w.cells? base (a.add (i * P.cellsOf e)) (P.cellsOf e)=some cs'∧DataW.trod enc P w base sp held n e cs'=some (D[i],Pl):=by
 rcases DataW.trod_slice ht h with h0 | ⟨a,len,cap,elems,rest,n,hn,rfl,rfl,hb,hl,hm,hlen,hel,_,_⟩
 ·exact .inl h0
 ·refine .inr ⟨a,len,cap,n,elems.map (·.1),rest.map (·.1),_,hn,rfl,hl,rfl,by simp [hlen],fun i hi=>?_⟩;have hi':i<elems.length:=by simpa using hi
  have:=hel i (by omega);rw [List.getElem?_eq_getElem hi',Option.bind_eq_some_iff] at this;obtain ⟨cs',h1,h2⟩:=this;exact ⟨cs',elems[i].2,h1,by rw [h2];simp⟩
end
theorem cells_Pattern:Tryz.prog.cellsOf 40=5:=by kernel_rfl
theorem cells_Patterns:Tryz.prog.cellsOf 38=1:=by kernel_rfl
theorem und_Pattern:∃f0 f1 f2 f3 f4:Field,Tryz.prog.underlying 40=some (.struct #[f0,f1,f2,f3,f4])∧f0.type=3∧f0.offset=0∧f1.type=3∧f1.offset=1∧f2.type=2∧f2.offset=2∧f3.type=3∧f3.offset=3∧f4.type=38∧f4.offset=4:=⟨_,_,_,_,_,Tryz.underlying40,rfl,rfl,rfl,rfl,rfl,rfl,rfl,rfl,rfl,rfl⟩
section
variable {H:Type} {enc:TypeId×Value→H} {w:World} {base:Nat} {sp:Nat→Bool} {held:Bool}
end
end Go.Proofs.YtblkgjdhaibhgaaGreat
namespace Go.Proofs.YtblkgjdhaibhgaaGreat
open Go.RowKit Go.WideShapes Go.ChangeShapes Go.ChangeAt
theorem cells_Cond:Tryz.prog.cellsOf 69=4:=by kernel_rfl
theorem cells_Conds:Tryz.prog.cellsOf 41=1:=by kernel_rfl
theorem cells_string:Tryz.prog.cellsOf 9=1:=by kernel_rfl
theorem cells_Rule:Tryz.prog.cellsOf 43=14:=by kernel_rfl
theorem und_Cond:∃f0 f1 f2 f3:Field,Tryz.prog.underlying 69=some (.struct #[f0,f1,f2,f3])∧f0.type=3∧f0.offset=0∧f1.type=3∧f1.offset=1∧f2.type=3∧f2.offset=2∧f3.type=2∧f3.offset=3:=⟨_,_,_,_,Tryz.underlying69,rfl,rfl,rfl,rfl,rfl,rfl,rfl,rfl⟩
theorem und_Rule:∃f0 f1 f2 f3 f4 f5:Field,Tryz.prog.underlying 43=some (.struct #[f0,f1,f2,f3,f4,f5])∧f0.type=9∧f0.offset=0∧f1.type=40∧f1.offset=1∧f2.type=40∧f2.offset=6∧f3.type=41∧f3.offset=11∧f4.type=3∧f4.offset=12∧f5.type=3∧f5.offset=13:=⟨_,_,_,_,_,_,Tryz.underlying43,rfl,rfl,rfl,rfl,rfl,rfl,rfl,rfl,rfl,rfl,rfl,rfl⟩
section
variable {H:Type} {enc:TypeId×Value→H} {w:World} {base:Nat} {sp:Nat→Bool} {held:Bool}
theorem open_strT {fuel:Nat} {cs:List Value} {x:DataW H×List MemPlace} (h:DataW.trod enc Tryz.prog w base sp held fuel 9 cs=some x):∃s:ByteArray,cs=[.string s]∧s.size≤Rows.uptoBulk x.1:=by
 obtain ⟨s,h1,h2,_⟩:=DataW.trod_string Tryz.underlying9 h;refine ⟨s,h1,?_⟩;rw [h2];show s.size≤Rows.uptoBulk (DataW.lit (H:=H) (.string s.data.toList));rw [bulk_string,Array.length_toList];exact Nat.le_succ _
end
end Go.Proofs.YtblkgjdhaibhgaaGreat
namespace Go.Proofs.YtblkgjdhaibhgaaGreat
open Go.RowKit Go.WideShapes Go.ChangeShapes Go.ChangeAt
section
variable {H:Type} {enc:TypeId×Value→H} {w:World} {base:Nat} {sp:Nat→Bool} {held:Bool}
set_option maxRecDepth 100000 in
theorem open_ptI:∀(fuel:Nat) {cs:List Value} {x:DataW H×List MemPlace},DataW.trod enc Tryz.prog w base sp held fuel 40 cs=some x →
  ∃(p:Pt) (KA:Option Addr) (kc:Nat),cs=[.int .i64 p.v,.int .i64 p.op,.int .i64 p.imm,.int .i64 p.iv,.slice KA p.kids.length kc]∧PtK w (fun _=>True) p KA kc∧p.size≤Rows.uptoBulk x.1∧PI p:=by
 intro fuel
 induction fuel using Nat.strongRecOn with
 | ind fuel ih =>
  intro cs x h;obtain ⟨f0,f1,f2,f3,f4,hu,t0,o0,t1,o1,t2,o2,t3,o3,t4,o4⟩:=und_Pattern;obtain ⟨xs,n,hn,rfl,hl,hlen,hf⟩:=DataW.trod_struct hu h;rw [cells_Pattern] at hl
  match cs,hl with
  | [v0,v1,v2,v3,v4],_ =>
   match xs,hlen with
   | [y0,y1,y2,y3,y4],_ =>
    have g0:=hf 0 f0 rfl;have g1:=hf 1 f1 rfl;have g2:=hf 2 f2 rfl;have g3:=hf 3 f3 rfl;have g4:=hf 4 f4 rfl;rw [t0,o0,cells_int] at g0;rw [t1,o1,cells_int] at g1;rw [t2,o2,cells_int64] at g2;rw [t3,o3,cells_int] at g3;rw [t4,o4,cells_Patterns] at g4;simp at g0 g1 g2 g3 g4;obtain ⟨a,e0,i0⟩:=open_intT Tryz.underlying3 g0;obtain ⟨b,e1,i1⟩:=open_intT Tryz.underlying3 g1;obtain ⟨c,e2,i2⟩:=open_intT Tryz.underlying2 g2;obtain ⟨d,e3,i3⟩:=open_intT Tryz.underlying3 g3;simp at e0 e1 e2 e3;subst e0;subst e1;subst e2;subst e3;rcases open_slice_lt Tryz.underlying38 g4 with ⟨hcs,hx⟩ | ⟨A,len,cap,n',D,Sp,ps,hn',hcs,hl,hx,hD,hcell⟩
    ·simp at hcs;subst hcs;refine ⟨.mk a b c d [],none,0,rfl,?_,?_,PI.mk i2 (fun k hk=>by cases hk)⟩
     ·rw [PtK.iff];exact ⟨Nat.le_refl _,.inl rfl⟩
     ·rw [Pt.size_eq,bulk_agg];simp [Pt.kids,Pt.sizeL]
    ·simp at hcs;subst hcs
     have each:∀i,i<len→∃p:Pt,(∃KA kc,(∀j,j<5→w.cell? ((A.add (i * 5)).add j)=[Value.int .i64 p.v,.int .i64 p.op,.int .i64 p.imm,.int .i64 p.iv,.slice KA p.kids.length kc][j]?)∧PtK w (fun _=>True) p KA kc)∧(∀g:i<D.length,p.size≤Rows.uptoBulk D[i])∧PI p:=fun i hi=>by
      obtain ⟨cs',Pl,h1,h2⟩:=hcell i (by omega);rw [cells_Pattern] at h1;obtain ⟨_,_,h3⟩:=World.cells?_some h1;obtain ⟨p,KA,kc,rfl,h4,h5,h6⟩:=ih n' (by omega) h2;exact ⟨p,⟨KA,kc,h3,h4⟩,fun _=>h5,h6⟩
     obtain ⟨L,hL,hp⟩:=list_of len each;subst hL;refine ⟨.mk a b c d L,some A,cap,rfl,?_,?_,PI.mk i2 (fun k hk=>by obtain ⟨i,hi,rfl⟩:=List.mem_iff_getElem.1 hk;exact (hp i hi).2.2)⟩
     ·rw [PtK.iff];refine ⟨hl,?_⟩;by_cases h0:L.length=0
      ·exact .inl (List.eq_nil_of_length_eq_zero h0)
      ·obtain ⟨blk,off,spot⟩:=A;obtain ⟨⟨KA,kc,hh,_⟩,_⟩:=hp 0 (by omega);have h1:=hh 0 (by omega);have hspot:spot=none:=spot_none (by simpa [Addr.add] using h1);subst hspot;refine .inr ⟨blk,off,rfl,trivial,PtL.of fun i hi=>?_⟩;obtain ⟨⟨KA,kc,hh,h4⟩,_⟩:=hp i hi;have c0:=hh 0 (by omega);have c1:=hh 1 (by omega);have c2:=hh 2 (by omega);have c3:=hh 3 (by omega);have c4:=hh 4 (by omega);simp only [Addr.add_lit] at c0 c1 c2 c3 c4;exact ⟨KA,kc,c0,c1,c2,c3,c4,h4⟩
     ·rw [Pt.size_eq,bulk_agg];rw [hx];have h1:=bulk_slice D Sp;have h2:=sizeL_bulk L D hD.symm (fun i hi gi=>(hp i hi).2.1 gi);simp only [List.map_cons,List.map_nil,Rows.uptoBulkAll];show 1+Pt.sizeL L≤_;omega
set_option maxRecDepth 100000 in
theorem open_condI {fuel:Nat} {cs:List Value} {x:DataW H×List MemPlace} (h:DataW.trod enc Tryz.prog w base sp held fuel 69 cs=some x) :
  ∃c:Cd,cs=[.int .i64 c.kind,.int .i64 c.a,.int .i64 c.b,.int .i64 c.n]∧I64 c.n:=by
 obtain ⟨f0,f1,f2,f3,hu,t0,o0,t1,o1,t2,o2,t3,o3⟩:=und_Cond;obtain ⟨xs,n,hn,rfl,hl,hlen,hf⟩:=DataW.trod_struct hu h;rw [cells_Cond] at hl
 match cs,hl with
 | [v0,v1,v2,v3],_ =>
  match xs,hlen with
  | [y0,y1,y2,y3],_ =>
   have g0:=hf 0 f0 rfl;have g1:=hf 1 f1 rfl;have g2:=hf 2 f2 rfl;have g3:=hf 3 f3 rfl;rw [t0,o0,cells_int] at g0;rw [t1,o1,cells_int] at g1;rw [t2,o2,cells_int] at g2;rw [t3,o3,cells_int64] at g3;simp at g0 g1 g2 g3;obtain ⟨a,e0,_⟩:=open_intT Tryz.underlying3 g0;obtain ⟨b,e1,_⟩:=open_intT Tryz.underlying3 g1;obtain ⟨c,e2,_⟩:=open_intT Tryz.underlying3 g2;obtain ⟨d,e3,i3⟩:=open_intT Tryz.underlying2 g3;simp at e0 e1 e2 e3;subst e0;subst e1;subst e2;subst e3;exact ⟨⟨a,b,c,d⟩,rfl,i3⟩
set_option maxRecDepth 100000 in
theorem open_condsI {fuel:Nat} {cs:List Value} {x:DataW H×List MemPlace} (h:DataW.trod enc Tryz.prog w base sp held fuel 41 cs=some x) :
  ∃(A:Option Addr) (c:Nat) (L:List Cd),cs=[.slice A L.length c]∧L.length≤c∧CondsV w (fun _=>True) A L∧L.length≤Rows.uptoBulk x.1∧∀c∈L,I64 c.n:=by
 rcases open_slice_lt Tryz.underlying41 h with ⟨hcs,hx⟩ | ⟨A,len,cap,n',D,Sp,ps,hn',hcs,hl,hx,hD,hcell⟩
 ·exact ⟨none,0,[],hcs,by simp,.inl rfl,by simp,fun c hc=>by cases hc⟩
 ·have each:∀i,i<len→∃c:Cd,(∀j,j<4→w.cell? ((A.add (i * 4)).add j)=[Value.int .i64 c.kind,.int .i64 c.a,.int .i64 c.b,.int .i64 c.n][j]?)∧I64 c.n:=fun i hi=>by
   obtain ⟨cs',Pl,h1,h2⟩:=hcell i (by omega);rw [cells_Cond] at h1;obtain ⟨_,_,h3⟩:=World.cells?_some h1;obtain ⟨c,rfl,h4⟩:=open_condI h2;exact ⟨c,h3,h4⟩
  obtain ⟨L,hL,hp⟩:=list_of len each;subst hL;refine ⟨some A,cap,L,hcs,hl,?_,?_,fun c hc=>by obtain ⟨i,hi,rfl⟩:=List.mem_iff_getElem.1 hc;exact (hp i hi).2⟩
  ·by_cases h0:L.length=0
   ·exact .inl (List.eq_nil_of_length_eq_zero h0)
   ·obtain ⟨blk,off,spot⟩:=A;have h1:=(hp 0 (by omega)).1 0 (by omega);have hspot:spot=none:=spot_none (by simpa [Addr.add] using h1);subst hspot;refine .inr ⟨blk,off,rfl,trivial,fun i hi=>?_⟩;have c0:=(hp i hi).1 0 (by omega);have c1:=(hp i hi).1 1 (by omega);have c2:=(hp i hi).1 2 (by omega);have c3:=(hp i hi).1 3 (by omega);simp only [Addr.add_lit] at c0 c1 c2 c3;exact ⟨c0,c1,c2,c3⟩
  ·rw [hx];have h1:=bulk_slice D Sp;have h2:=len_bulk L D hD.symm;show L.length≤Rows.uptoBulk (.slice D Sp);omega
set_option maxRecDepth 100000 in
theorem open_rlI {fuel:Nat} {cs:List Value} {x:DataW H×List MemPlace} (h:DataW.trod enc Tryz.prog w base sp held fuel 43 cs=some x) :
  ∃(r:Rl) (a:RlA),cs=(rlCells r a).toList∧RlK w (fun _=>True) r a∧r.l.size+r.r.size+r.conds.length+r.name.size≤Rows.uptoBulk x.1∧RlI r:=by
 obtain ⟨f0,f1,f2,f3,f4,f5,hu,t0,o0,t1,o1,t2,o2,t3,o3,t4,o4,t5,o5⟩:=und_Rule;obtain ⟨xs,n,hn,rfl,hl,hlen,hf⟩:=DataW.trod_struct hu h;rw [cells_Rule] at hl
 match cs,hl with
 | [v0,v1,v2,v3,v4,v5,v6,v7,v8,v9,v10,v11,v12,v13],_ =>
  match xs,hlen with
  | [y0,y1,y2,y3,y4,y5],_ =>
   have g0:=hf 0 f0 rfl;have g1:=hf 1 f1 rfl;have g2:=hf 2 f2 rfl;have g3:=hf 3 f3 rfl;have g4:=hf 4 f4 rfl;have g5:=hf 5 f5 rfl;rw [t0,o0,cells_string] at g0;rw [t1,o1,cells_Pattern] at g1;rw [t2,o2,cells_Pattern] at g2;rw [t3,o3,cells_Conds] at g3;rw [t4,o4,cells_int] at g4;rw [t5,o5,cells_int] at g5;simp at g0 g1 g2 g3 g4 g5;obtain ⟨s,e0,b0⟩:=open_strT g0;obtain ⟨p,KA,kc,e1,k1,b1,i1⟩:=open_ptI _ g1;obtain ⟨q,KB,kd,e2,k2,b2,i2⟩:=open_ptI _ g2;obtain ⟨A,c,L,e3,l3,k3,b3,i3⟩:=open_condsI g3;obtain ⟨a,e4,_⟩:=open_intT Tryz.underlying3 g4;obtain ⟨b,e5,_⟩:=open_intT Tryz.underlying3 g5;simp at e0 e1 e2 e3 e4 e5;obtain ⟨rfl,rfl,rfl,rfl,rfl⟩:=e1;obtain ⟨rfl,rfl,rfl,rfl,rfl⟩:=e2;subst e0;subst e3;subst e4;subst e5;refine ⟨⟨s,p,q,L,a,b⟩,⟨KA,kc,KB,kd,A,c⟩,rfl,⟨k1,k2,k3,l3⟩,?_,⟨i1,i2,i3⟩⟩;rw [bulk_agg];simp only [List.map_cons,List.map_nil,Rows.uptoBulkAll];show p.size+q.size+L.length+s.size≤_;omega
set_option maxRecDepth 100000 in
theorem open_rlsV {r:Reach} {b0:Nat} {v:Value} {d:DataW H} {ps:List MemPlace} (hval:Value.okWide Tryz.prog w r b0 28 v) (hd:DataW.Trod enc Tryz.prog w base sp held 28 v d ps) :
  ∃(A:Option Addr) (c:Nat) (L:List Rl),v=.slice A L.length c∧L.length≤c∧RlsV w (fun _=>True) A L∧L.length≤Rows.uptoBulk d∧∀r∈L,RlI r∧r.l.size+r.r.size+r.conds.length+r.name.size≤Rows.uptoBulk d:=by
 obtain ⟨a0,len0,cap0,rfl⟩:=okWide_slice Tryz.underlying28 hval;obtain ⟨fuel,hf⟩:=hd;rcases open_slice_lt Tryz.underlying28 hf with ⟨hcs,hx⟩ | ⟨A,len,cap,n',D,Sp,ps',hn',hcs,hl,hx,hD,hcell⟩
 ·simp [Value.cells] at hcs;obtain ⟨rfl,rfl,rfl⟩:=hcs;exact ⟨none,0,[],rfl,by simp,.inl rfl,by simp,fun r hr=>by cases hr⟩
 ·simp [Value.cells] at hcs;obtain ⟨rfl,rfl,rfl⟩:=hcs
  have each:∀i,i<len0→∃q:Rl,(∃a:RlA,(∀j,j<14→w.cell? ((A.add (i * 14)).add j)=(rlCells q a).toList[j]?)∧RlK w (fun _=>True) q a)∧RlI q∧∀g:i<D.length,q.l.size+q.r.size+q.conds.length+q.name.size≤Rows.uptoBulk D[i]:=fun i hi=>by
   obtain ⟨cs',Pl,h1,h2⟩:=hcell i (by omega);rw [cells_Rule] at h1;obtain ⟨_,_,h3⟩:=World.cells?_some h1;obtain ⟨q,a,rfl,h4,h5,h6⟩:=open_rlI h2;exact ⟨q,⟨a,h3,h4⟩,h6,fun _=>h5⟩
  obtain ⟨L,hL,hp⟩:=list_of len0 each;subst hL;simp only [Prod.mk.injEq] at hx;obtain ⟨rfl,rfl⟩:=hx;have hb1:=bulk_slice D Sp;refine ⟨some A,cap0,L,rfl,hl,?_,?_,fun q hq=>?_⟩
  ·by_cases h0:L.length=0
   ·exact .inl (List.eq_nil_of_length_eq_zero h0)
   ·obtain ⟨blk,off,spot⟩:=A;obtain ⟨⟨a,hh,_⟩,_⟩:=hp 0 (by omega);have h1:=hh 0 (by omega);have hspot:spot=none:=spot_none (by simpa [Addr.add,rlCells] using h1);subst hspot;refine .inr ⟨blk,off,rfl,trivial,fun i hi=>?_⟩;obtain ⟨⟨a,hh,h4⟩,_⟩:=hp i hi;refine ⟨a,?_,h4⟩;have c0:=hh 0 (by omega);have c1:=hh 1 (by omega);have c2:=hh 2 (by omega);have c3:=hh 3 (by omega);have c4:=hh 4 (by omega);have c5:=hh 5 (by omega);have c6:=hh 6 (by omega);have c7:=hh 7 (by omega);have c8:=hh 8 (by omega);have c9:=hh 9 (by omega);have c10:=hh 10 (by omega);have c11:=hh 11 (by omega);have c12:=hh 12 (by omega);have c13:=hh 13 (by omega);simp only [Addr.add_lit] at c0 c1 c2 c3 c4 c5 c6 c7 c8 c9 c10 c11 c12 c13;exact ⟨c0,c1,c2,c3,c4,c5,c6,c7,c8,c9,c10,c11,c12,c13⟩
  ·have:=len_bulk L D hD.symm;omega
  ·obtain ⟨i,hi,rfl⟩:=List.mem_iff_getElem.1 hq;obtain ⟨_,h5,h6⟩:=hp i hi;have h7:=h6 (by omega);have h8:=bulk_part (List.getElem_mem (show i<D.length by omega));exact ⟨h5,by omega⟩
end
end Go.Proofs.YtblkgjdhaibhgaaGreat
