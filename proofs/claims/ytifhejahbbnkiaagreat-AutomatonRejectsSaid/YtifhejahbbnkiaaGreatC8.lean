/-
  Lemmas and walks that the claim rests on, part 8 (packed by a program).
-/
import Derived.Test.YtifhejahbbnkiaaGreatC1
import Derived.Lib.AppendZerosOnto
import Derived.Laws.CopyRow
import Derived.Test.YtifhejahbbnkiaaGreatC3
import Derived.Test.YtifhejahbbnkiaaGreatC5
import Derived.Test.YtifhejahbbnkiaaGreatC4
import Derived.WalkSmall
import Derived.Test.YtifhejahbbnkiaaGreatC2
namespace Go.Proofs.YtifhejahbbnkiaaGreat
open Go.RowKit
theorem zeroCells_one (v:Value) (n:Nat):Builtin.zeroCells #[v] n=(List.replicate n v).toArray:=by
 unfold Builtin.zeroCells;refine Array.ext (by simp) fun i h1 h2=>?_
 simp at h1 ⊢;simp [Nat.mod_one]
section
variable {P:Program} {w:World}
theorem run_appz_own (t tn ty e:TypeId) (i:TypeInfo) (z zv:Value) (kn:IntKind) (ht:P.underlying t=some (.slice e)) (htn:P.underlying tn=some (.int kn)) (hi:P.info? e=some i) (hz:i.zero=some z)
  (hsize:i.size=1) (hzs:z.cells=#[zv]) (h1:zv.oneCell'=true) (A:Option Addr) (n c:Nat) (xs:List Value) (hown:w.ownsRow 0 e 1 (.slice A n c) n xs) (k:Nat) (h63:n+k≤maxLen) (hbytes:(n+k) * i.bytes≤140737488355328) :
  ∃v' w',(Builtin.append_ #[t,tn] ty #[.slice A n c,.int .i64 k]).run P w=.ok v' w'∧w'.ownsRow 0 e 1 v' (n+k) (xs++List.replicate k zv)∧w.grownBy w' (Value.slice A n c).ownBlock ∧
   ((∃A' c',v'=.slice A' (n+k) c')∧(v'.ownBlock=(Value.slice A n c).ownBlock∨v'.ownBlock=some w.heap.size)):=by
 have hsmall:n+k≤9223372036854775807:=by simp only [maxLen] at h63;omega
 have hkb:k * i.bytes≤140737488355328:=Nat.le_trans (Nat.mul_le_mul_right _ (by omega)) hbytes;have hlen:(xs++List.replicate k zv).length=(n+k) * 1:=by rw [List.length_append,hown.1,List.length_replicate];omega
 have grown:∀(old:Nat),∀(row:Option Nat),old<n+k →
   (w.drew.alloc (.cells (xs.toArray++Builtin.zeroCells z.cells k++Builtin.zeroCells z.cells (grownCap w (n+k) old e - (n+k))) e)).ownsRow 0 e 1
    (.slice (some ⟨w.heap.size,0,none⟩) (n+k) (grownCap w (n+k) old e)) (n+k) (xs++List.replicate k zv) ∧
   w.grownBy (w.drew.alloc (.cells (xs.toArray++Builtin.zeroCells z.cells k++Builtin.zeroCells z.cells (grownCap w (n+k) old e - (n+k))) e)) row:=by
  intro old row ho;have hge:=grownCap_ge w (n+k) old e;have hcm:grownCap w (n+k) old e≤maxLen:=grownCap_le_maxLen w (n+k) old e h63;rw [hzs,zeroCells_one,zeroCells_one];refine ⟨⟨hlen,.inr ⟨w.heap.size,_,_,rfl,Nat.zero_le _,heap_alloc_new w.drew _,hge,hcm,?_,?_⟩⟩,⟨rfl,rfl,rfl,by simp,fun _ hk _=>heap_alloc_old w.drew _ hk⟩⟩
  ·have:=hown.1;simp only [Array.size_append,List.size_toArray,List.length_replicate];omega
  ·simp only [Array.toList_append,List.append_assoc];rw [←List.append_assoc,←hlen];exact List.take_left
 by_cases hk:k=0
 ·subst hk;refine ⟨.slice A n c,w,?_,by simpa using hown,⟨rfl,rfl,rfl,Nat.le_refl _,fun _ _ _=>rfl⟩,⟨_,_,rfl⟩,.inl rfl⟩;clear grown;have hw:IntKind.i64.wrap (0:Int)=0:=by decide
  rcases hown.2 with ⟨h0,hn0⟩ | ⟨g,cap,cur,h0,hbg,hg,hnc,hcm,hcs,htake⟩
  ·cases h0
   simp [Builtin.append_,run_underlying ht,run_underlying htn,sizeOf,typeInfo,hi,asInt,asIntOf,hw]
  ·cases h0
   simp [Builtin.append_,run_underlying ht,run_underlying htn,sizeOf,typeInfo,hi,asInt,asIntOf,hw,hnc,storeCells]
 ·rcases hown.2 with ⟨h0,hn0⟩ | ⟨g,cap,cur,h0,hbg,hg,hnc,hcm,hcs,htake⟩
  ·cases h0
   have hx:xs=[]:=List.eq_nil_of_length_eq_zero (by simpa using hown.1);subst hx;have hr:=Lib.run_append_nil_zeros (P:=P) w t tn ty e i z .i64 kn ht htn hi hz k (by omega) (by omega) (by omega) (by omega);have hgr:=grown 0 (Value.ownBlock (.slice none 0 0)) (by omega);simp only [Nat.zero_add,List.nil_append,Array.empty_append] at hgr ⊢;exact ⟨_,_,hr,hgr.1,hgr.2,⟨_,_,rfl⟩,Or.inr rfl⟩
  ·cases h0
   by_cases hroom:n+k≤c
   ·have hfit:n * i.size+k≤cur.size:=by rw [hsize,hcs];omega
    have hst:=run_storeCells_at (P:=P) g (n * i.size) e (List.replicate k zv) 0 cur w hg (by rw [List.length_replicate];omega) (fun v hv=>by rw [List.eq_of_mem_replicate hv];exact h1)
    refine ⟨.slice (some ⟨g,0,none⟩) (n+k) c,w.setRow g (cur.toList.take (n * i.size+0)++List.replicate k zv++cur.toList.drop (n * i.size+0+(List.replicate k zv).length)).toArray,?_,⟨hlen,.inr ⟨g,c,_,rfl,hbg,setRow_heap w g cur _ e _ hg,hroom,hcm,?_,?_⟩⟩,⟨rfl,rfl,rfl,by simp,fun k _ hk=>setRow_other w g k _ (fun e=>hk (by simp [Value.ownBlock,e]))⟩,⟨_,_,rfl⟩,Or.inl rfl⟩
    ·clear grown;have hw:IntKind.i64.wrap (k:Int)=k:=by rw [IntKind.wrap_i64];omega
     have h48i:¬(281474976710656<(k:Int) * (i.bytes:Int)):=by rw [←Int.natCast_mul];omega
     have hneg:¬((k:Int)<0):=by omega
     have hzc:Builtin.zeroCells z.cells k=(List.replicate k zv).toArray:=by rw [hzs,zeroCells_one]
     simp only [hsize,Nat.mul_one,Nat.add_zero,List.length_replicate,List.append_assoc] at hst;simp [Builtin.append_,run_underlying ht,run_underlying htn,sizeOf,typeInfo,zeroValue,hi,hz,asInt,asIntOf,hw,hneg,h48i,hk,hroom,hzc,Addr.add_lit,hst,hsize]
    ·simp only [List.size_toArray,List.length_append,List.length_take,List.length_drop,Array.length_toList,List.length_replicate,hsize,Nat.add_zero,Nat.mul_one] at *
     omega
    ·simp only [hsize,Nat.mul_one,Nat.add_zero] at htake ⊢;rw [htake];have e1:n+k=(xs++List.replicate k zv).length:=by rw [hlen];omega
     rw [e1];exact List.take_left
   ·have holds:∀j u,xs[j]?=some u→w.cell? ((⟨g,0,none⟩:Addr).add j)=some u:=hown.cells (g:=g) rfl
    have hold:(Builtin.firstCells i.size n (.slice (some ⟨g,0,none⟩) n c)).run P w.drew=.ok xs.toArray w.drew:=by
     exact run_firstCells_some (P:=P) w.drew i.size n ⟨g,0,none⟩ n c xs (by rw [hsize];exact hown.1) (by simpa using holds)
    have hr:=Lib.run_append_grow_zeros (P:=P) w t tn ty e i z .i64 kn ht htn hi hz (some ⟨g,0,none⟩) n c xs hold k (by omega) (by omega) (by omega) (by omega) (by omega) (growslice_fits (by omega) hbytes)
    have hgr:=grown c (Value.ownBlock (.slice (some ⟨g,0,none⟩) n c)) (by omega);exact ⟨_,_,hr,hgr.1,hgr.2,⟨_,_,rfl⟩,Or.inr rfl⟩
theorem wpList_appz {ops:Array Oper} {rest:List Oper} {o:Oper} {a:Act} {Q:Exit→Act→World→Prop} (hgd:o.guard=none) {s x:Operand} {t tn:TypeId}
  (ho:o.op=.call { callee:=.builtin .append,args:=#[s,x],argTypes:=#[t,tn] }) {e:TypeId} {bytes:Nat} {kn:IntKind} (T:SlT P t e 1 bytes) (htn:P.underlying tn=some (.int kn)) {zv:Value} (hz:∀i z,P.info? e=some i→i.zero=some z→z.cells=#[zv]) (h1:zv.oneCell'=true)
  {A:Option Addr} {n c:Nat} {cs:List Value} (hs:a.eval s=.slice A n c) (h:Own w e 1 A n c cs) {k:Nat} (hx:a.eval x=.int .i64 k) (h63:n+k≤maxLen) (hb:(n+k) * bytes≤140737488355328)
  (K:∀A' c' w',Own w' e 1 A' (n+k) c' (cs++List.replicate k zv)→Upd (At A) w w'→(∀j,At A' j→At A j∨j=w.heap.size)→wpList P ops Q rest (a.put o.dst (.slice A' (n+k) c')) w'):wpList P ops Q (o::rest) a w:=by
 obtain ⟨ht,⟨i,z,hi,hz0,hsz,hby,hzs⟩,hpos⟩:=T;subst hby;obtain ⟨v',w',hr,h2,h3,⟨A',c',rfl⟩,h5⟩:=run_appz_own (P:=P) (w:=w) t tn o.type e i z zv kn ht htn hi hz0 hsz (hz i z hi hz0) h1 A n c cs h k h63 hb
 refine Lib.wpList_append_run w hgd s x t tn ho _ _ hs hx _ w' hr (K A' c' w' h2 ((Upd.of_grown h3).mono (fun j _ hj=>?_)) (fun j hj=>?_))
 ·cases A with
  | none=>simp [Value.ownBlock] at hj
  | some a=>exact ⟨a.off,a.spot,by simp [Value.ownBlock] at hj;subst hj;rfl⟩
 ·obtain ⟨o',sp,rfl⟩:=hj;rcases h5 with h5 | h5
  ·left
   cases A with
   | none=>simp [Value.ownBlock] at h5
   | some a=>exact ⟨a.off,a.spot,by simp [Value.ownBlock] at h5;subst h5;rfl⟩
  ·right
   simpa [Value.ownBlock] using h5
end
def frO (op:Int) (n:Nat):List Bool:=if isG op then true::List.replicate (n - 1) false else List.replicate n false
mutual
def frP:Pt→List Bool
 | .mk v op _ _ kids=>if 0<v then [] else frO op (ownN op kids)++frL kids
def frL:List Pt→List Bool
 | []=>[]
 | k::ks=>frP k++frL ks
end
theorem frP_iff (p:Pt):frP p=if 0<p.v then [] else frO p.op (ownN p.op p.kids)++frL p.kids:=by
 obtain ⟨v,op,imm,iv,kids⟩:=p;rw [frP];rfl
theorem frL_app:∀l m:List Pt,frL (l++m)=frL l++frL m
 | [],_=>rfl
 | q::qs,m=>by rw [List.cons_append,frL,frL,frL_app qs m,List.append_assoc]
theorem frO_len {op:Int} {kids:List Pt}:(frO op (ownN op kids)).length=ownN op kids:=by
 unfold frO
 split
 ·rename_i h
  have h2:ownN op kids=2:=by
   have h1:=h;unfold isG at h1;have h1:=of_decide_eq_true h1;unfold ownN;rw [if_neg (by omega),if_neg (by omega),if_pos h]
  rw [List.length_cons,List.length_replicate,h2]
 ·rw [List.length_replicate]
theorem frP_len (p:Pt):(frP p).length=bN p:=by
 induction p using Pt.ind with
 | h p ih =>
  rw [frP_iff,bN_iff]
  split
  ·rfl
  ·rw [List.length_append,frO_len]
   congr 1
   have : ∀l:List Pt,(∀q∈l,(frP q).length=bN q)→(frL l).length=bL l:=by
    intro l
    induction l with
    | nil=>intro _;rfl
    | cons q qs h=>intro hq;rw [frL,List.length_append,hq q (by simp),h (fun x hx=>hq x (by simp [hx]))];rfl
   exact this _ ih
theorem frL_len:∀l:List Pt,(frL l).length=bL l
 | []=>rfl
 | q::qs=>by rw [frL,List.length_append,frP_len,frL_len qs];rfl
def selK (op:Int) (kids:List Pt) (j:Nat):List Pt:=if op=12 then kids.take (min j 1) else kids.take j
theorem selK_all {p:Pt} (hw:WfP 64 p) (hv:¬0<p.v) (hs:supO p.op p.kids=true):iL (selK p.op p.kids p.kids.length)=iL p.kids∧frL (selK p.op p.kids p.kids.length)=frL p.kids:=by
 have hw':=(WfP.iff 64 p).1 hw;unfold selK;by_cases h12:p.op=12
 ·have h2:p.kids.length=2:=by rw [hw'.2.2.1 (by omega),h12];rfl
  obtain ⟨k0,k1,ek⟩:∃k0 k1,p.kids=[k0,k1]:=by
   match p.kids,h2 with
   | [x,y],_=>exact ⟨x,y,rfl⟩
  have ho:k1.op=1:=by
   have:=hs;unfold supO at this;have:=of_decide_eq_true this;rw [h12,ek] at this;simp [kid] at this;omega
  have w1:=(WfP.iff 64 k1).1 (hw'.2.2.2 k1 (by rw [ek];simp))
  have hz1:iP k1=[]∧frP k1=[]:=by
   rw [iP_iff,frP_iff];by_cases hv1:0<k1.v
   ·rw [if_pos hv1,if_pos hv1];exact ⟨rfl,rfl⟩
   ·have hk0:k1.kids=[]:=List.length_eq_zero_iff.1 (by rw [w1.2.2.1 (by omega),ho];rfl);rw [if_neg hv1,if_neg hv1,hk0,ho];exact ⟨rfl,rfl⟩
  rw [if_pos h12,ek];simp [iL,frL,hz1.1,hz1.2]
 ·rw [if_neg h12,List.take_length];exact ⟨rfl,rfl⟩
theorem selK_succ {op:Int} {kids:List Pt} {j:Nat} (hj:j<kids.length) (h:op≠12∨j=0):selK op kids (j+1)=selK op kids j++[kids[j]]:=by
 unfold selK;by_cases h12:op=12
 ·have : j=0:=by rcases h with h | h;exact absurd h12 h;exact h
  subst this;rw [if_pos h12,if_pos h12];simpa using List.take_succ_eq_append_getElem hj
 ·rw [if_neg h12,if_neg h12];exact List.take_succ_eq_append_getElem hj
theorem selK_skip {op:Int} {kids:List Pt} {j:Nat} (h:op=12) (h0:j≠0):selK op kids (j+1)=selK op kids j:=by
 unfold selK;rw [if_pos h,if_pos h]
 congr 1
 omega
def bls (l:List Bool):List Value:=l.map .bool
theorem bls_len (l:List Bool):(bls l).length=l.length:=List.length_map _
theorem T_bls:SlT Tryz.prog 147 4 1 1:=by
 obtain ⟨i,h1,h2,h3,h4⟩:=info_parts (show (Tryz.prog.info? 4).map (fun i=>(i.zero,i.size,i.bytes))=some (some (.bool false),1,1) from by kernel_rfl)
 exact ⟨Tryz.underlying147,⟨i,_,h1,h2,h3,h4,rfl⟩,by omega⟩
def BF (w:World) (A:Option Addr) (c:Nat) (N:List Bool) (B:Option Addr) (d:Nat) (G:List Bool):Prop :=
 Own w 5 1 A N.length c (b8s N)∧Own w 4 1 B G.length d (bls G)
theorem BF.upd {w w':World} {S:Nat→Prop} {A B:Option Addr} {c d:Nat} {N G:List Bool} (h:BF w A c N B d G) (u:Upd S w w') (hA:∀k,At A k→¬S k) (hB:∀k,At B k→¬S k):BF w' A c N B d G:=⟨h.1.upd u hA,h.2.upd u hB⟩
def RInP (w:World) (A B:Option Addr) (N G:List Bool) (e:Ending) (w':World):Prop :=
 ∃(A':Option Addr) (c':Nat) (B':Option Addr) (d':Nat),e=.returned (.tuple #[.slice A' N.length c',.slice B' G.length d'])∧BF w' A' c' N B' d' G ∧
  (∀k,At A' k→At A k∨w.heap.size≤k)∧(∀k,At B' k→At B k∨w.heap.size≤k)∧Upd (fun k=>At A k∨At B k) w w'
def RInQ (W:World) (A B:Option Addr) (N G:List Bool) (s1 s2:Value) (wx:World):Prop :=
 ∃(A1:Option Addr) (c1:Nat) (B1:Option Addr) (d1:Nat),s1=.slice A1 N.length c1∧s2=.slice B1 G.length d1∧BF wx A1 c1 N B1 d1 G∧(∀k,At A1 k→At A k∨W.heap.size≤k)∧(∀k,At B1 k→At B k∨W.heap.size≤k)∧Upd (fun k=>At A k∨At B k) W wx
theorem own_two {w:World} {A B:Option Addr} {n c m d:Nat} {cs ds:List Value} (hA:Own w 5 1 A n c cs) (hB:Own w 4 1 B m d ds) (k:Nat) (h:At A k):¬At B k:=by
 intro h2;rcases hB.cases with ⟨rfl,_⟩ | ⟨g,cur,rfl,hb,_⟩
 ·exact At.none_ h2
 ·rw [At.some_] at h2;subst h2;exact hA.ne_blk hb (by decide) h
theorem BF.step {W w2 w3 w4 w5:World} {A B A3 B5:Option Addr} {c d c3 d5 n g m:Nat} {N G o f:List Bool} (h:BF W A c N B d G) (hn:N.length=n) (hg:G.length=g) (ho:o.length=m) (hf:f.length=m)
  (u2:Upd Non W w2) (ho3:Own w3 5 1 A3 (n+m) c3 (b8s N++b8s o)) (hu3:Upd (At A) w2 w3) (ha3:∀k,At A3 k→At A k∨k=w2.heap.size)
  (u4:Upd Non w3 w4) (ho5:Own w5 4 1 B5 (g+m) d5 (bls G++bls f)) (hu5:Upd (At B) w4 w5) (hb5:∀k,At B5 k→At B k∨k=w4.heap.size):RInQ W A B (N++o) (G++f) (.slice A3 (n+m) c3) (.slice B5 (g+m) d5) w5:=by
 have hBlt:∀k,At B k→k<W.heap.size:=fun k h'=>h.2.lt h'
 have s2:=u2.size;have s3:=hu3.size;have s4:=u4.size
 have h3:∀k,At A3 k→¬At B k:=fun k hk hB=>by
  rcases ha3 k hk with q | q
  ·exact own_two h.1 h.2 k q hB
  ·have:=hBlt k hB;omega
 refine ⟨A3,c3,B5,d5,by rw [List.length_append,hn,ho],by rw [List.length_append,hg,hf],⟨?_,?_⟩,fun k hk=>?_,fun k hk=>?_,?_⟩
 ·have:=(ho3.upd u4 (fun _ _ f=>f)).upd hu5 h3;rw [List.length_append,hn,ho,show b8s (N++o)=b8s N++b8s o from List.map_append];exact this
 ·rw [List.length_append,hg,hf,show bls (G++f)=bls G++bls f from List.map_append];exact ho5
 ·rcases ha3 k hk with q | q
  ·exact .inl q
  ·exact .inr (by omega)
 ·rcases hb5 k hk with q | q
  ·exact .inl q
  ·exact .inr (by omega)
 ·exact (((u2.mono (fun _ _ f=>f.elim)).trans hu3 (fun _ _ q=>.inl q)).then_non u4).trans hu5 (fun _ _ q=>.inr q)
theorem RInP.same {w w':World} {A B:Option Addr} {c d:Nat} {N G N' G':List Bool} {n g:Nat} (hN:N'=N) (hG:G'=G) (hn:N.length=n) (hg:G.length=g) (h:BF w A c N B d G) (u:Upd Non w w'):RInP w A B N' G' (.returned (.tuple #[.slice A n c,.slice B g d])) w':=by
 subst hN hG hn hg;exact ⟨A,c,B,d,rfl,h.upd u (fun _ _ f=>f) (fun _ _ f=>f),fun _ h=>.inl h,fun _ h=>.inl h,u.mono (fun _ _ f=>f.elim)⟩
set_option maxRecDepth 100000 in
set_option maxHeartbeats 16000000 in
theorem rInit_c (p:Pt):∀(w:World) (F:Nat→Prop) (KA:Option Addr) (kc:Nat) (A:Option Addr) (c:Nat) (B:Option Addr) (d:Nat) (N G:List Bool),supF p=true→WfP 64 p→PtK w F p KA kc→(∀k,F k→¬At A k∧¬At B k)→BF w A c N B d G→N.length+bN p≤1000000→G.length+bN p≤1000000 →
  Calls Tryz.prog 127 #[pv p KA kc,.slice A N.length c,.slice B G.length d] w fun e w'=>RInP w A B (N++iP p) (G++frP p) e w':=by
 induction p using Pt.ind with
 | h p ih =>
  intro w F KA kc A c B d N G hs hw hp0 hF0 hB0 hn hg;have hp1:=PtK.mono (G:=fun k=>F k∧k<w.heap.size) (fun k hk h=>⟨h,hk⟩) p KA kc hp0;obtain ⟨W,HW⟩:=nm (w.alloc (.cells #[.int .i64 p.v,.int .i64 p.op,.int .i64 p.imm,.int .i64 p.iv,.slice KA p.kids.length kc] 38));have hU:Upd Non w W:=by rw [←HW.out];exact Upd.refl.alloc _
  have hb:Blk W w.heap.size 38 #[.int .i64 p.v,.int .i64 p.op,.int .i64 p.imm,.int .i64 p.iv,.slice KA p.kids.length kc]:=by rw [←HW.out];exact Blk.new _ _ _
  have e0:=HW.out;have hpW:=PtK.upd hU (fun _ _ _ f=>f) p KA kc hp1;have hAlt:∀k,At A k→k<w.heap.size:=fun k h=>hB0.1.lt h
  have hBlt:∀k,At B k→k<w.heap.size:=fun k h=>hB0.2.lt h
  have HB0:=h_ hB0;have HBW:=h_ (hB0.upd hU (fun _ _ f=>f) (fun _ _ f=>f));have HF0:=h_ hF0;have HAL:=h_ hAlt;have HBL:=h_ hBlt;have HI:=h_ ih;have HWF:=h_ ((WfP.iff 64 p).1 hw);have HW1:=h_ hw;have HUW:=h_ hU;have HPW:=h_ hpW;obtain ⟨n,Hn⟩:=nm N.length;obtain ⟨g,Hg⟩:=nm G.length;rw [Hn.out,Hg.out];rw [Hn.out] at hn;rw [Hg.out] at hg;have c0:=hb.cell 0;have c1:=hb.cell 1;have HB:=h_ hb;have HSF:=h_ hs;clear ih hp0 hF0 hB0 hp1 hAlt hBlt hU hpW hw hs hb;unfold pv;by_cases hv:0<p.v
  ·have HP:Hid (RInP w A B (N++iP p) (G++frP p) (.returned (.tuple #[.slice A n c,.slice B g d])) W):=RInP.same (by rw [iP_iff,if_pos hv,List.append_nil]) (by rw [frP_iff,if_pos hv,List.append_nil]) Hn.out Hg.out HB0.out HUW.out
   obtain ⟨v,Hv⟩:=nm p.v;rw [Hv.out] at c0 e0 ⊢;have tv:decide (0<v)=true:=dT_ (by rw [←Hv.out];exact hv);clear hv;go_enter Tryz.func127,Tryz.ntmps127;go_wp2_with fail
   refine bodyPost_ret (results_tmp2 rfl _ _ _) rfl ?_;exact HP.out
  ·have hs1:supO p.op p.kids=true:=by have:=HSF.out;rw [supF_op hv,Bool.and_eq_true] at this;exact this.1
   obtain ⟨own,Hown⟩:=nm (ownN p.op p.kids);obtain ⟨o0,Ho0⟩:=nm (inO p.op own false);obtain ⟨f0,Hf0⟩:=nm (frO p.op own);have HIP:Hid (iP p=o0++iL p.kids):=by show _=_;rw [iP_iff,if_neg hv,Hown.out,Ho0.out]
   have HFP:Hid (frP p=f0++frL p.kids):=by show _=_;rw [frP_iff,if_neg hv,Hown.out,Hf0.out]
   have HBN:Hid (bN p=own+bL p.kids):=by show _=_;rw [bN_iff,if_neg hv,Hown.out]
   have HSEL:=h_ (selK_all HW1.out hv hs1);have hn0:n+own≤1000000:=by have:=HBN.out;omega
   have hg0:g+own≤1000000:=by have:=HBN.out;omega
   obtain ⟨v,Hv⟩:=nm p.v;have HV:=h_ hv;rw [Hv.out] at c0 e0 ⊢;have tv:decide (0<v)=false:=dF_ (by rw [←Hv.out];exact hv);by_cases h1:p.op=1
   ·have hk0:p.kids=[]:=List.length_eq_zero_iff.1 (by rw [HWF.out.2.2.1 (by have:=HWF.out.1;omega),h1];rfl);have ho:own=0:=by rw [←Hown.out,h1];rfl
    have HP:Hid (RInP w A B (N++iP p) (G++frP p) (.returned (.tuple #[.slice A n c,.slice B g d])) W):=RInP.same (by rw [HIP.out,←Ho0.out,ho,h1,hk0];simp [inO,iL,isG]) (by rw [HFP.out,←Hf0.out,ho,h1,hk0];simp [frO,frL,isG]) Hn.out Hg.out HB0.out HUW.out
    rw [h1] at c1;clear hv h1 hk0 ho;go_enter Tryz.func127,Tryz.ntmps127;go_wp2_with fail
    refine bodyPost_ret (results_tmp2 rfl _ _ _) rfl ?_;exact HP.out
   ·have t1:(p.op==1)=false:=by simpa using h1
    have hops:=supO_ops hs1;obtain ⟨op,Hop⟩:=nm p.op;rw [Hop.out] at c1 e0 t1 hops Hown Ho0 Hf0;rw [Hop.out];go_enter Tryz.func127,Tryz.ntmps127;rw [HBN.out] at hn hg;have HN:=h_ hn;have HG:=h_ hg;clear hn hg h1
    go_upto_block 0 with fail
    go_cut [1,2] (fun s1 s2 wx=>RInQ W A B (N++o0) (G++f0) s1 s2 wx)
    case first =>
     have hA:=HBW.out.1;have hB:=HBW.out.2;rw [Hn.out] at hA;rw [Hg.out] at hB;rcases hops with e | e | e | e | e | e | e | e | e | e | e | e | e | e | e
     ·subst e;simp at t1
     ·subst e;obtain rfl:own=1:=by rw [←Hown.out];rfl
      have ho:o0=[false]:=by rw [←Ho0.out];rfl
      have hf:f0=[false]:=by rw [←Hf0.out];rfl
      subst ho hf
      go_upto_region 7 with (at_builtin;refine wpList_app rfl rfl T_u8s rfl (hA.alloc _) rfl (Sl.new _ _ _) rfl (by simp [Value.oneCell']) (by simp only [maxLen];omega) (by omega) ?_;intro A3 c3 w3 ho3 hu3 hat3)
      have hB3:=(hB.alloc _).upd hu3 (fun k hk hA'=>own_two HBW.out.1 HBW.out.2 k hA' hk)
      go_wp2_with (at_builtin;refine wpList_app rfl rfl T_bls rfl (hB3.alloc _) rfl (Sl.new _ _ _) rfl (by simp [Value.oneCell']) (by simp only [maxLen];omega) (by omega) ?_;intro B5 d5 w5 ho5 hu5 hat5)
      go_meet
      case rel=>exact BF.step HBW.out Hn.out Hg.out rfl rfl (Upd.refl.alloc _) ho3 hu3 hat3 (Upd.refl.alloc _) ho5 hu5 hat5
     ·subst e;obtain rfl:own=1:=by rw [←Hown.out];rfl
      have ho:o0=[false]:=by rw [←Ho0.out];rfl
      have hf:f0=[false]:=by rw [←Hf0.out];rfl
      subst ho hf
      go_upto_region 7 with (at_builtin;refine wpList_app rfl rfl T_u8s rfl (hA.alloc _) rfl (Sl.new _ _ _) rfl (by simp [Value.oneCell']) (by simp only [maxLen];omega) (by omega) ?_;intro A3 c3 w3 ho3 hu3 hat3)
      have hB3:=(hB.alloc _).upd hu3 (fun k hk hA'=>own_two HBW.out.1 HBW.out.2 k hA' hk)
      go_wp2_with (at_builtin;refine wpList_app rfl rfl T_bls rfl (hB3.alloc _) rfl (Sl.new _ _ _) rfl (by simp [Value.oneCell']) (by simp only [maxLen];omega) (by omega) ?_;intro B5 d5 w5 ho5 hu5 hat5)
      go_meet
      case rel=>exact BF.step HBW.out Hn.out Hg.out rfl rfl (Upd.refl.alloc _) ho3 hu3 hat3 (Upd.refl.alloc _) ho5 hu5 hat5
     ·subst e;have ho:o0=[]:=by rw [←Ho0.out,←Hown.out];rfl
      have hf:f0=[]:=by rw [←Hf0.out,←Hown.out];rfl
      subst ho hf;go_wp2_with fail
      go_meet
      case rel =>
       rw [List.append_nil,List.append_nil];exact ⟨A,c,B,d,by rw [Hn.out],by rw [Hg.out],HBW.out,fun _ h=>.inl h,fun _ h=>.inl h,Upd.refl⟩
     ·subst e;have ho:o0=[]:=by rw [←Ho0.out,←Hown.out];rfl
      have hf:f0=[]:=by rw [←Hf0.out,←Hown.out];rfl
      subst ho hf;go_wp2_with fail
      go_meet
      case rel =>
       rw [List.append_nil,List.append_nil];exact ⟨A,c,B,d,by rw [Hn.out],by rw [Hg.out],HBW.out,fun _ h=>.inl h,fun _ h=>.inl h,Upd.refl⟩
     ·subst e;have ho:o0=[]:=by rw [←Ho0.out,←Hown.out];rfl
      have hf:f0=[]:=by rw [←Hf0.out,←Hown.out];rfl
      subst ho hf;go_wp2_with fail
      go_meet
      case rel =>
       rw [List.append_nil,List.append_nil];exact ⟨A,c,B,d,by rw [Hn.out],by rw [Hg.out],HBW.out,fun _ h=>.inl h,fun _ h=>.inl h,Upd.refl⟩
     ·subst e;have h2:p.kids.length=2:=by rw [HWF.out.2.2.1 (by have:=HWF.out.1;have:=HV.out;omega),Hop.out];rfl
      obtain ⟨k0,k1,ek⟩:∃k0 k1,p.kids=[k0,k1]:=by
       match p.kids,h2 with
       | [x,y],_=>exact ⟨x,y,rfl⟩
      have hk1n:1<p.kids.length:=by omega
      have hk1:(1:Int)<(p.kids.length:Int):=by omega
      obtain ⟨b,o,eK,hFb,hbw,KB,kd,_,_,g2,_,_,_⟩:=HPW.out.at_ (i:=1) hk1n;have ek1:p.kids[1]'hk1n=k1:=by simp [ek]
      rw [ek1] at g2;have ha:=and63 k1.imm;have how:(k1.imm % 64).toNat=own:=by rw [←Hown.out,ek];rfl
      rw [how] at ha;have ho:o0=List.replicate own false:=by rw [←Ho0.out];rfl
      have hf:f0=List.replicate own false:=by rw [←Hf0.out];rfl
      subst ho hf;have c4:=HB.out.cell 4;subst eK;clear how h2 ek
      go_upto_region 13 with fail
      have hz8:∀i z,Tryz.prog.info? 5=some i→i.zero=some z→z.cells=#[b8 false]:=fun i z h1 h2=>by
       have h3:(Tryz.prog.info? 5).map (fun i=>i.zero.map (·.cells))=some (some #[b8 false]):=by kernel_rfl
       rw [h1] at h3;simp only [Option.map_some,h2,Option.some.injEq] at h3;exact h3
      have hzb:∀i z,Tryz.prog.info? 4=some i→i.zero=some z→z.cells=#[.bool false]:=fun i z h1 h2=>by
       have h3:(Tryz.prog.info? 4).map (fun i=>i.zero.map (·.cells))=some (some #[.bool false]):=by kernel_rfl
       rw [h1] at h3;simp only [Option.map_some,h2,Option.some.injEq] at h3;exact h3
      have HZ8:=h_ hz8;have HZB:=h_ hzb;clear hz8 hzb
      go_upto_region 14 with (at_builtin;refine wpList_appz rfl rfl T_u8s (kn:=.i64) rfl HZ8.out rfl rfl hA rfl (by simp only [maxLen];omega) (by omega) ?_;intro A3 c3 w3 ho3 hu3 hat3)
      have hB3:=hB.upd hu3 (fun k hk hA'=>own_two HBW.out.1 HBW.out.2 k hA' hk)
      go_wp2_with (at_builtin;refine wpList_appz rfl rfl T_bls (kn:=.i64) rfl HZB.out rfl rfl hB3 rfl (by simp only [maxLen];omega) (by omega) ?_;intro B5 d5 w5 ho5 hu5 hat5)
      go_meet
      case rel=>exact BF.step HBW.out Hn.out Hg.out (by simp) (by simp) Upd.refl (by simpa [b8s] using ho3) hu3 hat3 Upd.refl (by simpa [bls] using ho5) hu5 hat5
     ·subst e;obtain rfl:own=2:=by rw [←Hown.out];rfl
      have ho:o0=[false,true]:=by rw [←Ho0.out];rfl
      have hf:f0=[true,false]:=by rw [←Hf0.out];rfl
      subst ho hf
      go_upto_region 19 with (at_builtin;refine wpList_app rfl rfl T_u8s rfl (hA.alloc _) rfl (Sl.new _ _ _) rfl (by simp [Value.oneCell']) (by simp only [maxLen];omega) (by omega) ?_;intro A3 c3 w3 ho3 hu3 hat3)
      have hB3:=(hB.alloc _).upd hu3 (fun k hk hA'=>own_two HBW.out.1 HBW.out.2 k hA' hk)
      go_wp2_with (at_builtin;refine wpList_app rfl rfl T_bls rfl (hB3.alloc _) rfl (Sl.new _ _ _) rfl (by simp [Value.oneCell']) (by simp only [maxLen];omega) (by omega) ?_;intro B5 d5 w5 ho5 hu5 hat5)
      go_meet
      case rel=>exact BF.step HBW.out Hn.out Hg.out rfl rfl (Upd.refl.alloc _) ho3 hu3 hat3 (Upd.refl.alloc _) ho5 hu5 hat5
     ·subst e;obtain rfl:own=2:=by rw [←Hown.out];rfl
      have ho:o0=[false,true]:=by rw [←Ho0.out];rfl
      have hf:f0=[true,false]:=by rw [←Hf0.out];rfl
      subst ho hf
      go_upto_region 19 with (at_builtin;refine wpList_app rfl rfl T_u8s rfl (hA.alloc _) rfl (Sl.new _ _ _) rfl (by simp [Value.oneCell']) (by simp only [maxLen];omega) (by omega) ?_;intro A3 c3 w3 ho3 hu3 hat3)
      have hB3:=(hB.alloc _).upd hu3 (fun k hk hA'=>own_two HBW.out.1 HBW.out.2 k hA' hk)
      go_wp2_with (at_builtin;refine wpList_app rfl rfl T_bls rfl (hB3.alloc _) rfl (Sl.new _ _ _) rfl (by simp [Value.oneCell']) (by simp only [maxLen];omega) (by omega) ?_;intro B5 d5 w5 ho5 hu5 hat5)
      go_meet
      case rel=>exact BF.step HBW.out Hn.out Hg.out rfl rfl (Upd.refl.alloc _) ho3 hu3 hat3 (Upd.refl.alloc _) ho5 hu5 hat5
     ·subst e;obtain rfl:own=2:=by rw [←Hown.out];rfl
      have ho:o0=[false,false]:=by rw [←Ho0.out];rfl
      have hf:f0=[true,false]:=by rw [←Hf0.out];rfl
      subst ho hf
      go_upto_region 24 with (at_builtin;refine wpList_app rfl rfl T_u8s rfl (hA.alloc _) rfl (Sl.new _ _ _) rfl (by simp [Value.oneCell']) (by simp only [maxLen];omega) (by omega) ?_;intro A3 c3 w3 ho3 hu3 hat3)
      have hB3:=(hB.alloc _).upd hu3 (fun k hk hA'=>own_two HBW.out.1 HBW.out.2 k hA' hk)
      go_wp2_with (at_builtin;refine wpList_app rfl rfl T_bls rfl (hB3.alloc _) rfl (Sl.new _ _ _) rfl (by simp [Value.oneCell']) (by simp only [maxLen];omega) (by omega) ?_;intro B5 d5 w5 ho5 hu5 hat5)
      go_meet
      case rel=>exact BF.step HBW.out Hn.out Hg.out rfl rfl (Upd.refl.alloc _) ho3 hu3 hat3 (Upd.refl.alloc _) ho5 hu5 hat5
     ·subst e;obtain rfl:own=2:=by rw [←Hown.out];rfl
      have ho:o0=[false,true]:=by rw [←Ho0.out];rfl
      have hf:f0=[true,false]:=by rw [←Hf0.out];rfl
      subst ho hf
      go_upto_region 19 with (at_builtin;refine wpList_app rfl rfl T_u8s rfl (hA.alloc _) rfl (Sl.new _ _ _) rfl (by simp [Value.oneCell']) (by simp only [maxLen];omega) (by omega) ?_;intro A3 c3 w3 ho3 hu3 hat3)
      have hB3:=(hB.alloc _).upd hu3 (fun k hk hA'=>own_two HBW.out.1 HBW.out.2 k hA' hk)
      go_wp2_with (at_builtin;refine wpList_app rfl rfl T_bls rfl (hB3.alloc _) rfl (Sl.new _ _ _) rfl (by simp [Value.oneCell']) (by simp only [maxLen];omega) (by omega) ?_;intro B5 d5 w5 ho5 hu5 hat5)
      go_meet
      case rel=>exact BF.step HBW.out Hn.out Hg.out rfl rfl (Upd.refl.alloc _) ho3 hu3 hat3 (Upd.refl.alloc _) ho5 hu5 hat5
     ·subst e;obtain rfl:own=2:=by rw [←Hown.out];rfl
      have ho:o0=[false,false]:=by rw [←Ho0.out];rfl
      have hf:f0=[true,false]:=by rw [←Hf0.out];rfl
      subst ho hf
      go_upto_region 24 with (at_builtin;refine wpList_app rfl rfl T_u8s rfl (hA.alloc _) rfl (Sl.new _ _ _) rfl (by simp [Value.oneCell']) (by simp only [maxLen];omega) (by omega) ?_;intro A3 c3 w3 ho3 hu3 hat3)
      have hB3:=(hB.alloc _).upd hu3 (fun k hk hA'=>own_two HBW.out.1 HBW.out.2 k hA' hk)
      go_wp2_with (at_builtin;refine wpList_app rfl rfl T_bls rfl (hB3.alloc _) rfl (Sl.new _ _ _) rfl (by simp [Value.oneCell']) (by simp only [maxLen];omega) (by omega) ?_;intro B5 d5 w5 ho5 hu5 hat5)
      go_meet
      case rel=>exact BF.step HBW.out Hn.out Hg.out rfl rfl (Upd.refl.alloc _) ho3 hu3 hat3 (Upd.refl.alloc _) ho5 hu5 hat5
     ·subst e;obtain rfl:own=1:=by rw [←Hown.out];rfl
      have ho:o0=[true]:=by rw [←Ho0.out];rfl
      have hf:f0=[false]:=by rw [←Hf0.out];rfl
      subst ho hf
      go_upto_region 10 with (at_builtin;refine wpList_app rfl rfl T_u8s rfl (hA.alloc _) rfl (Sl.new _ _ _) rfl (by simp [Value.oneCell']) (by simp only [maxLen];omega) (by omega) ?_;intro A3 c3 w3 ho3 hu3 hat3)
      have hB3:=(hB.alloc _).upd hu3 (fun k hk hA'=>own_two HBW.out.1 HBW.out.2 k hA' hk)
      go_wp2_with (at_builtin;refine wpList_app rfl rfl T_bls rfl (hB3.alloc _) rfl (Sl.new _ _ _) rfl (by simp [Value.oneCell']) (by simp only [maxLen];omega) (by omega) ?_;intro B5 d5 w5 ho5 hu5 hat5)
      go_meet
      case rel=>exact BF.step HBW.out Hn.out Hg.out rfl rfl (Upd.refl.alloc _) ho3 hu3 hat3 (Upd.refl.alloc _) ho5 hu5 hat5
     ·subst e;have ho:o0=[]:=by rw [←Ho0.out,←Hown.out];rfl
      have hf:f0=[]:=by rw [←Hf0.out,←Hown.out];rfl
      subst ho hf;go_wp2_with fail
      go_meet
      case rel =>
       rw [List.append_nil,List.append_nil];exact ⟨A,c,B,d,by rw [Hn.out],by rw [Hg.out],HBW.out,fun _ h=>.inl h,fun _ h=>.inl h,Upd.refl⟩
     ·subst e;obtain rfl:own=2:=by rw [←Hown.out];rfl
      have ho:o0=[false,false]:=by rw [←Ho0.out];rfl
      have hf:f0=[true,false]:=by rw [←Hf0.out];rfl
      subst ho hf
      go_upto_region 24 with (at_builtin;refine wpList_app rfl rfl T_u8s rfl (hA.alloc _) rfl (Sl.new _ _ _) rfl (by simp [Value.oneCell']) (by simp only [maxLen];omega) (by omega) ?_;intro A3 c3 w3 ho3 hu3 hat3)
      have hB3:=(hB.alloc _).upd hu3 (fun k hk hA'=>own_two HBW.out.1 HBW.out.2 k hA' hk)
      go_wp2_with (at_builtin;refine wpList_app rfl rfl T_bls rfl (hB3.alloc _) rfl (Sl.new _ _ _) rfl (by simp [Value.oneCell']) (by simp only [maxLen];omega) (by omega) ?_;intro B5 d5 w5 ho5 hu5 hat5)
      go_meet
      case rel=>exact BF.step HBW.out Hn.out Hg.out rfl rfl (Upd.refl.alloc _) ho3 hu3 hat3 (Upd.refl.alloc _) ho5 hu5 hat5
    case rest =>
     obtain ⟨w1,rfl⟩:∃w1:World,w1=wc:=⟨_,rfl⟩;obtain ⟨A0,ca,B0,da,rfl,rfl,hbf,hatA,hatB,hu0⟩:=hcut;have hb1:=HB.out.upd hu0 (fun h=>by rcases h with h | h;have:=HAL.out _ h;omega;have:=HBL.out _ h;omega);have HB1:=h_ hb1;have HSZ:Hid (W.heap.size=w.heap.size+1):=by show _=_;rw [←HW.out];simp
     obtain ⟨k,Hk⟩:=nm p.kids.length
     have hk3:k≤3:=by
      rw [←Hk.out,HWF.out.2.2.1 (by have:=HWF.out.1;have:=HV.out;omega),Hop.out];rcases hops with e | e | e | e | e | e | e | e | e | e | e | e | e | e | e <;> rw [e] <;> decide
     obtain ⟨N0,HN0⟩:=nm (N++o0);obtain ⟨G0,HG0⟩:=nm (G++f0);rw [HN0.out,HG0.out] at hbf ⊢;have HBF:=h_ hbf;have HAA:=h_ hatA;have HBB:=h_ hatB;have HU0:=h_ hu0;clear hb1 hbf hatA hatB hu0 c1 t1 tv;go_wp2_with fail
     go_loopg [1,2,9] k (fun gg s1 s2 i wr=>∃(j:Nat) (A1:Option Addr) (c1:Nat) (B1:Option Addr) (d1:Nat) (N1 G1:List Bool),Hid (gg=k - j)∧j≤k∧s1=.slice A1 N1.length c1∧s2=.slice B1 G1.length d1∧i=.int .i64 j ∧
      Hid (N1=N0++iL (selK op p.kids j))∧Hid (G1=G0++frL (selK op p.kids j))∧Hid (BF wr A1 c1 N1 B1 d1 G1)∧Hid (∀i,At A1 i→At A i∨W.heap.size≤i)∧Hid (∀i,At B1 i→At B i∨W.heap.size≤i)∧Hid (Upd (fun i=>At A i∨At B i) W wr))
     case atStart=>exact ⟨0,A0,ca,B0,da,N0,G0,rfl,by omega,rfl,rfl,rfl,by show _=_;simp [selK,iL],by show _=_;simp [selK,frL],HBF.out,HAA.out,HBB.out,HU0.out⟩
     case round =>
      obtain ⟨j,A1,c1,B1,d1,N1,G1,Hgg,hj,rfl,rfl,rfl,HN1,HG1,HF1,HA1,HB2,HU1⟩:=hrel;have hbr:=HB.out.upd HU1.out (fun h=>by rcases h with h | h;have:=HAL.out _ h;omega;have:=HBL.out _ h;omega);have y1:=hbr.cell 1;have y4:=hbr.cell 4;rw [Hop.out] at y1;rw [Hk.out] at y4;clear hbr;by_cases hlt:j<k
      ·have hjk:j<p.kids.length:=by rw [Hk.out];exact hlt
       have hjk2:(j:Int)<(k:Int):=by omega
       by_cases hsk:op=12∧j≠0
       ·obtain ⟨rfl,hj0⟩:=hsk;have tj:((j:Int)==0)=false:=by simp;omega
        have HS1:=h_ (selK_skip (kids:=p.kids) (op:=12) rfl hj0);clear hj0;go_wp2_with fail
        go_roundg (k - (j+1))
        case measure=>rw [Hgg.out];omega
        case rel=>exact ⟨j+1,A1,c1,B1,d1,N1,G1,rfl,by omega,rfl,rfl,by go_num,by show _=_;rw [HS1.out];exact HN1.out,by show _=_;rw [HS1.out];exact HG1.out,HF1,HA1,HB2,HU1⟩
       ·have hsk2:op≠12∨j=0:=by
         by_cases q:op=12
         ·exact .inr (by by_cases q2:j=0;exact q2;exact absurd ⟨q,q2⟩ hsk)
         ·exact .inl q
        have HSS:=h_ (selK_succ hjk hsk2)
        obtain ⟨b,o,eK,hFb,hbw,KB,kd,g0,g1,g2,g3,g4,hkid⟩:=PtK.at_ (PtK.upd HU1.out (fun i hi h q=>by
         have h0:=HF0.out i h.1;rcases q with q | q
         ·exact h0.1 q
         ·exact h0.2 q) _ _ _ HPW.out) hjk
        have hmem:=List.getElem_mem hjk;have hbl:bL (selK op p.kids (j+1))≤bL p.kids:=by unfold selK;split <;> exact bL_take_le _ _
        rw [HSS.out,bL_app] at hbl;have hblq:bL [p.kids[j]]=bN p.kids[j]:=by simp [bL]
        rw [hblq] at hbl;have hn0l:N0.length=n+own:=by rw [←HN0.out,List.length_append,Hn.out,←Ho0.out,←Hown.out,←Hop.out,inO_len]
        have hg0l:G0.length=g+own:=by rw [←HG0.out,List.length_append,Hg.out,←Hf0.out,←Hown.out,←Hop.out,frO_len]
        have hNl:N1.length=n+own+bL (selK op p.kids j):=by rw [HN1.out,List.length_append,iL_len,hn0l]
        have hGl:G1.length=g+own+bL (selK op p.kids j):=by rw [HG1.out,List.length_append,frL_len,hg0l]
        have hhn:=HN.out;have hhg:=HG.out;have hwk:=HWF.out.2.2.2 _ hmem
        have hsk3:supF p.kids[j]=true:=by
         have:=HSF.out;rw [supF_op (by have:=HV.out;omega),Bool.and_eq_true] at this;exact List.all_eq_true.1 this.2 _ hmem
        have C1:=h_ (HI.out _ hmem wr _ KB kd A1 c1 B1 d1 N1 G1 hsk3 hwk hkid (fun i h=>by
         have h0:=HF0.out i h.1;have hsz:=HSZ.out;refine ⟨fun q=>?_,fun q=>?_⟩
         ·rcases HA1.out i q with q | q
          ·exact h0.1 q
          ·have:=h.2;omega
         ·rcases HB2.out i q with q | q
          ·exact h0.2 q
          ·have:=h.2;omega) HF1.out (by omega) (by omega))
        have HE1:Hid (N1++iP p.kids[j]=N0++iL (selK op p.kids (j+1))):=by show _=_;rw [HSS.out,iL_app,HN1.out,List.append_assoc];simp [iL]
        have HE2:Hid (G1++frP p.kids[j]=G0++frL (selK op p.kids (j+1))):=by show _=_;rw [HSS.out,frL_app,HG1.out,List.append_assoc];simp [frL]
        have HWS:Hid (W.heap.size≤wr.heap.size):=HU1.out.size;obtain ⟨q,Hq⟩:=nm p.kids[j];rw [Hq.out] at C1 HE1 HE2 g0 g1 g2 g3 g4;have hj0:(0:Int)≤(j:Int):=by omega
        obtain ⟨n1,Hn1⟩:=nm N1.length;obtain ⟨g1l,Hg1⟩:=nm G1.length;rw [Hn1.out,Hg1.out] at C1;rw [Hn1.out,Hg1.out];subst eK;unfold pv at C1;clear hkid hmem hbl hblq hn0l hg0l hNl hGl hhn hhg hwk hsk3 hsk;by_cases h12:op=12
        ·have hj00:j=0:=by rcases hsk2 with q | q;exact absurd h12 q;exact q
         have tj:((j:Int)==0)=true:=by rw [hj00];rfl
         subst h12;clear hj00 hsk2;go_wp2_with fail
         refine C1.out.mono ?_;rintro e w4 hR;obtain ⟨A4,c4,B4,d4,rfl,HF4,HA4,HB4,HU4⟩:=hR;have HF4:=h_ HF4
         have HA4:Hid (∀i,At A4 i→At A i∨W.heap.size≤i):=fun i hi=>by
          rcases HA4 i hi with q | q
          ·exact HA1.out i q
          ·exact .inr (Nat.le_trans HWS.out q)
         have HB4:Hid (∀i,At B4 i→At B i∨W.heap.size≤i):=fun i hi=>by
          rcases HB4 i hi with q | q
          ·exact HB2.out i q
          ·exact .inr (Nat.le_trans HWS.out q)
         have HU4:Hid (Upd (fun i=>At A i∨At B i) W w4):=HU1.out.trans HU4 (fun i hi q=>by
          rcases q with q | q
          ·rcases HA1.out i q with q | q
           ·exact .inl q
           ·omega
          ·rcases HB2.out i q with q | q
           ·exact .inr q
           ·omega)
         obtain ⟨N4,HN4⟩:=nm (N1++iP q);obtain ⟨G4,HG4⟩:=nm (G1++frP q);rw [HN4.out] at HE1 HF4;rw [HG4.out] at HE2 HF4;rw [HN4.out,HG4.out];go_wp2_with fail
         go_roundg (k - (j+1))
         case measure=>rw [Hgg.out];omega
         case rel=>exact ⟨j+1,A4,c4,B4,d4,N4,G4,rfl,by omega,rfl,rfl,by go_num,HE1.out,HE2.out,HF4.out,HA4.out,HB4.out,HU4.out⟩
        ·have t12:(op==12)=false:=beq_eq_false_iff_ne.2 h12;clear hsk2;go_wp2_with fail
         refine C1.out.mono ?_;rintro e w4 hR;obtain ⟨A4,c4,B4,d4,rfl,HF4,HA4,HB4,HU4⟩:=hR;have HF4:=h_ HF4
         have HA4:Hid (∀i,At A4 i→At A i∨W.heap.size≤i):=fun i hi=>by
          rcases HA4 i hi with q | q
          ·exact HA1.out i q
          ·exact .inr (Nat.le_trans HWS.out q)
         have HB4:Hid (∀i,At B4 i→At B i∨W.heap.size≤i):=fun i hi=>by
          rcases HB4 i hi with q | q
          ·exact HB2.out i q
          ·exact .inr (Nat.le_trans HWS.out q)
         have HU4:Hid (Upd (fun i=>At A i∨At B i) W w4):=HU1.out.trans HU4 (fun i hi q=>by
          rcases q with q | q
          ·rcases HA1.out i q with q | q
           ·exact .inl q
           ·omega
          ·rcases HB2.out i q with q | q
           ·exact .inr q
           ·omega)
         obtain ⟨N4,HN4⟩:=nm (N1++iP q);obtain ⟨G4,HG4⟩:=nm (G1++frP q);rw [HN4.out] at HE1 HF4;rw [HG4.out] at HE2 HF4;rw [HN4.out,HG4.out];go_wp2_with fail
         go_roundg (k - (j+1))
         case measure=>rw [Hgg.out];omega
         case rel=>exact ⟨j+1,A4,c4,B4,d4,N4,G4,rfl,by omega,rfl,rfl,by go_num,HE1.out,HE2.out,HF4.out,HA4.out,HB4.out,HU4.out⟩
      ·obtain rfl:k=j:=by omega
       have hsl:=HSEL.out;rw [Hop.out,Hk.out] at hsl;have e1:N1=N++iP p:=by rw [HN1.out,←HN0.out,hsl.1,HIP.out,List.append_assoc]
       have e2:G1=G++frP p:=by rw [HG1.out,←HG0.out,hsl.2,HFP.out,List.append_assoc]
       have HE1:=h_ e1;have HE2:=h_ e2;clear e1 e2 hsl;go_wp2_with fail
       refine bodyPost_ret (results_tmp2 rfl _ _ _) rfl ?_;rw [←HE1.out,←HE2.out];exact ⟨A1,c1,B1,d1,rfl,HF1.out,fun i hi=>(HA1.out i hi).imp id (fun q=>by have:=HSZ.out;omega),fun i hi=>(HB2.out i hi).imp id (fun q=>by have:=HSZ.out;omega),(HUW.out.mono (fun _ _ f=>f.elim)).trans HU1.out (fun _ _ q=>q)⟩
def tIdx:List Bool→Nat→List Nat
 | [],_=>[]
 | g::gs,a=>(if g then [a] else [])++tIdx gs (a+1)
theorem tIdx_app:∀(l m:List Bool) (a:Nat),tIdx (l++m) a=tIdx l a++tIdx m (a+l.length)
 | [],_,_=>rfl
 | g::gs,m,a=>by rw [List.cons_append,tIdx,tIdx,tIdx_app gs m,List.append_assoc,List.length_cons,Nat.add_assoc,Nat.add_comm 1]
theorem tIdx_rep:∀(n a:Nat),tIdx (List.replicate n false) a=[]
 | 0,_=>rfl
 | n+1,a=>by rw [List.replicate_succ,tIdx,tIdx_rep n];rfl
theorem tIdx_ge:∀(l:List Bool) (a:Nat),∀q∈tIdx l a,a≤q
 | [],_,q,h=>by cases h
 | g::gs,a,q,h=>by
  rw [tIdx,List.mem_append] at h;rcases h with h | h
  ·cases g with
   | false=>cases h
   | true=>simp at h;omega
  ·have:=tIdx_ge gs (a+1) q h;omega
theorem tIdx_nodup:∀(l:List Bool) (a:Nat),(tIdx l a).Nodup
 | [],_=>List.nodup_nil
 | g::gs,a=>by
  rw [tIdx,List.nodup_append];refine ⟨by cases g <;> simp,tIdx_nodup gs (a+1),fun x hx y hy e=>?_⟩;have:=tIdx_ge gs (a+1) y hy
  cases g with
  | false=>cases hx
  | true=>simp at hx;omega
theorem tIdx_frO (op:Int) (n a:Nat):tIdx (frO op n) a=if isG op then [a] else []:=by
 unfold frO
 cases isG op with
 | false=>rw [if_neg (by decide),if_neg (by decide),tIdx_rep]
 | true=>rw [if_pos rfl,if_pos rfl,tIdx,tIdx_rep];rfl
theorem tIdx_frP (p:Pt):∀a,tIdx (frP p) a=(gpos p a).map fun q=>q.2:=by
 induction p using Pt.ind with
 | h p ih =>
  intro a;rw [frP_iff,gpos_iff];by_cases hv:0<p.v
  ·rw [if_pos hv,if_pos hv];rfl
  ·rw [if_neg hv,if_neg hv,tIdx_app,tIdx_frO,frO_len,List.map_append]
   have : ∀l:List Pt,(∀q∈l,q∈p.kids)→∀a,tIdx (frL l) a=(gposL l a).map fun q=>q.2:=by
    intro l
    induction l with
    | nil=>intro _ a;rfl
    | cons q qs h=>intro hq a;rw [frL,tIdx_app,gposL,List.map_append,ih q (hq q (by simp)),frP_len,h (fun x hx=>hq x (by simp [hx]))]
   rw [this _ (fun _ h=>h)]
   congr 1
   cases isG p.op <;> rfl
def frR (r:Rl):List Bool:=frP r.l++frP r.r++List.replicate r.conds.length false++[false]
theorem frR_len (r:Rl):(frR r).length=stN r:=by unfold frR stN;simp only [List.length_append,List.length_replicate,List.length_singleton,frP_len]
theorem tIdx_frR (r:Rl):tIdx (frR r) 0=(gposR r).map fun q=>q.2:=by
 unfold frR gposR;rw [tIdx_app,tIdx_app,tIdx_app,tIdx_rep,tIdx_frP,tIdx_frP,frP_len,Nat.zero_add,List.map_append];simp [tIdx]
def xpS (i:Nat) (out:List (List Bool)):List (List Bool):=out.flatMap fun x=>[x,x.set i true]
def xpF:List Bool→Nat→List (List Bool)→List (List Bool)
 | [],_,out=>out
 | g::gs,i,out=>xpF gs (i+1) (if g then xpS i out else out)
def xpP:List Nat→List (List Bool)→List (List Bool)
 | [],out=>out
 | p::ps,out=>xpP ps (xpS p out)
theorem xpF_xpP:∀(G:List Bool) (i:Nat) (out:List (List Bool)),xpF G i out=xpP (tIdx G i) out
 | [],_,_=>rfl
 | g::gs,i,out=>by
  rw [xpF,tIdx,xpF_xpP gs];cases g <;> rfl
theorem xpF_snoc:∀(G:List Bool) (g:Bool) (i:Nat) (out:List (List Bool)),xpF (G++[g]) i out=if g then xpS (i+G.length) (xpF G i out) else xpF G i out
 | [],g,i,out=>rfl
 | h::gs,g,i,out=>by rw [List.cons_append,xpF,xpF_snoc gs g,xpF,List.length_cons,Nat.add_assoc,Nat.add_comm 1]
theorem xpS_len (i:Nat) (out:List (List Bool)):(xpS i out).length=2 * out.length:=by
 unfold xpS
 induction out with
 | nil=>rfl
 | cons x xs ih=>rw [List.flatMap_cons,List.length_append,ih];simp only [List.length_cons,List.length_nil];omega
theorem xpP_len:∀(ps:List Nat) (out:List (List Bool)),(xpP ps out).length=out.length * 2 ^ ps.length
 | [],out=>by rw [xpP,List.length_nil,Nat.pow_zero,Nat.mul_one]
 | p::ps,out=>by rw [xpP,xpP_len ps,xpS_len,List.length_cons,Nat.pow_succ];rw [Nat.mul_comm 2 out.length,Nat.mul_assoc,Nat.mul_comm 2]
theorem xpP_rows {n:Nat}:∀(ps:List Nat) (out:List (List Bool)),(∀x∈out,x.length=n)→∀x∈xpP ps out,x.length=n
 | [],_,h=>h
 | p::ps,out,h=>xpP_rows ps _ fun x hx=>by
  obtain ⟨y,hy,hx⟩:=List.mem_flatMap.1 hx;simp only [List.mem_cons,List.not_mem_nil,or_false] at hx;rcases hx with rfl | rfl
  ·exact h _ hy
  ·rw [List.length_set];exact h _ hy
def setP (g:Nat→Bool):List Nat→Nat→List Bool→List Bool
 | [],_,b=>b
 | q::qs,i,b=>setP g qs (i+1) (b.set q (g i))
theorem setG_setP (g:Nat→Bool):∀(l:List (Int×Nat)) (i:Nat) (b:List Bool),setG g l i b=setP g (l.map fun q=>q.2) i b
 | [],_,_=>rfl
 | q::qs,i,b=>by rw [setG,setG_setP g qs];rfl
theorem setP_congr {f g:Nat→Bool}:∀(ps:List Nat) (i:Nat) (b:List Bool),(∀j,i≤j→f j=g j)→setP f ps i b=setP g ps i b
 | [],_,_,_=>rfl
 | q::qs,i,b,h=>by rw [setP,setP,h i (Nat.le_refl _),setP_congr qs _ _ (fun j hj=>h j (by omega))]
theorem set_swap {b:List Bool} {p q:Nat} {x y:Bool} (h:p≠q):(b.set p x).set q y=(b.set q y).set p x:=List.set_comm _ _ h
theorem setP_swap (g:Nat→Bool) {p:Nat} {v:Bool}:∀(ps:List Nat) (i:Nat) (b:List Bool),p ∉ ps→(setP g ps i b).set p v=setP g ps i (b.set p v)
 | [],_,_,_=>rfl
 | q::qs,i,b,h=>by
  rw [List.mem_cons,not_or] at h;rw [setP,setP_swap g qs _ _ h.2,set_swap (fun e=>h.1 e.symm)];rfl
theorem setP_false {q:Nat}:∀(ps:List Nat) (i:Nat) (b:List Bool),q∈ps→(setP (fun _=>false) ps i b).set q false=setP (fun _=>false) ps i b
 | p::ps,i,b,h=>by
  rw [setP];by_cases hm:q∈ps
  ·exact setP_false ps _ _ hm
  ·rcases List.mem_cons.1 h with rfl | h
   ·rw [setP_swap _ _ _ _ hm,List.set_set]
   ·exact absurd h hm
theorem mem_xpP {x:List Bool}:∀(ps:List Nat) (i:Nat) (out:List (List Bool)),ps.Nodup→(∀y∈out,∀q∈ps,y.set q false=y)→(x∈xpP ps out↔∃g,∃y∈out,x=setP g ps i y)
 | [],i,out,_,_=>⟨fun h=>⟨fun _=>false,x,h,rfl⟩,fun ⟨_,y,h,e⟩=>by rw [e];exact h⟩
 | p::ps,i,out,hn,hz=>by
  have hp:=List.nodup_cons.1 hn
  have hin:∀y∈out,∀b:Bool,y.set p b∈xpS p out:=fun y hy b=>List.mem_flatMap.2 ⟨y,hy,by
   cases b with
   | false=>rw [hz y hy p (by simp)];simp
   | true=>simp⟩
  have hout:∀z∈xpS p out,∃y∈out,∃b:Bool,z=y.set p b:=fun z h=>by
   obtain ⟨y,hy,h⟩:=List.mem_flatMap.1 h;simp only [List.mem_cons,List.not_mem_nil,or_false] at h;rcases h with rfl | rfl
   ·exact ⟨_,hy,false,(hz _ hy p (by simp)).symm⟩
   ·exact ⟨y,hy,true,rfl⟩
  rw [xpP,mem_xpP ps (i+1) _ hp.2 (fun z h q hq=>by
   obtain ⟨y,hy,b,rfl⟩:=hout z h
   rw [set_swap (fun e=>by subst e;exact hp.1 hq),hz y hy q (by simp [hq])])]
  constructor
  ·rintro ⟨g,z,h,rfl⟩;obtain ⟨y,hy,b,rfl⟩:=hout z h;refine ⟨fun j=>if j=i then b else g j,y,hy,?_⟩;rw [setP,if_pos rfl];exact setP_congr _ _ _ fun j hj=>(if_neg (by omega)).symm
  ·rintro ⟨g,y,hy,rfl⟩;exact ⟨g,_,hin y hy (g i),rfl⟩
theorem inP_congr {f g:Nat→Bool} (p:Pt):∀i,(∀j,j<gN p→f (i+j)=g (i+j))→inP f p i=inP g p i:=by
 induction p using Pt.ind with
 | h p ih =>
  intro i h;rw [inP_iff,inP_iff];rw [gN_iff] at h;by_cases hv:0<p.v
  ·rw [if_pos hv,if_pos hv]
  ·rw [if_neg hv,if_neg hv];rw [if_neg hv] at h
   have hl:∀(l:List Pt),(∀q∈l,q∈p.kids)→∀i,(∀j,j<gL l→f (i+j)=g (i+j))→inL f l i=inL g l i:=by
    intro l
    induction l with
    | nil=>intro _ i _;rfl
    | cons q qs ihl =>
     intro hq i h;rw [gL] at h;rw [inL,inL,ih q (hq q (by simp)) i (fun j hj=>h j (by omega)),ihl (fun x hx=>hq x (by simp [hx])) (i+gN q) (fun j hj=>by have:=h (gN q+j) (by omega);rwa [←Nat.add_assoc] at this)]
   rw [hl p.kids (fun _ h=>h) _ (fun j hj=>by have:=h ((isG p.op).toNat+j) (by omega);rwa [←Nat.add_assoc] at this)]
   congr 1
   cases hg:isG p.op with
   | false=>rw [←inO_no _ hg (f i),inO_no _ hg (g i)]
   | true =>
    have:=h 0 (by rw [hg];simp;omega);rw [Nat.add_zero] at this;rw [this]
theorem initF_congr {f g:Nat→Bool} {r:Rl} (h:∀j,j<gR r→f j=g j):initF f r=initF g r:=by
 unfold gR at h;unfold initF;rw [inP_congr (g:=g) r.l 0 (fun j hj=>by rw [Nat.zero_add];exact h j (by omega)),inP_congr (g:=g) r.r (gN r.l) (fun j hj=>h _ (by omega))]
theorem initZ_false (r:Rl):initZ r=initF (fun _=>false) r:=by
 unfold initZ initF;rw [inP_const,inP_const]
def rinF (r:Rl):List (List Bool):=xpF (frR r) 0 [initZ r]
theorem rinF_len (r:Rl):(rinF r).length=2 ^ gR r:=by
 unfold rinF;rw [xpF_xpP,xpP_len,tIdx_frR,List.length_map,gposR_len,List.length_singleton,Nat.one_mul]
theorem initZ_len (r:Rl):(initZ r).length=stN r:=by rw [initZ_false,initF_len]
theorem rinF_rows (r:Rl):∀x∈rinF r,x.length=stN r:=by
 unfold rinF;rw [xpF_xpP];exact xpP_rows _ _ fun x hx=>by rw [List.mem_singleton] at hx;subst hx;exact initZ_len r
theorem mem_rinF {r:Rl} {x:List Bool}:x∈rinF r↔x∈initsF r:=by
 unfold rinF;have hz:setP (fun _=>false) (tIdx (frR r) 0) 0 (initZ r)=initZ r:=by rw [tIdx_frR,←setG_setP,setG_init,←initZ_false]
 rw [xpF_xpP,mem_xpP _ 0 _ (tIdx_nodup _ _) (fun y hy q hq=>by
  rw [List.mem_singleton] at hy;subst hy;have:=setP_false (tIdx (frR r) 0) 0 (initZ r) hq
  rwa [hz] at this)]
 unfold initsF;rw [List.mem_map];constructor
 ·rintro ⟨g,y,hy,rfl⟩;rw [List.mem_singleton] at hy;subst hy;obtain ⟨h,h1,h2⟩:=bits_num ((List.range (gR r)).map g);rw [List.length_map,List.length_range] at h1 h2;refine ⟨h,List.mem_range.2 h1,?_⟩;rw [tIdx_frR,←setG_setP,setG_init];exact initF_congr fun j hj=>by rw [h2 j hj];simp [hj]
 ·rintro ⟨h,_,rfl⟩;exact ⟨h.testBit,initZ r,by simp,by rw [tIdx_frR,←setG_setP,setG_init]⟩
theorem tIdx_take (G:List Bool) (j a:Nat):(tIdx (G.take j) a).length≤(tIdx G a).length:=by
 conv=>rhs;rw [←List.take_append_drop j G,tIdx_app,List.length_append]
 omega
theorem rin_take {r:Rl} (h:gR r≤6) (j:Nat) (out:List (List Bool)) (ho:out.length=1):(xpF ((frR r).take j) 0 out).length≤64:=by
 rw [xpF_xpP,xpP_len,ho,Nat.one_mul];have h1:=tIdx_take (frR r) j 0;rw [tIdx_frR,List.length_map,gposR_len] at h1;exact Nat.le_trans (Nat.pow_le_pow_right (by decide) (Nat.le_trans h1 h)) (by decide)
theorem xpS_snoc {i k:Nat} {O:List (List Bool)} (h:k<O.length):xpS i (O.take (k+1))=xpS i (O.take k)++[O[k],O[k].set i true]:=by
 unfold xpS;rw [List.take_succ_eq_append_getElem h,List.flatMap_append];simp
theorem ub_sup {r:Rl} (h:applF r=true):gR r≤6∧implF r=true:=by
 unfold applF at h;simp only [Bool.and_eq_true,decide_eq_true_eq] at h;exact ⟨h.1.2,h.1.1.1.1.1⟩
set_option maxRecDepth 100000 in
set_option maxHeartbeats 16000000 in
theorem rInitStates_c (r:Rl) (a:RlA) (F:Nat→Prop) (w:World) (hk:RlK w F r a) (hap:applF r=true) :
  Calls Tryz.prog 66 #[rlv r a] w fun e w'=>∃OA on oc,e=.returned (.slice OA on oc)∧ElO ElRow 1 84 w' (U8B w') OA on oc ((rinF r).map bbs)∧(∀i,At OA i→w.heap.size≤i)∧Upd Non w w':=by
 obtain ⟨W,HW⟩:=nm (w.alloc (.cells (rlCells r a) 41));have hU:Upd Non w W:=by rw [←HW.out];exact Upd.refl.alloc _
 obtain ⟨rb,hrb⟩:∃b,w.heap.size=b:=⟨_,rfl⟩;have hb:Blk W rb 41 (rlCells r a):=by rw [←HW.out,←hrb];exact Blk.new _ _ _
 have e0:=HW.out;have hK:=(hk.mono (G:=fun k=>k<w.heap.size) (fun _ h _=>h)).upd hU (fun _ _ _ f=>f);obtain ⟨hg6,himp⟩:=ub_sup hap;have hi:=imok_of himp;have hst:=stN_le hi;have hsup:=applF_sup hap;have hbl:bN r.l+bN r.r+r.conds.length+1=stN r:=rfl;have hBF0:BF W none 0 [] none 0 []:=⟨Own.none_,Own.none_⟩;have C1:=h_ (rInit_c r.l W _ a.la a.lc none 0 none 0 [] [] hsup.1 hi.wl hK.l (fun _ _=>⟨At.none_,At.none_⟩) hBF0 (by simp;omega) (by simp;omega))
 have HK:=h_ hK;have HU:=h_ hU;have HI:=h_ hi;have HSP:=h_ hsup;have HB:=h_ (fun (w':World) (u:Upd Non W w')=>rl_cells (hb.upd u (fun f=>f)));obtain ⟨c0,c1,c2,c3,c4,c5,c6,c7,c8,c9,c10,c11,c12,c13⟩:=HB.out W Upd.refl;simp only [List.nil_append,List.length_nil] at C1;unfold pv at C1;have HW0:Hid (w.heap.size≤W.heap.size):=hU.size;clear hk hK hU hi hsup hb hBF0 himp;unfold rlv;unfold rlCells at e0 ⊢;go_enter Tryz.func66,Tryz.ntmps66;go_wp2_with fail
 refine C1.out.mono ?_;rintro e w2 hR1;obtain ⟨A1,k1,B1,d1,rfl,hF1,hA1,hB1,hu1⟩:=hR1;have u1:Upd Non W w2:=hu1.mono (fun i _ q=>by rcases q with q | q <;> exact (At.none_ q).elim);clear c0 c1 c2 c3 c4 c5 c6 c7 c8 c9 c10 c11 c12 c13 hu1 C1;obtain ⟨c0,c1,c2,c3,c4,c5,c6,c7,c8,c9,c10,c11,c12,c13⟩:=HB.out w2 u1;have HU1:=h_ u1;have HA1:Hid (∀i,At A1 i→W.heap.size≤i):=fun i q=>(hA1 i q).elim (fun q=>(At.none_ q).elim) id
 have HB1:Hid (∀i,At B1 i→W.heap.size≤i):=fun i q=>(hB1 i q).elim (fun q=>(At.none_ q).elim) id
 have C2:=h_ (rInit_c r.r w2 _ a.ra a.rc A1 k1 B1 d1 (iP r.l) (frP r.l) HSP.out.2 HI.out.wr ((HK.out.upd u1 (fun _ _ _ f=>f)).mono (G:=fun k=>k<w.heap.size) (fun _ _ h=>h)).r (fun i h=>by
  have h0:=HW0.out
  exact ⟨fun q=>by have:=HA1.out i q;omega,fun q=>by have:=HB1.out i q;omega⟩) hF1 (by rw [iP_len];omega) (by rw [frP_len];omega))
 unfold pv at C2;obtain ⟨n1,Hn1⟩:=nm (iP r.l).length;obtain ⟨g1,Hg1⟩:=nm (frP r.l).length;rw [Hn1.out,Hg1.out] at C2;rw [Hn1.out,Hg1.out];clear hF1 hA1 hB1 u1;go_wp2_with fail
 refine C2.out.mono ?_;rintro e w3 hR2;obtain ⟨A2,k2,B2,d2,rfl,hF2,hA2,hB2,hu2⟩:=hR2
 have u2:Upd Non W w3:=HU1.out.trans hu2 (fun i hi q=>by
  rcases q with q | q
  ·have:=HA1.out i q;omega
  ·have:=HB1.out i q;omega)
 have HA2:Hid (∀i,At A2 i→W.heap.size≤i):=fun i q=>by
  have:=HU1.out.size;rcases hA2 i q with q | q
  ·exact HA1.out i q
  ·omega
 have HB2:Hid (∀i,At B2 i→W.heap.size≤i):=fun i q=>by
  have:=HU1.out.size;rcases hB2 i q with q | q
  ·exact HB1.out i q
  ·omega
 have HU2:=h_ u2;have HF2:=h_ hF2;clear c0 c1 c2 c3 c4 c5 c6 c7 c8 c9 c10 c11 c12 c13 hF2 hA2 hB2 hu2 u2 C2;obtain ⟨N0,HN0⟩:=nm (iP r.l++iP r.r);obtain ⟨G0,HG0⟩:=nm (frP r.l++frP r.r);rw [HN0.out,HG0.out] at HF2;rw [HN0.out,HG0.out];have HN0L:Hid (N0.length=bN r.l+bN r.r):=by show _=_;rw [←HN0.out,List.length_append,iP_len,iP_len]
 have HG0L:Hid (G0.length=bN r.l+bN r.r):=by show _=_;rw [←HG0.out,List.length_append,frP_len,frP_len]
 obtain ⟨CA,hCA⟩:∃x,a.ca=x:=⟨_,rfl⟩;have HCV:Hid (CondsV W (fun k=>k<w.heap.size) CA r.conds):=by rw [←hCA];exact HK.out.c
 obtain ⟨nc,Hnc⟩:=nm r.conds.length;have hnc6:nc≤6:=by rw [←Hnc.out];exact HI.out.cn
 have HC11:Hid (∀w',Upd Non W w'→w'.cell? ⟨rb,11,none⟩=some (.slice CA nc a.cc)):=fun w' u=>by
  obtain ⟨_,_,_,_,_,_,_,_,_,_,_,h,_,_⟩:=HB.out w' u;rw [hCA,Hnc.out] at h;exact h
 rw [Hnc.out] at hbl;have HBL:=h_ hbl;clear hCA hbl;go_wp2_with fail
 go_loopg [3,4,5] nc (fun gg s3 s4 i wr=>∃(j:Nat) (A3:Option Addr) (k3:Nat) (B3:Option Addr) (d3:Nat) (N1 G1:List Bool),Hid (gg=nc - j)∧j≤nc∧s3=.slice A3 N1.length k3∧s4=.slice B3 G1.length d3∧i=.int .i64 j ∧
  Hid (N1=N0++(r.conds.take j).map cdIn)∧Hid (G1=G0++List.replicate j false)∧Hid (BF wr A3 k3 N1 B3 d3 G1)∧Hid (∀i,At A3 i→W.heap.size≤i)∧Hid (∀i,At B3 i→W.heap.size≤i)∧Hid (Upd Non W wr))
 case atStart=>exact ⟨0,A2,k2,B2,d2,N0,G0,rfl,by omega,rfl,rfl,rfl,by show _=_;simp,by show _=_;simp,HF2.out,HA2.out,HB2.out,HU2.out⟩
 case round =>
  obtain ⟨j,A3,k3,B3,d3,N1,G1,Hgg,hj,rfl,rfl,rfl,HN1,HG1,HF3,HA3,HB3,HU3⟩:=hrel;have y11:=HC11.out wr HU3.out;have hbl:=HBL.out;have hn1e:N1.length=bN r.l+bN r.r+j:=by rw [HN1.out,List.length_append,HN0L.out,List.length_map,List.length_take,Hnc.out];omega
  have hg1e:G1.length=bN r.l+bN r.r+j:=by rw [HG1.out,List.length_append,HG0L.out,List.length_replicate]
  obtain ⟨n1,Hn1⟩:=nm N1.length;obtain ⟨g1,Hg1⟩:=nm G1.length;have hn1l:n1≤4000:=by rw [←Hn1.out];omega
  have hg1l:g1≤4000:=by rw [←Hg1.out];omega
  have HN1E:=h_ hn1e;have HG1E:=h_ hg1e;clear hbl hn1e hg1e;rw [Hn1.out,Hg1.out];have hA:=HF3.out.1;have hB:=HF3.out.2;rw [Hn1.out] at hA;rw [Hg1.out] at hB;by_cases hlt:j<nc
  ·have hjl:j<r.conds.length:=by rw [Hnc.out];exact hlt
   obtain ⟨b,o,rfl,_,hbw,q0,q1,q2,q3⟩:=(HCV.out.upd HU3.out (fun _ _ _ f=>f)).at_ hjl;have htk:=List.take_succ_eq_append_getElem hjl;obtain ⟨kind,Hkind⟩:=nm r.conds[j].kind;rw [Hkind.out] at q0;have hjn:(j:Int)<(nc:Int):=by omega
   have hj0:(0:Int)≤(j:Int):=by omega
   by_cases h2:kind=2
   ·have hcd:cdIn r.conds[j]=true:=by unfold cdIn;rw [Hkind.out];simp [h2]
    subst h2
    go_wp2_with (at_builtin;refine wpList_app rfl rfl T_u8s rfl (hA.alloc _) rfl (Sl.new _ _ _) rfl (by simp [Value.oneCell']) (by simp only [maxLen];omega) (by omega) ?_)
    intro A4 k4 w4 ho4 hu4 hat4;have hB4:=(hB.alloc _).upd hu4 (fun k hk hA'=>own_two HF3.out.1 HF3.out.2 k hA' hk)
    go_wp2_with (at_builtin;refine wpList_app rfl rfl T_bls rfl (hB4.alloc _) rfl (Sl.new _ _ _) rfl (by simp [Value.oneCell']) (by simp only [maxLen];omega) (by omega) ?_)
    intro B5 d5 w5 ho5 hu5 hat5;obtain ⟨A6,k6,B6,d6,e6,e7,HF6,HA6,HB6,HU6⟩:=BF.step (o:=[cdIn r.conds[j]]) (f:=[false]) HF3.out Hn1.out Hg1.out rfl rfl (Upd.refl.alloc _) (by rw [hcd];exact ho4) hu4 (fun k q=>(hat4 k q).imp id (fun z=>by rw [z];simp)) (Upd.refl.alloc _) ho5 hu5 (fun k q=>(hat5 k q).imp id (fun z=>by rw [z];simp))
    have e6:Value.slice A4 (n1+1) k4=.slice A6 (N1++[cdIn r.conds[j]]).length k6:=e6;have e7:Value.slice B5 (g1+1) d5=.slice B6 (G1++[false]).length d6:=e7;have HF7:=h_ HF6
    have HU7:Hid (Upd Non W w5):=HU3.out.trans HU6 (fun i hi q=>by
     rcases q with q | q
     ·have:=HA3.out i q;omega
     ·have:=HB3.out i q;omega)
    have hsz:=HU3.out.size
    have HA7:Hid (∀i,At A6 i→W.heap.size≤i):=fun i q=>by
     rcases HA6 i q with q | q
     ·exact HA3.out i q
     ·omega
    have HB7:Hid (∀i,At B6 i→W.heap.size≤i):=fun i q=>by
     rcases HB6 i q with q | q
     ·exact HB3.out i q
     ·omega
    have HN7:Hid (N1++[cdIn r.conds[j]]=N0++(r.conds.take (j+1)).map cdIn):=by show _=_;rw [htk,List.map_append,HN1.out,List.append_assoc];rfl
    have HG7:Hid (G1++[false]=G0++List.replicate (j+1) false):=by show _=_;rw [HG1.out,List.append_assoc,List.replicate_succ']
    clear ho4 hu4 hat4 ho5 hu5 hat5 hB4 HF6 HA6 HB6 HU6 hsz;rw [e6,e7];go_wp2_with fail
    go_roundg (nc - (j+1))
    case measure=>rw [Hgg.out];omega
    case rel=>exact ⟨j+1,A6,k6,B6,d6,_,_,rfl,by omega,rfl,rfl,by go_num,HN7.out,HG7.out,HF7.out,HA7.out,HB7.out,HU7.out⟩
   ·by_cases h3:kind=3
    ·have hcd:cdIn r.conds[j]=true:=by unfold cdIn;rw [Hkind.out];simp [h3]
     subst h3
     go_wp2_with (at_builtin;refine wpList_app rfl rfl T_u8s rfl (hA.alloc _) rfl (Sl.new _ _ _) rfl (by simp [Value.oneCell']) (by simp only [maxLen];omega) (by omega) ?_)
     intro A4 k4 w4 ho4 hu4 hat4;have hB4:=(hB.alloc _).upd hu4 (fun k hk hA'=>own_two HF3.out.1 HF3.out.2 k hA' hk)
     go_wp2_with (at_builtin;refine wpList_app rfl rfl T_bls rfl (hB4.alloc _) rfl (Sl.new _ _ _) rfl (by simp [Value.oneCell']) (by simp only [maxLen];omega) (by omega) ?_)
     intro B5 d5 w5 ho5 hu5 hat5;obtain ⟨A6,k6,B6,d6,e6,e7,HF6,HA6,HB6,HU6⟩:=BF.step (o:=[cdIn r.conds[j]]) (f:=[false]) HF3.out Hn1.out Hg1.out rfl rfl (Upd.refl.alloc _) (by rw [hcd];exact ho4) hu4 (fun k q=>(hat4 k q).imp id (fun z=>by rw [z];simp)) (Upd.refl.alloc _) ho5 hu5 (fun k q=>(hat5 k q).imp id (fun z=>by rw [z];simp))
     have e6:Value.slice A4 (n1+1) k4=.slice A6 (N1++[cdIn r.conds[j]]).length k6:=e6;have e7:Value.slice B5 (g1+1) d5=.slice B6 (G1++[false]).length d6:=e7;have HF7:=h_ HF6
     have HU7:Hid (Upd Non W w5):=HU3.out.trans HU6 (fun i hi q=>by
      rcases q with q | q
      ·have:=HA3.out i q;omega
      ·have:=HB3.out i q;omega)
     have hsz:=HU3.out.size
     have HA7:Hid (∀i,At A6 i→W.heap.size≤i):=fun i q=>by
      rcases HA6 i q with q | q
      ·exact HA3.out i q
      ·omega
     have HB7:Hid (∀i,At B6 i→W.heap.size≤i):=fun i q=>by
      rcases HB6 i q with q | q
      ·exact HB3.out i q
      ·omega
     have HN7:Hid (N1++[cdIn r.conds[j]]=N0++(r.conds.take (j+1)).map cdIn):=by show _=_;rw [htk,List.map_append,HN1.out,List.append_assoc];rfl
     have HG7:Hid (G1++[false]=G0++List.replicate (j+1) false):=by show _=_;rw [HG1.out,List.append_assoc,List.replicate_succ']
     clear ho4 hu4 hat4 ho5 hu5 hat5 hB4 HF6 HA6 HB6 HU6 hsz;rw [e6,e7];go_wp2_with fail
     go_roundg (nc - (j+1))
     case measure=>rw [Hgg.out];omega
     case rel=>exact ⟨j+1,A6,k6,B6,d6,_,_,rfl,by omega,rfl,rfl,by go_num,HN7.out,HG7.out,HF7.out,HA7.out,HB7.out,HU7.out⟩
    ·have hcd:cdIn r.conds[j]=false:=by unfold cdIn;rw [Hkind.out];simp [h2,h3]
     have t2:(kind==2)=false:=beq_eq_false_iff_ne.2 h2;have t3:(kind==3)=false:=beq_eq_false_iff_ne.2 h3
     go_wp2_with (at_builtin;refine wpList_app rfl rfl T_u8s rfl (hA.alloc _) rfl (Sl.new _ _ _) rfl (by simp [Value.oneCell']) (by simp only [maxLen];omega) (by omega) ?_)
     intro A4 k4 w4 ho4 hu4 hat4;have hB4:=(hB.alloc _).upd hu4 (fun k hk hA'=>own_two HF3.out.1 HF3.out.2 k hA' hk)
     go_wp2_with (at_builtin;refine wpList_app rfl rfl T_bls rfl (hB4.alloc _) rfl (Sl.new _ _ _) rfl (by simp [Value.oneCell']) (by simp only [maxLen];omega) (by omega) ?_)
     intro B5 d5 w5 ho5 hu5 hat5;obtain ⟨A6,k6,B6,d6,e6,e7,HF6,HA6,HB6,HU6⟩:=BF.step (o:=[cdIn r.conds[j]]) (f:=[false]) HF3.out Hn1.out Hg1.out rfl rfl (Upd.refl.alloc _) (by rw [hcd];exact ho4) hu4 (fun k q=>(hat4 k q).imp id (fun z=>by rw [z];simp)) (Upd.refl.alloc _) ho5 hu5 (fun k q=>(hat5 k q).imp id (fun z=>by rw [z];simp))
     have e6:Value.slice A4 (n1+1) k4=.slice A6 (N1++[cdIn r.conds[j]]).length k6:=e6;have e7:Value.slice B5 (g1+1) d5=.slice B6 (G1++[false]).length d6:=e7;have HF7:=h_ HF6
     have HU7:Hid (Upd Non W w5):=HU3.out.trans HU6 (fun i hi q=>by
      rcases q with q | q
      ·have:=HA3.out i q;omega
      ·have:=HB3.out i q;omega)
     have hsz:=HU3.out.size
     have HA7:Hid (∀i,At A6 i→W.heap.size≤i):=fun i q=>by
      rcases HA6 i q with q | q
      ·exact HA3.out i q
      ·omega
     have HB7:Hid (∀i,At B6 i→W.heap.size≤i):=fun i q=>by
      rcases HB6 i q with q | q
      ·exact HB3.out i q
      ·omega
     have HN7:Hid (N1++[cdIn r.conds[j]]=N0++(r.conds.take (j+1)).map cdIn):=by show _=_;rw [htk,List.map_append,HN1.out,List.append_assoc];rfl
     have HG7:Hid (G1++[false]=G0++List.replicate (j+1) false):=by show _=_;rw [HG1.out,List.append_assoc,List.replicate_succ']
     clear ho4 hu4 hat4 ho5 hu5 hat5 hB4 HF6 HA6 HB6 HU6 hsz;rw [e6,e7];go_wp2_with fail
     go_roundg (nc - (j+1))
     case measure=>rw [Hgg.out];omega
     case rel=>exact ⟨j+1,A6,k6,B6,d6,_,_,rfl,by omega,rfl,rfl,by go_num,HN7.out,HG7.out,HF7.out,HA7.out,HB7.out,HU7.out⟩
  ·obtain rfl:nc=j:=by omega
   go_wp2_with (at_builtin;refine wpList_app rfl rfl T_u8s rfl (hA.alloc _) rfl (Sl.new _ _ _) rfl (by simp [Value.oneCell']) (by simp only [maxLen];omega) (by omega) ?_)
   intro A4 k4 w4 ho4 hu4 hat4;have hB4:=(hB.alloc _).upd hu4 (fun k hk hA'=>own_two HF3.out.1 HF3.out.2 k hA' hk)
   go_wp2_with (at_builtin;refine wpList_app rfl rfl T_bls rfl (hB4.alloc _) rfl (Sl.new _ _ _) rfl (by simp [Value.oneCell']) (by simp only [maxLen];omega) (by omega) ?_)
   intro B5 d5 w5 ho5 hu5 hat5;obtain ⟨A6,k6,B6,d6,e6,e7,HF6,HA6,HB6,HU6⟩:=BF.step (o:=[false]) (f:=[false]) HF3.out Hn1.out Hg1.out rfl rfl (Upd.refl.alloc _) ho4 hu4 (fun k q=>(hat4 k q).imp id (fun z=>by rw [z];simp)) (Upd.refl.alloc _) ho5 hu5 (fun k q=>(hat5 k q).imp id (fun z=>by rw [z];simp))
   have e6:Value.slice A4 (n1+1) k4=.slice A6 (N1++[false]).length k6:=e6;have e7:Value.slice B5 (g1+1) d5=.slice B6 (G1++[false]).length d6:=e7
   have HU7:Hid (Upd Non W w5):=HU3.out.trans HU6 (fun i hi q=>by
    rcases q with q | q
    ·have:=HA3.out i q;omega
    ·have:=HB3.out i q;omega)
   have hsz:=HU3.out.size
   have HA7:Hid (∀i,At A6 i→W.heap.size≤i):=fun i q=>by
    rcases HA6 i q with q | q
    ·exact HA3.out i q
    ·omega
   have HB7:Hid (∀i,At B6 i→W.heap.size≤i):=fun i q=>by
    rcases HB6 i q with q | q
    ·exact HB3.out i q
    ·omega
   have HN7:Hid (N1++[false]=initZ r):=by show _=_;rw [HN1.out,List.take_of_length_le (by rw [Hnc.out];exact Nat.le_refl _),←HN0.out];unfold initZ;rfl
   have HG7:Hid (G1++[false]=frR r):=by show _=_;rw [HG1.out,←HG0.out];unfold frR;rw [Hnc.out]
   rw [HN7.out,HG7.out] at HF6;rw [HN7.out] at e6;rw [HG7.out] at e7;have HF7:=h_ HF6;clear ho4 hu4 hat4 ho5 hu5 hat5 hB4 HF6 HA6 HB6 HU6 hsz;rw [e6,e7];have hzl:=initZ_len r;have hfl:=frR_len r;obtain ⟨sn,Hsn⟩:=nm (stN r);obtain ⟨Z,HZ⟩:=nm (initZ r);obtain ⟨Fr,HFr⟩:=nm (frR r);rw [HZ.out,HFr.out] at HF7;rw [HZ.out,Hsn.out] at hzl;rw [HFr.out,Hsn.out] at hfl;rw [HZ.out,HFr.out];have HZL:=h_ hzl;have HFL:=h_ hfl;obtain ⟨qb,rfl⟩:=HF7.out.1.some_ (by rw [hzl,←Hsn.out,←HBL.out];omega);obtain ⟨fb,rfl⟩:=HF7.out.2.some_ (by rw [hfl,←Hsn.out,←HBL.out];omega);rw [hzl,hfl];rw [Hsn.out] at hst;have hs0:0<sn:=by rw [←Hsn.out,←HBL.out];omega
   obtain ⟨W6,HW6⟩:=nm (w5.alloc (.cells #[.slice (some ⟨qb,0,none⟩) sn k6] 84));have u6:Upd Non w5 W6:=by rw [←HW6.out];exact Upd.refl.alloc _
   have hO0:ElO ElRow 1 84 W6 (U8B W6) (some ⟨w5.heap.size,0,none⟩) 1 1 ((xpF (Fr.take 0) 0 [Z]).map bbs):=by
    have h1:Own W6 84 1 (some ⟨w5.heap.size,0,none⟩) 1 1 [.slice (some ⟨qb,0,none⟩) sn k6]:=by rw [←HW6.out];exact own_one _ _ _
    have h2:=HF7.out.1.upd u6 (fun _ _ f=>f);rw [hzl] at h2;refine ⟨rfl,_,h1,?_⟩;refine (ElCells.nil.snoc elRow (elRow_of h2 hzl ⟨own_u8 h2,fun q=>?_⟩));rw [At.some_] at q;exact h1.ne_blk (own_u8 h2).choose_spec (by decide) (At.some_.2 q)
   have hFO:=HF7.out.2.upd u6 (fun _ _ f=>f);rw [hfl] at hFO;have HFO:=h_ hFO;have HO0:=h_ hO0;have HU6:=h_ (HU7.out.then_non u6);have HS6:Hid (w5.heap.size<W6.heap.size):=hO0.lt (At.some_.2 rfl);have HWS:Hid (W.heap.size≤w5.heap.size):=HU7.out.size;clear hzl hfl u6 hO0 hFO
   go_upto_region 14 with fail
   rw [HW6.out];obtain ⟨ob,hob⟩:∃b,w5.heap.size=b:=⟨_,rfl⟩;rw [hob] at HO0 HS6 HWS;rw [hob];obtain ⟨B6,hB6⟩:∃b,W6.heap.size=b:=⟨_,rfl⟩;have HB6:=h_ hB6
   have HROW:Hid (∀j,∀y∈xpF (Fr.take j) 0 [Z],y.length=sn):=fun j=>by
    rw [xpF_xpP];exact xpP_rows _ _ fun y hy=>by rw [List.mem_singleton] at hy;subst hy;exact HZL.out
   have HGR:Hid (∀j,(xpF (Fr.take j) 0 [Z]).length≤64):=fun j=>by rw [←HFr.out];exact rin_take hg6 j _ rfl
   clear hob hB6;go_wp2_with fail
   go_loopg [7,8] sn (fun gg s7 s8 wr=>∃(j:Nat) (OA:Option Addr) (on oc:Nat),Hid (gg=sn - j)∧j≤sn∧s7=.slice OA on oc∧s8=.int .i64 j∧Hid (ElO ElRow 1 84 wr (U8B wr) OA on oc ((xpF (Fr.take j) 0 [Z]).map bbs))∧Hid (∀i,At OA i→ob≤i)∧Hid (Upd Non W6 wr))
   case atStart=>exact ⟨0,some ⟨ob,0,none⟩,1,1,rfl,by omega,rfl,rfl,HO0.out,fun i q=>by rw [At.some_] at q;omega,Upd.refl⟩
   case round =>
    obtain ⟨j,OA,on,oc,Hg2,hj2,rfl,rfl,HO,HAO,HUr⟩:=hrel;by_cases hjs:j<sn
    ·have hjn2:(j:Int)<(sn:Int):=by omega
     have hjf:j<Fr.length:=by rw [HFL.out];exact hjs
     have hfj:wr.cell? ⟨fb,j,none⟩=some (.bool Fr[j]):=by
      have h1:=(HFO.out.upd HUr.out (fun _ _ f=>f)).cell_ (i:=j) (by rw [bls_len];exact hjf);rw [h1];simp [bls]
     have htk2:=List.take_succ_eq_append_getElem hjf
     have hex:xpF (Fr.take (j+1)) 0 [Z]=if Fr[j] then xpS j (xpF (Fr.take j) 0 [Z]) else xpF (Fr.take j) 0 [Z]:=by
      rw [htk2,xpF_snoc,List.length_take,Nat.zero_add,Nat.min_eq_left (by omega)]
     have hj0:(0:Int)≤(j:Int):=by omega
     have hgr:=HGR.out j;have hgr2:=HGR.out (j+1);obtain ⟨O,HOO⟩:=nm (xpF (Fr.take j) 0 [Z]);rw [HOO.out] at HO hex hgr;obtain ⟨fr,Hfr⟩:=nm Fr[j];rw [Hfr.out] at hfj hex;have HEX:=h_ hex;clear hex htk2 hjf Hfr
     cases fr with
     | false =>
      have HO2:Hid (ElO ElRow 1 84 wr (U8B wr) OA on oc ((xpF (Fr.take (j+1)) 0 [Z]).map bbs)):=by rw [HEX.out];exact HO.out
      clear hgr hgr2;go_wp2_with fail
      go_roundg (sn - (j+1))
      case measure=>rw [Hg2.out];omega
      case rel=>exact ⟨j+1,OA,on,oc,rfl,by omega,rfl,by go_num,HO2.out,HAO.out,HUr.out⟩
     | true =>
      have HE2:Hid (xpF (Fr.take (j+1)) 0 [Z]=xpS j O):=HEX.out;have hon:on=O.length:=by rw [HO.out.1,List.length_map]
      have HON:=h_ hon;have hon64:on≤64:=by omega
      have HSW:Hid (ob≤wr.heap.size):=by have h1:=HUr.out.size;have h2:=HS6.out;show ob≤_;omega
      obtain ⟨wj,rfl⟩:∃x:World,x=wr:=⟨_,rfl⟩;clear hon hgr hgr2 HEX;go_wp2_with fail
      go_loopg [9,10] on (fun gg s9 s10 wr=>∃(k:Nat) (NA:Option Addr) (nn nc2:Nat),Hid (gg=on - k)∧k≤on∧s9=.slice NA nn nc2∧s10=.int .i64 k∧Hid (ElO ElRow 1 84 wr (U8B wr) NA nn nc2 ((xpS j (O.take k)).map bbs))∧Hid (∀i,At NA i→wj.heap.size≤i)∧Hid (Upd Non wj wr))
      case atStart=>exact ⟨0,none,0,0,rfl,by omega,rfl,rfl,by rw [List.take_zero];exact ElO.none_,fun i q=>(At.none_ q).elim,Upd.refl⟩
      case round =>
       obtain ⟨k,NA,nn,nc2,Hg3,hk3,rfl,rfl,HN,HAN,HUk⟩:=hrel;obtain ⟨wk,rfl⟩:∃x:World,x=wr:=⟨_,rfl⟩;by_cases hks:k<on
       ·have hkn:(k:Int)<(on:Int):=by omega
        have hkO:k<O.length:=by rw [←HON.out];exact hks
        have HOk:=h_ (HO.out.u8 elRow HUk.out (fun _ _ f=>f) (fun _ _ _ f=>f));obtain ⟨g,RA,rc,rfl,hcell,hrc,hsl⟩:=rows_at HOk.out (i:=k) (by rw [List.length_map];exact hkO);obtain ⟨x,Hx⟩:=nm O[k]
        have hxl:x.length=sn:=by
         rw [←Hx.out];refine HROW.out j _ ?_;rw [HOO.out];exact List.getElem_mem hkO
        have hrow:(O.map bbs)[k]'(by rw [List.length_map];exact hkO)=bbs x:=by rw [List.getElem_map,Hx.out]
        rw [hrow] at hcell hrc hsl;have hbl2:(bbs x).length=sn:=by unfold bbs;rw [List.length_map,hxl]
        rw [hbl2] at hcell hrc;have HSL:=h_ (hsl.mono (G:=fun i=>U8B wk i) (fun _ _ q=>q.1));have HX2:Hid (xpS j (O.take (k+1))=xpS j (O.take k)++[x,x.set j true]):=by show _=_;rw [xpS_snoc hkO,Hx.out]
        have HXL:=h_ hxl;have HBL2:=h_ hbl2;have hgl:g<wk.heap.size:=HOk.out.lt (At.some_.2 rfl);have hk0:(0:Int)≤(k:Int):=by omega
        obtain ⟨W7,HW7⟩:=nm (wk.alloc (.cells #[] 5));have u7:Upd Non wk W7:=by rw [←HW7.out];exact Upd.refl.alloc _
        have hoE:Own W7 5 1 (some ⟨wk.heap.size,0,none⟩) 0 0 []:=by rw [←HW7.out];exact own_empty _ _ _
        have hs7:=HSL.out.upd u7 (fun _ _ _ f=>f);clear hrow hsl hxl hbl2
        go_wp2_with (at_builtin;rw [HW7.out];refine wpList_app rfl rfl T_u8s rfl hoE rfl hs7 (by unfold u8s;rw [List.length_map,HBL2.out,Nat.mul_one]) (by intro u hu;unfold u8s at hu;obtain ⟨z,_,rfl⟩:=List.mem_map.1 hu;rfl) (by simp only [maxLen];omega) (by omega) ?_)
        intro A8 c8 w8 ho8 hu8 hat8;obtain ⟨cb,rfl⟩:=ho8.some_ hs0;have u8:Upd Non wk w8:=u7.trans hu8 (fun i hi q=>by rw [At.some_] at q;omega)
        have hcbW:wk.heap.size≤cb:=by
         rcases hat8 cb (At.some_.2 rfl) with q | q
         ·rw [At.some_] at q;omega
         ·have:=u7.size;omega
        have ho8b:Own w8 5 1 (some ⟨cb,0,none⟩) sn c8 (b8s x):=by rw [b8s_u8s];exact ho8
        obtain ⟨W9,HW9⟩:=nm (w8.setCell ⟨cb,j,none⟩ (.int .u8 1));have ho9:Own W9 5 1 (some ⟨cb,0,none⟩) sn c8 (b8s (x.set j true)):=by rw [←HW9.out,←b8s_set];exact ho8b.set_ j _
        have u9:Upd Non wk W9:=by rw [←HW9.out];exact u8.trans (updCell w8 cb j _) (fun i hi e=>by omega)
        have hcj:=ho8b.cell_ (i:=j) (by rw [b8s_len,HXL.out];exact hjs);have hfj2:=ho8b.frozen_ j;have hc9:=u_ (S:=Non) hcell u9 (fun f=>f);obtain ⟨hnn,csn,hoN,hCN⟩:=HN.out;have hoN9:=hoN.upd u9 (fun _ _ f=>f);have hg9:g<W9.heap.size:=Nat.lt_of_lt_of_le hgl u9.size
        have hnnb:nn≤128:=by
         rw [hnn,List.length_map,xpS_len,List.length_take,←HON.out];omega
        have HNN:=h_ hnn;have HHN:=h_ (And.intro hoN hCN);have HO9:=h_ ho9;have HU9:=h_ u9;have HCB:=h_ hcbW;clear ho8 hu8 hat8 u8 hoE hs7 u7 hcell hgl ho8b hnn hoN hCN ho9 hcbW
        go_upto_region 24 with fail
        rw [HW9.out];clear hcj hfj2 u9
        go_wp2_with (at_builtin;refine wpList_app rfl rfl T_rows rfl (hoN9.alloc _) rfl (Sl.new _ _ _) rfl (by simp [Value.oneCell']) (by simp only [maxLen];omega) (by omega) ?_)
        intro A10 c10 w10 ho10 hu10 hat10
        have HN10:Hid (ElO ElRow 1 84 w10 (U8B w10) A10 (nn+2) c10 ((xpS j (O.take (k+1))).map bbs)):=by
         obtain ⟨hoN,hCN⟩:=HHN.out;have hal:Upd Non wk (W9.alloc (.cells #[.slice RA sn rc,.slice (some ⟨cb,0,none⟩) sn c8] 84)):=HU9.out.alloc _
         have h1:ElRow (W9.alloc (.cells #[.slice RA sn rc,.slice (some ⟨cb,0,none⟩) sn c8] 84)) (fun i=>U8B (W9.alloc (.cells #[.slice RA sn rc,.slice (some ⟨cb,0,none⟩) sn c8] 84)) i∧¬At NA i) [.slice RA sn rc] (bbs x):=by
          refine ⟨RA,rc,by rw [HBL2.out],by rw [HBL2.out];exact hrc,?_⟩;refine (HSL.out.mono (G:=fun i=>U8B wk i∧¬At NA i) (fun i _ q=>⟨q,by obtain ⟨z,hb⟩:=q;exact hoN.ne_blk hb (by decide)⟩)).upd hal (fun _ _ _ f=>f) |>.mono (fun i _ q=>⟨q.1.upd hal (fun f=>f),q.2⟩)
         have ho9a:=HO9.out.alloc (.cells #[.slice RA sn rc,.slice (some ⟨cb,0,none⟩) sn c8] 84);have h2:=elRow_of (K:=fun i=>U8B (W9.alloc (.cells #[.slice RA sn rc,.slice (some ⟨cb,0,none⟩) sn c8] 84)) i∧¬At NA i) ho9a (by rw [List.length_set,HXL.out]) ⟨own_u8 ho9a,fun q=>by have h3:=hoN.lt q;have h4:=HCB.out;omega⟩
         rw [HX2.out,List.map_append];exact ElO.apps8 (w:=W9.alloc (.cells #[.slice RA sn rc,.slice (some ⟨cb,0,none⟩) sn c8] 84)) elRow HNN.out hCN hal ((ElCells.nil.snoc elRow h1).snoc elRow h2) rfl ho10 hu10 (fun i q=>(hat10 i q).imp id (fun z=>by rw [z];simp))
        have HA10:Hid (∀i,At A10 i→wj.heap.size≤i):=fun i q=>by
         have h1:=HUk.out.size;have h2:=HU9.out.size;rcases hat10 i q with q | q
         ·exact HAN.out i q
         ·omega
        have HU10:Hid (Upd Non wj w10):=(HUk.out.then_non (HU9.out.alloc _)).trans hu10 (fun i hi q=>by have:=HAN.out i q;omega);clear ho10 hu10 hat10 hoN9;go_wp2_with fail
        go_roundg (on - (k+1))
        case measure=>rw [Hg3.out];omega
        case rel=>exact ⟨k+1,A10,nn+2,c10,rfl,by omega,rfl,by go_num,HN10.out,HA10.out,HU10.out⟩
       ·obtain rfl:on=k:=by omega
        have HN2:Hid (ElO ElRow 1 84 wk (U8B wk) NA nn nc2 ((xpF (Fr.take (j+1)) 0 [Z]).map bbs)):=by
         have h:=HN.out;rw [List.take_of_length_le (by rw [←HON.out];exact Nat.le_refl _),←HE2.out] at h;exact h
        have HAN2:Hid (∀i,At NA i→ob≤i):=fun i q=>by have h1:=HAN.out i q;have h2:=HSW.out;omega
        go_wp2_with fail
        go_roundg (sn - (j+1))
        case measure=>rw [Hg2.out];omega
        case rel=>exact ⟨j+1,NA,nn,nc2,rfl,by omega,rfl,by go_num,HN2.out,HAN2.out,HUr.out.then_non HUk.out⟩
    ·obtain rfl:sn=j:=by omega
     have HFIN:Hid (ElO ElRow 1 84 wr (U8B wr) OA on oc ((rinF r).map bbs)):=by
      have h:=HO.out;rw [List.take_of_length_le (by rw [HFL.out];exact Nat.le_refl _)] at h;unfold rinF;rw [HFr.out,HZ.out];exact h
     go_wp2_with fail
     go_ret;exact ⟨OA,on,oc,rfl,HFIN.out,fun i q=>by have h1:=HAO.out i q;have h2:=HWS.out;have h3:=HW0.out;omega,HU.out.then_non (HU6.out.then_non HUr.out)⟩
structure RT (w:World) (F:Nat→Prop) (x k:Nat) (ins old now:List Bool) (NA:Option Addr) (nc:Nat):Prop where
 blk:∃IA ic OA oc,Blk w x 227 #[.int .i64 (k:Int),.slice IA ins.length ic,.slice OA old.length oc,.slice NA now.length nc]∧Sl w F IA (b8s ins)∧Sl w F OA (b8s old)∧old.length≤oc∧ins.length≤ic
 own:Own w 5 1 NA now.length nc (b8s now)
 far:∀i,F i→i<w.heap.size∧i≠x∧¬At NA i
section
variable {w w':World} {F S:Nat→Prop} {x k:Nat} {ins old now:List Bool} {NA:Option Addr} {nc:Nat}
theorem RT.lt (h:RT w F x k ins old now NA nc):x<w.heap.size:=by
 obtain ⟨_,_,_,_,hb,_⟩:=h.blk;exact hb.lt
theorem RT.ne (h:RT w F x k ins old now NA nc):¬At NA x:=by
 obtain ⟨_,_,_,_,hb,_⟩:=h.blk;exact h.own.ne_blk hb (by decide)
theorem RT.upd (h:RT w F x k ins old now NA nc) (u:Upd S w w') (hx:¬S x) (hA:∀i,At NA i→¬S i) (hF:∀i,F i→¬S i):RT w' F x k ins old now NA nc:=by
 obtain ⟨⟨IA,ic,OA,oc,h1,h2,h3,h4,h5⟩,h6,h7⟩:=h;exact ⟨⟨IA,ic,OA,oc,h1.upd u hx,h2.upd u (fun i _ q=>hF i q),h3.upd u (fun i _ q=>hF i q),h4,h5⟩,h6.upd u hA,fun i q=>⟨Nat.lt_of_lt_of_le (h7 i q).1 u.size,(h7 i q).2⟩⟩
theorem RT.non (h:RT w F x k ins old now NA nc) (u:Upd Non w w'):RT w' F x k ins old now NA nc:=h.upd u (fun f=>f) (fun _ _ f=>f) (fun _ _ f=>f)
theorem RT.set {nb:Nat} (h:RT w F x k ins old now (some ⟨nb,0,none⟩) nc) (i:Nat) (b:Bool):RT (w.setCell ⟨nb,i,none⟩ (b8 b)) F x k ins old (now.set i b) (some ⟨nb,0,none⟩) nc:=by
 have hne:=h.ne;obtain ⟨⟨IA,ic,OA,oc,h1,h2,h3,h4,h5⟩,h6,h7⟩:=h;have u:=updCell w nb i (b8 b);rw [At.some_] at hne;refine ⟨⟨IA,ic,OA,oc,?_,h2.upd u (fun j _ q e=>(h7 j q).2.2 (At.some_.2 e)),h3.upd u (fun j _ q e=>(h7 j q).2.2 (At.some_.2 e)),h4,h5⟩,?_,fun j q=>⟨Nat.lt_of_lt_of_le (h7 j q).1 u.size,(h7 j q).2⟩⟩
 ·rw [List.length_set];exact h1.upd u hne
 ·rw [List.length_set,←b8s_set];exact h6.set_ i _
theorem RT.push {w2 w3:World} {A3:Option Addr} {c3 m:Nat} {z:List Bool} (h:RT w F x k ins old now NA nc) (u2:Upd Non w w2) (ho:Own w3 5 1 A3 (now.length+m) c3 (b8s now++b8s z)) (hm:z.length=m) (u3:Upd (At NA) w2 w3) (hat:∀i,At A3 i→At NA i∨w.heap.size≤i) :
  RT (w3.setCell ⟨x,3,none⟩ (.slice A3 (now.length+m) c3)) F x k ins old (now++z) A3 c3:=by
 have hlt:=h.lt;have h2:=h.non u2;have hne:=h2.ne;obtain ⟨⟨IA,ic,OA,oc,h1,h2,h3,h4,h5⟩,h6,h7⟩:=h2;have u:=updCell w3 x 3 (.slice A3 (now.length+m) c3);have hl:(now++z).length=now.length+m:=by rw [List.length_append,hm]
 have hb:b8s (now++z)=b8s now++b8s z:=List.map_append
 have hxA:¬At A3 x:=fun q=>by
  rcases hat x q with q | q
  ·exact hne q
  ·omega
 refine ⟨⟨IA,ic,OA,oc,?_,(h2.upd u3 (fun j _ q e=>(h7 j q).2.2 e)).upd u (fun j _ q e=>(h7 j q).2.1 e),(h3.upd u3 (fun j _ q e=>(h7 j q).2.2 e)).upd u (fun j _ q e=>(h7 j q).2.1 e),h4,h5⟩,?_,fun j q=>⟨Nat.lt_of_lt_of_le (h7 j q).1 (Nat.le_trans u3.size u.size),(h7 j q).2.1,fun e=>?_⟩⟩
 ·rw [hl];have:=(h1.upd u3 hne).set_ 3 (.slice A3 (now.length+m) c3);simpa using this
 ·rw [hl,hb];exact ho.upd u (fun j q e=>hxA (by subst e;exact q))
 ·rcases hat j e with e | e
  ·exact (h7 j q).2.2 e
  ·have:=(h.far j q).1;omega
end
theorem bit_u64 (n:Int) (k:Nat):bits .and .u64 (IntKind.u64.wrap n / 2 ^ k) 1 % 256=bW (bI n k):=by
 have hw:IntKind.u64.wrap n=(uW n:Int):=by rw [uW_eq];rfl
 have hlt:uW n<18446744073709551616:=(BitVec.ofInt 64 n).isLt;have hd:(uW n:Int) / 2 ^ k=((uW n / 2 ^ k:Nat):Int):=by rw [Int.natCast_ediv,Int.natCast_pow];rfl
 have hle:uW n / 2 ^ k≤uW n:=Nat.div_le_self _ _;rw [hw,hd,bI_eq,Nat.testBit_eq_decide_div_mod_eq];generalize uW n / 2 ^ k=q at *;have h2:q % 2=0∨q % 2=1:=by omega
 rw [and_one_u64 _ (by omega) (by omega)];rcases h2 with h | h
 ·rw [h];show _=(0:Int);omega
 ·rw [h];show _=(1:Int);omega
theorem rBitOf_c (n:Int) (k:Nat) (hk:k<64) (w:World):Calls Tryz.prog 183 #[.int .i64 n,.int .i64 k] w fun e w'=>e=.returned (b8 (bI n k))∧w'=w:=by
 have hb:=bit_u64 n k;have HB:=h_ hb;clear hb;go_enter Tryz.func183,Tryz.ntmps183
 go_wp2
 go_ret;exact ⟨by unfold b8;rw [←HB.out];rfl,rfl⟩
def cfF (op:Int) (k:Nat) (m a b:Bool):Bool:=if op=15∨op=16 then m&&(a==b) else ordB m a b (decide (k=63∧op≠19))
theorem rCompareFlag_c (op:Int) (ho:15≤op∧op≤19) (k:Nat) (m a b:Bool) (w:World):Calls Tryz.prog 182 #[.int .i64 op,.int .i64 k,b8 m,b8 a,b8 b] w fun e w'=>e=.returned (b8 (cfF op k m a b))∧w'=w:=by
 have h:op=15∨op=16∨op=17∨op=18∨op=19:=by omega
 by_cases hk:k=63
 ·subst hk;rcases h with rfl | rfl | rfl | rfl | rfl <;> cases m <;> cases a <;> cases b
  all_goals
   go_enter Tryz.func182,Tryz.ntmps182;unfold b8 bW
   go_wp2
   go_ret;exact ⟨rfl,rfl⟩
 ·have t63:((k:Int)==63)=false:=by simp;omega
  have hd:∀q:Prop,[Decidable q]→decide (k=63∧q)=false:=fun q _=>dF_ (fun z=>hk z.1)
  have hcf:cfF op k m a b=if op=15∨op=16 then m&&(a==b) else ordB m a b false:=by unfold cfF;rw [hd]
  rw [hcf];clear hk hd hcf;rcases h with rfl | rfl | rfl | rfl | rfl <;> cases m <;> cases a <;> cases b
  all_goals
   go_enter Tryz.func182,Tryz.ntmps182;unfold b8 bW
   go_wp2
   go_ret;exact ⟨rfl,rfl⟩
set_option maxRecDepth 100000 in
theorem rTake_c {w:World} {F:Nat→Prop} {x k:Nat} {ins old now:List Bool} {NA:Option Addr} {nc:Nat} {b:Bool} (h:RT w F x k ins (b::old) now NA nc) :
  Calls Tryz.prog 181 #[.pointer (some ⟨x,0,none⟩)] w fun e w'=>e=.returned (b8 b)∧RT w' F x k ins old now NA nc∧Upd (·=x) w w':=by
 have hne:=h.ne;obtain ⟨⟨IA,ic,OA,oc,h1,h2,h3,h4,h5⟩,h6,h7⟩:=h;obtain ⟨ob,oo,rfl,hF,hlt,hc⟩:=h3.at_ (k:=0) (by simp [b8s]);have hc:w.cell? ⟨ob,oo,none⟩=some (b8 b):=hc;have hxo:¬x=ob:=fun e=>(h7 ob hF).2.1 e.symm
 have c2:=h1.cell 2;have f2:=h1.frozen 2;rw [List.length_cons] at h4 c2;obtain ⟨ol,hol⟩:=nm old.length;rw [hol.out] at c2 h4;have hol1:(1:Int)≤(ol+1:Nat):=by omega
 have hol2:((ol+1:Nat):Int)≤(oc:Int):=by omega
 have H1:=h_ h1;have H2:=h_ h2;have H3:=h_ h3;have HF:=h_ h7;have H6:=h_ h6;have H4:=h_ h4;have H5:=h_ h5;have HFO:=h_ hF
 have HP:Hid (∀A':Option Addr,Sl w F A' (b8s old)→RT (w.setCell ⟨x,2,none⟩ (.slice A' ol (oc - 1))) F x k ins old now NA nc∧Upd (·=x) w (w.setCell ⟨x,2,none⟩ (.slice A' ol (oc - 1)))):=fun A' hA'=>by
  have u:=updCell w x 2 (.slice A' ol (oc - 1));refine ⟨⟨⟨IA,ic,A',oc - 1,?_,H2.out.upd u (fun i _ q e=>(HF.out i q).2.1 e),hA'.upd u (fun i _ q e=>(HF.out i q).2.1 e),by rw [hol.out];have:=H4.out;omega,H5.out⟩,H6.out.upd u (fun i q e=>hne (by subst e;exact q)),fun i q=>⟨Nat.lt_of_lt_of_le (HF.out i q).1 u.size,(HF.out i q).2⟩⟩,u⟩
  have:=H1.out.set_ 2 (.slice A' ol (oc - 1));rw [hol.out];simpa using this
 have hfr:=H3.out.from2 (m:=1) (p:=oc=1) (fun q=>by rw [b8s,List.length_map,List.length_cons,hol.out];omega);have HFR:Hid (Sl w F (if oc=1 then some ⟨ob,oo,none⟩ else some ⟨ob,oo+1,none⟩) (b8s old)):=hfr;unfold b8 at hc ⊢;clear h1 h3 h2 h7 h6 h4 h5 hF hfr;by_cases hoc:oc=1
 ·have HFR2:Hid (Sl w F (some ⟨ob,oo,none⟩) (b8s old)):=by have:=HFR.out;rwa [if_pos hoc] at this
  have HP2:=h_ (HP.out _ HFR2.out);have hol0:ol=0:=by have:=H4.out;omega
  subst hoc hol0;clear HP HFR;go_enter Tryz.func181,Tryz.ntmps181;go_wp2_with fail
  go_ret;exact ⟨rfl,HP2.out.1,HP2.out.2⟩
 ·have HFR2:Hid (Sl w F (some ⟨ob,oo+1,none⟩) (b8s old)):=by have:=HFR.out;rwa [if_neg hoc] at this
  have HP2:=h_ (HP.out _ HFR2.out);clear HP HFR;go_enter Tryz.func181,Tryz.ntmps181;go_wp2_with fail
  go_ret;exact ⟨rfl,HP2.out.1,HP2.out.2⟩
def insF (ins:List Bool) (i:Nat):Bool:=ins.getD i false
theorem bitP_rest {k:Nat} {f:Nat→Bool} {p:Pt} (hs:supF p=true) {old:List Bool} (h:bN p≤old.length):(bitP k f p old).2.1=old.drop (bN p)∧(bitP k f p old).2.2.length=bN p:=by
 obtain ⟨b,now,hn,hb⟩:=bitP_app k f p hs (old.take (bN p)) (by rw [List.length_take];omega);have:=hb (old.drop (bN p));rw [List.take_append_drop] at this;rw [this];exact ⟨rfl,hn⟩
def BitR (w:World) (F:Nat→Prop) (x k:Nat) (ins now:List Bool) (NA:Option Addr) (r:Bool×List Bool×List Bool) (e:Ending) (w':World):Prop :=
 ∃(NA':Option Addr) (nc':Nat),e=.returned (b8 r.1)∧RT w' F x k ins r.2.1 (now++r.2.2) NA' nc'∧(∀i,At NA' i→At NA i∨w.heap.size≤i)∧Upd (fun i=>i=x∨At NA i) w w'
def BitC (fn k:Nat) (p:Pt):Prop :=
 ∀(w:World) (F:Nat→Prop) (x:Nat) (ins old now:List Bool) (NA:Option Addr) (nc:Nat) (KA:Option Addr) (kc:Nat),RT w F x k ins old now NA nc→PtK w F p KA kc→supF p=true→WfP ins.length p→bN p≤old.length→now.length+bN p≤1000000→ins.length≤1000 →
  Calls Tryz.prog fn #[.pointer (some ⟨x,0,none⟩),pv p KA kc] w (BitR w F x k ins now NA (bitP k (insF ins) p old))
structure BS (w0:World) (NA0:Option Addr) (w:World) (F:Nat→Prop) (x k:Nat) (ins old now:List Bool) (NA:Option Addr) (nc:Nat):Prop where
 rt:RT w F x k ins old now NA nc
 at_:∀i,At NA i→At NA0 i∨w0.heap.size≤i
 upd:Upd (fun i=>i=x∨At NA0 i) w0 w
section
variable {w0 w w':World} {F:Nat→Prop} {x k:Nat} {ins old now:List Bool} {NA0 NA:Option Addr} {nc:Nat}
theorem RT.bs (h:RT w F x k ins old now NA nc):BS w NA w F x k ins old now NA nc:=⟨h,fun _ q=>.inl q,Upd.refl⟩
theorem BS.non (h:BS w0 NA0 w F x k ins old now NA nc) (u:Upd Non w w'):BS w0 NA0 w' F x k ins old now NA nc:=⟨h.rt.non u,h.at_,h.upd.then_non u⟩
theorem BS.pt (h:BS w0 NA0 w F x k ins old now NA nc) (h0:∀i,F i→i≠x∧¬At NA0 i) {p:Pt} {KA:Option Addr} {kc:Nat} (hp:PtK w0 F p KA kc):PtK w F p KA kc:=PtK.upd h.upd (fun i _ hF q=>by
 rcases q with q | q
 ·exact (h0 i hF).1 q
 ·exact (h0 i hF).2 q) _ _ _ hp
theorem BS.bit (h:BS w0 NA0 w F x k ins old now NA nc) {r:Bool×List Bool×List Bool} {e:Ending} (hr:BitR w F x k ins now NA r e w'):∃(NA':Option Addr) (nc':Nat),e=.returned (b8 r.1)∧BS w0 NA0 w' F x k ins r.2.1 (now++r.2.2) NA' nc':=by
 obtain ⟨NA',nc',rfl,h1,h2,h3⟩:=hr;refine ⟨NA',nc',rfl,h1,fun i q=>?_,h.upd.trans h3 (fun i hi q=>?_)⟩
 ·rcases h2 i q with q | q
  ·exact h.at_ i q
  ·exact .inr (Nat.le_trans h.upd.size q)
 ·rcases q with q | q
  ·exact .inl q
  ·rcases h.at_ i q with q | q
   ·exact .inr q
   ·omega
theorem BS.take {b:Bool} {e:Ending} (h:BS w0 NA0 w F x k ins (b::old) now NA nc) (hr:e=.returned (b8 b)∧RT w' F x k ins old now NA nc∧Upd (·=x) w w'):e=.returned (b8 b)∧BS w0 NA0 w' F x k ins old now NA nc :=
 ⟨hr.1,hr.2.1,h.at_,h.upd.trans hr.2.2 (fun _ _ q=>.inl q)⟩
theorem BS.push (h:BS w0 NA0 w F x k ins old now NA nc) {w2 w3:World} {A3:Option Addr} {c3 m:Nat} {z:List Bool} (u2:Upd Non w w2) (ho:Own w3 5 1 A3 (now.length+m) c3 (b8s now++b8s z)) (hm:z.length=m) (u3:Upd (At NA) w2 w3) (hat:∀i,At A3 i→At NA i∨i=w2.heap.size) :
  BS w0 NA0 (w3.setCell ⟨x,3,none⟩ (.slice A3 (now.length+m) c3)) F x k ins old (now++z) A3 c3:=by
 have hs:=u2.size;have hs0:=h.upd.size;refine ⟨h.rt.push u2 ho hm u3 (fun i q=>(hat i q).imp id (fun z=>by omega)),fun i q=>?_,(((h.upd.then_non u2).trans u3 (fun i hi q=>?_)).trans (updCell w3 x 3 _) (fun i _ e=>.inl e))⟩
 ·rcases hat i q with q | q
  ·exact h.at_ i q
  ·exact .inr (by omega)
 ·rcases h.at_ i q with q | q
  ·exact .inr q
  ·omega
theorem BS.set {nb:Nat} (h:BS w0 NA0 w F x k ins old now (some ⟨nb,0,none⟩) nc) (i:Nat) (b:Bool):BS w0 NA0 (w.setCell ⟨nb,i,none⟩ (b8 b)) F x k ins old (now.set i b) (some ⟨nb,0,none⟩) nc :=
 ⟨h.rt.set i b,h.at_,h.upd.trans (updCell w nb i _) (fun j hj e=>by
  rcases h.at_ j (At.some_.2 e) with q | q
  ·exact .inr q
  ·omega)⟩
theorem BS.done {now0:List Bool} {r:Bool×List Bool×List Bool} (h:BS w0 NA0 w F x k ins old now NA nc) (ho:r.2.1=old) (hn:now=now0++r.2.2):BitR w0 F x k ins now0 NA0 r (.returned (b8 r.1)) w :=
 ⟨NA,nc,rfl,by rw [ho,←hn];exact h.rt,h.at_,h.upd⟩
theorem BitR.back {w W w':World} {F:Nat→Prop} {x k:Nat} {ins now:List Bool} {NA:Option Addr} {r:Bool×List Bool×List Bool} {e:Ending} (u:Upd Non w W) (h:BitR W F x k ins now NA r e w'):BitR w F x k ins now NA r e w':=by
 obtain ⟨NA',nc',h1,h2,h3,h4⟩:=h;exact ⟨NA',nc',h1,h2,fun i q=>(h3 i q).imp id (fun z=>Nat.le_trans u.size z),(u.mono (fun _ _ f=>f.elim)).trans h4 (fun _ _ q=>q)⟩
theorem BS.cells (h:BS w0 NA0 w F x k ins old now NA nc):∃IA ic OA oc,w.cell? ⟨x,0,none⟩=some (.int .i64 (k:Int))∧w.cell? ⟨x,1,none⟩=some (.slice IA ins.length ic)∧w.cell? ⟨x,2,none⟩=some (.slice OA old.length oc)∧w.cell? ⟨x,3,none⟩=some (.slice NA now.length nc)∧w.frozen? ⟨x,3,none⟩=false∧w.frozen? ⟨x,2,none⟩=false∧Sl w F IA (b8s ins)∧Sl w F OA (b8s old)∧old.length≤oc∧ins.length≤ic:=by
 obtain ⟨IA,ic,OA,oc,h1,h2,h3,h4,h5⟩:=h.rt.blk;exact ⟨IA,ic,OA,oc,h1.cell 0,h1.cell 1,h1.cell 2,h1.cell 3,h1.frozen 3,h1.frozen 2,h2,h3,h4,h5⟩
end
theorem bitL_one {k:Nat} {f:Nat→Bool} {p:Pt} {old:List Bool}:bitL k f [p] old=([(bitP k f p old).1],(bitP k f p old).2.1,(bitP k f p old).2.2):=by simp [bitL]
theorem bitL_two {k:Nat} {f:Nat→Bool} {p q:Pt} {old:List Bool}:bitL k f [p,q] old=([(bitP k f p old).1,(bitP k f q (bitP k f p old).2.1).1],(bitP k f q (bitP k f p old).2.1).2.1,(bitP k f p old).2.2++(bitP k f q (bitP k f p old).2.1).2.2):=by simp [bitL]
theorem bitL_three {k:Nat} {f:Nat→Bool} {p q s:Pt} {old:List Bool}:bitL k f [p,q,s] old=([(bitP k f p old).1,(bitP k f q (bitP k f p old).2.1).1,(bitP k f s (bitP k f q (bitP k f p old).2.1).2.1).1],(bitP k f s (bitP k f q (bitP k f p old).2.1).2.1).2.1,(bitP k f p old).2.2++((bitP k f q (bitP k f p old).2.1).2.2++(bitP k f s (bitP k f q (bitP k f p old).2.1).2.1).2.2)):=by simp [bitL]
theorem kid_at {w:World} {F:Nat→Prop} {p:Pt} {KA:Option Addr} {kc:Nat} (h:PtK w F p KA kc) {i:Nat} {q:Pt} (hi:i<p.kids.length) (e:p.kids[i]=q):∃b o KB kd,KA=some ⟨b,o,none⟩∧w.cell? ⟨b,o+i * 5,none⟩=some (.int .i64 q.v)∧w.cell? ⟨b,o+i * 5+1,none⟩=some (.int .i64 q.op)∧w.cell? ⟨b,o+i * 5+2,none⟩=some (.int .i64 q.imm)∧w.cell? ⟨b,o+i * 5+3,none⟩=some (.int .i64 q.iv)∧w.cell? ⟨b,o+i * 5+4,none⟩=some (.slice KB q.kids.length kd)∧PtK w F q KB kd:=by
 obtain ⟨b,o,e1,_,_,KB,kd,h0,h1,h2,h3,h4,h5⟩:=h.at_ hi;subst e;exact ⟨b,o,KB,kd,e1,h0,h1,h2,h3,h4,h5⟩
theorem set_mid (l adds:List Bool) (z b:Bool):((l++[z])++adds).set l.length b=l++([b]++adds):=by simp
theorem bN_le_bL {q:Pt}:∀{l:List Pt},q∈l→bN q≤bL l
 | [],h=>by cases h
 | x::l,h=>by
  rw [bL];rcases List.mem_cons.1 h with rfl | h
  ·omega
  ·have:=bN_le_bL h;omega
set_option maxRecDepth 100000 in
set_option maxHeartbeats 16000000 in
theorem rCarry_c (k:Nat) (p:Pt) (ho:p.op=4∨p.op=5∨p.op=20) (hv:¬0<p.v) (IH:∀q∈p.kids,BitC 180 k q):BitC 227 k p:=by
 intro w F x ins old now NA nc KA kc hrt hp hs hw hb hn hil;have hsK:=hs;rw [supF_op hv,Bool.and_eq_true] at hsK;have hwI:=(WfP.iff ins.length p).1 hw;have har:=hwI.2.2.1 (by have:=hwI.1;omega);have hown:ownN p.op p.kids=1:=by unfold ownN;rw [if_pos (by omega)]
 have hbn:bN p=1+bL p.kids:=by rw [bN_iff,if_neg hv,hown]
 obtain ⟨c,rest,rfl⟩:∃c rest,old=c::rest:=by
  cases old with
  | nil=>rw [List.length_nil] at hb;omega
  | cons c rest=>exact ⟨c,rest,rfl⟩
 obtain ⟨W,HW⟩:=nm (w.alloc (.cells #[.int .i64 p.v,.int .i64 p.op,.int .i64 p.imm,.int .i64 p.iv,.slice KA p.kids.length kc] 38));have hU:Upd Non w W:=by rw [←HW.out];exact Upd.refl.alloc _
 have e0:=HW.out;have hbk:Blk W w.heap.size 38 #[.int .i64 p.v,.int .i64 p.op,.int .i64 p.imm,.int .i64 p.iv,.slice KA p.kids.length kc]:=by rw [←HW.out];exact Blk.new _ _ _
 have HB0:=h_ (hrt.non hU).bs;have HPT:=h_ (PtK.upd hU (fun _ _ _ f=>f) _ _ _ hp);have HUW:=h_ hU;have HFAR:Hid (∀i,F i→i≠x∧¬At NA i):=fun i q=>(hrt.far i q).2
 have HXL:Hid (x<w.heap.size):=hrt.lt;have HNL:Hid (∀i,At NA i→i<w.heap.size):=fun i q=>hrt.own.lt q
 have HPB:Hid (∀w',Upd (fun i=>i=x∨At NA i) W w'→Blk w' w.heap.size 38 #[.int .i64 p.v,.int .i64 p.op,.int .i64 p.imm,.int .i64 p.iv,.slice KA p.kids.length kc]):=fun w' u=>hbk.upd u (fun q=>by
  rcases q with q | q
  ·have:=HXL.out;omega
  ·have:=HNL.out _ q;omega)
 obtain ⟨pb,hpb⟩:∃b,w.heap.size=b:=⟨_,rfl⟩;rw [hpb] at HPB;have HAR:=h_ har;obtain ⟨kn,Hkn⟩:=nm p.kids.length;rw [Hkn.out] at HPB HAR e0;have CT:=h_ (rTake_c HB0.out.rt);have c1:=(HPB.out W Upd.refl).cell 1;obtain ⟨n,Hn⟩:=nm now.length;rw [Hn.out] at hn;have HIH:=h_ IH;have HW0:=h_ hU.size;have HOWN:=h_ hown;have hn1:n≤1000000:=by omega
 have HHN:=h_ hn;have HHB:=h_ hb;have HBN:=h_ hbn;have HSK:=h_ hsK.2;have HWK:=h_ hwI.2.2.2;unfold pv;rw [Hkn.out];clear har hrt hp hs hw hb hn hsK hwI hown hbn hbk IH;go_enter Tryz.func227,Tryz.ntmps227;go_wp2_with fail
 refine CT.out.mono ?_;rintro e w1 ht;obtain ⟨rfl,hB1⟩:=HB0.out.take ht;obtain ⟨IA,ic,OA,oc,d0,d1,d2,d3,f3,f2,_,_,_,_⟩:=hB1.cells;have HB1:=h_ hB1;have hO1:=hB1.rt.own;rw [Hn.out] at d3 hO1;clear ht hB1 CT
 obtain ⟨q0,Hq0⟩:∃q0,∃h:0<p.kids.length,p.kids[0]=q0:=by
  have h:0<p.kids.length:=by
   rw [Hkn.out,HAR.out];rcases ho with e | e | e <;> rw [e] <;> decide
  exact ⟨_,h,rfl⟩
 have hk0:(0:Int)<(kn:Int):=by have:=Hq0.choose;rw [Hkn.out] at this;omega
 have HM0:Hid (q0∈p.kids):=by obtain ⟨h,e⟩:=Hq0;rw [←e];exact List.getElem_mem h
 go_wp2_with (at_builtin;refine wpList_app rfl rfl T_u8s rfl (hO1.alloc _) rfl (Sl.new _ _ _) rfl (by simp [Value.oneCell']) (by simp only [maxLen];omega) (by omega) ?_)
 intro A3 c3 w3 ho3 hu3 hat3;have hx1:=HB1.out.rt.ne;have hp3:=HB1.out.push (z:=[false]) (m:=1) (Upd.refl.alloc _) (by rw [Hn.out];exact ho3) rfl hu3 (fun i q=>(hat3 i q).imp id (fun z=>by rw [z];simp))
 rw [Hn.out] at hp3;have g3:=u_ d3 ((Upd.refl (S:=Non)).alloc (.cells #[.int .u8 0] 5)) (fun f=>f);have g3':=u_ g3 hu3 hx1
 have hfz:w3.frozen? ⟨x,3,none⟩=false:=by
  obtain ⟨_,_,_,_,h1,_⟩:=(HB1.out.non ((Upd.refl (S:=Non)).alloc (.cells #[.int .u8 0] 5))).rt.blk;exact (h1.upd hu3 hx1).frozen 3
 obtain ⟨W3,HW3⟩:=nm (w3.setCell ⟨x,3,none⟩ (.slice A3 (n+1) c3));rw [HW3.out] at hp3;have HB3:=h_ hp3;clear hp3 ho3 hu3 hat3 g3 hO1 hx1 d0 d1 d2 d3 f3 f2
 go_upto_region 4 with fail
 rw [HW3.out];clear g3' hfz;have hle0:=bN_le_bL HM0.out;have hbn:=HBN.out;have hhb:=HHB.out;have hhn:=HHN.out;rw [List.length_cons] at hhb;obtain ⟨eb,eo,KB,kd,rfl,m0,m1,m2,m3,m4,hq⟩:=kid_at (HB3.out.pt HFAR.out HPT.out) Hq0.choose Hq0.choose_spec;simp only [Nat.zero_mul,Nat.add_zero] at m0 m1 m2 m3 m4;have C1:=h_ (HIH.out q0 HM0.out W3 F x ins rest (now++[false]) A3 c3 KB kd HB3.out.rt hq (List.all_eq_true.1 HSK.out q0 HM0.out) (HWK.out q0 HM0.out) (by omega) (by rw [List.length_append,Hn.out];simp;omega) hil)
 have HRE:=h_ (bitP_rest (k:=k) (f:=insF ins) (List.all_eq_true.1 HSK.out q0 HM0.out) (old:=rest) (by omega));obtain ⟨r0,Hr0⟩:=nm (bitP k (insF ins) q0 rest);rw [Hr0.out] at C1 HRE;have y4:=(HPB.out W3 HB3.out.upd).cell 4;have y1:=(HPB.out W3 HB3.out.upd).cell 1;unfold pv at C1;clear hle0 hbn hhb hhn hq;go_wp2_with fail
 refine C1.out.mono ?_;rintro e w4 hr;obtain ⟨A4,c4,rfl,hB4⟩:=HB3.out.bit hr;obtain ⟨a0,rest1,add0⟩:=r0;simp only at hB4 HRE;have HB4:=h_ hB4;clear hr C1 y4 y1 m0 m1 m2 m3 m4 HB3 HW3 HB1 c1;have HPE:=h_ (fun (r:List Bool×List Bool×List Bool) (hr:bitL k (insF ins) p.kids rest=r)=>(bitP_op (show ¬0<p.v by omega) k (insF ins) (c::rest) (r:=r) (by rw [HOWN.out];exact hr)))
 rw [HOWN.out] at HPE;rcases ho with e | e | e
 ·rw [e] at HAR HPB HPE e0
  obtain ⟨q1,hk2⟩:∃q1,p.kids=[q0,q1]:=by
   obtain ⟨h,e⟩:=Hq0;have hl:p.kids.length=2:=by rw [Hkn.out,HAR.out];rfl
   match p.kids,hl,h,e with
   | [z,y],_,_,e=>exact ⟨y,by rw [show z=q0 from e]⟩
  have hkn2:kn=2:=by rw [HAR.out];rfl
  have hk1:(1:Int)<(kn:Int):=by omega
  have HM1:Hid (q1∈p.kids):=by show _∈_;rw [hk2];simp
  have z1:=(HPB.out w4 HB4.out.upd).cell 1;have z4:=(HPB.out w4 HB4.out.upd).cell 4;obtain ⟨eb2,eo2,KB2,kd2,eK,m0,m1,m2,m3,m4,hq⟩:=kid_at (HB4.out.pt HFAR.out HPT.out) (i:=1) (q:=q1) (by rw [hk2];exact Nat.lt_succ_self 1) (by simp [hk2])
  injection eK with eK
  injection eK with eK1 eK2
  subst eK1 eK2;simp only [Nat.one_mul] at m0 m1 m2 m3 m4;have hbl:bL p.kids=bN q0+bN q1:=by rw [hk2];simp [bL]
  have hbn:=HBN.out;have hhb:=HHB.out;have hhn:=HHN.out;rw [List.length_cons] at hhb;have hre1:=HRE.out.1;have hre2:=HRE.out.2;have hrl:rest1.length=rest.length - bN q0:=by rw [hre1,List.length_drop]
  have C2:=h_ (HIH.out q1 HM1.out w4 F x ins rest1 ((now++[false])++add0) A4 c4 KB2 kd2 HB4.out.rt hq (List.all_eq_true.1 HSK.out q1 HM1.out) (HWK.out q1 HM1.out) (by omega) (by rw [List.length_append,List.length_append,Hn.out,hre2];simp;omega) hil)
  rw [hk2,bitL_two,Hr0.out] at HPE;simp only at HPE;obtain ⟨r1,Hr1⟩:=nm (bitP k (insF ins) q1 rest1);rw [Hr1.out] at C2 HPE;obtain ⟨A4',hA4⟩:∃z,A4=z:=⟨_,rfl⟩;have HB40:=HB4;obtain ⟨L4,HL4⟩:=nm ((now++[false])++add0).length;unfold pv at C2;clear hbl hbn hhb hhn hre1 hre2 hrl hq hkn2 hk2;go_wp2_with fail
  refine C2.out.mono ?_;rintro e5 w5 hr5;obtain ⟨A5,c5,rfl,hB5⟩:=HB40.out.bit hr5;obtain ⟨b1,rest2,add1⟩:=r1;simp only at hB5 HPE;rw [List.append_assoc (now++[false])] at hB5;have HB5:=h_ hB5;have z1':=(HPB.out w5 HB5.out.upd).cell 1;clear hr5 C2 z1 z4 m0 m1 m2 m3 m4 hB5 HB4 HB40;obtain ⟨cyb,hcy⟩:∃b,(a0&&b1 || a0&&c || b1&&c)=b:=⟨_,rfl⟩;have HRX:Hid (bitP k (insF ins) p (c::rest)=(((a0 ^^ b1) ^^ c),rest2,[cyb]++(add0++add1))):=by show _=_;rw [HPE.out _ rfl,←hcy];rfl
  obtain ⟨wx,hwx⟩:∃z,w5=z:=⟨_,rfl⟩;obtain ⟨addx,hax⟩:∃z,add0++add1=z:=⟨_,rfl⟩;obtain ⟨restx,hrx⟩:∃z,rest2=z:=⟨_,rfl⟩;rw [hax,hrx,hwx] at HB5;rw [hax,hrx] at HRX;rw [hwx] at z1' ⊢;have HBX:=HB5;obtain ⟨A4,hA5⟩:∃z,A5=z:=⟨_,rfl⟩;obtain ⟨c4',hc5⟩:∃z,c5=z:=⟨_,rfl⟩;rw [hA5,hc5] at HBX;clear HPE HB5 HPB hax hrx hwx;obtain ⟨nb,rfl⟩:=HBX.out.rt.own.some_ (by rw [List.length_append,List.length_append];simp;omega);obtain ⟨IA,ic,OA,oc,d0,d1,d2,d3,f3,f2,_,_,_,_⟩:=HBX.out.cells;obtain ⟨L,HL⟩:=nm ((now++[false])++addx).length;have hnL:n<L:=by rw [←HL.out,List.length_append,List.length_append,Hn.out];simp;omega
  have hcn:=HBX.out.rt.own.cell_ (i:=n) (by rw [b8s_len,HL.out];exact hnL);have hfn:=HBX.out.rt.own.frozen_ n;have hxn:¬x=nb:=fun e=>HBX.out.rt.ne (At.some_.2 e)
  have hn0:(0:Int)≤(n:Int):=by omega
  have hnL2:(n:Int)<(L:Int):=by omega
  rw [HL.out] at d3
  have HFIN:Hid (∀vb:Bool,bitP k (insF ins) p (c::rest)=(vb,restx,[cyb]++addx)→BitR w F x k ins now NA (bitP k (insF ins) p (c::rest)) (.returned (b8 vb)) (wx.setCell ⟨nb,n,none⟩ (b8 cyb))):=fun vb h=>by
   rw [h];refine BitR.back HUW.out (BS.done (r:=(vb,restx,[cyb]++addx)) (HBX.out.set n cyb) rfl ?_);rw [←Hn.out];exact set_mid now addx false cyb
  have HFI2:=h_ (HFIN.out _ HRX.out);clear d0 d1 d2 f2 HFIN;subst hcy;clear HRX HBX;cases a0 <;> cases c <;> cases b1
  all_goals
   unfold b8 bW;go_wp2_with fail
   go_ret;exact HFI2.out
 ·rw [e] at HAR HPB HPE e0
  obtain ⟨q1,hk2⟩:∃q1,p.kids=[q0,q1]:=by
   obtain ⟨h,e⟩:=Hq0;have hl:p.kids.length=2:=by rw [Hkn.out,HAR.out];rfl
   match p.kids,hl,h,e with
   | [z,y],_,_,e=>exact ⟨y,by rw [show z=q0 from e]⟩
  have hkn2:kn=2:=by rw [HAR.out];rfl
  have hk1:(1:Int)<(kn:Int):=by omega
  have HM1:Hid (q1∈p.kids):=by show _∈_;rw [hk2];simp
  have z1:=(HPB.out w4 HB4.out.upd).cell 1;have z4:=(HPB.out w4 HB4.out.upd).cell 4;obtain ⟨eb2,eo2,KB2,kd2,eK,m0,m1,m2,m3,m4,hq⟩:=kid_at (HB4.out.pt HFAR.out HPT.out) (i:=1) (q:=q1) (by rw [hk2];exact Nat.lt_succ_self 1) (by simp [hk2])
  injection eK with eK
  injection eK with eK1 eK2
  subst eK1 eK2;simp only [Nat.one_mul] at m0 m1 m2 m3 m4;have hbl:bL p.kids=bN q0+bN q1:=by rw [hk2];simp [bL]
  have hbn:=HBN.out;have hhb:=HHB.out;have hhn:=HHN.out;rw [List.length_cons] at hhb;have hre1:=HRE.out.1;have hre2:=HRE.out.2;have hrl:rest1.length=rest.length - bN q0:=by rw [hre1,List.length_drop]
  have C2:=h_ (HIH.out q1 HM1.out w4 F x ins rest1 ((now++[false])++add0) A4 c4 KB2 kd2 HB4.out.rt hq (List.all_eq_true.1 HSK.out q1 HM1.out) (HWK.out q1 HM1.out) (by omega) (by rw [List.length_append,List.length_append,Hn.out,hre2];simp;omega) hil)
  rw [hk2,bitL_two,Hr0.out] at HPE;simp only at HPE;obtain ⟨r1,Hr1⟩:=nm (bitP k (insF ins) q1 rest1);rw [Hr1.out] at C2 HPE;obtain ⟨A4',hA4⟩:∃z,A4=z:=⟨_,rfl⟩;have HB40:=HB4;obtain ⟨L4,HL4⟩:=nm ((now++[false])++add0).length;unfold pv at C2;clear hbl hbn hhb hhn hre1 hre2 hrl hq hkn2 hk2;go_wp2_with fail
  refine C2.out.mono ?_;rintro e5 w5 hr5;obtain ⟨A5,c5,rfl,hB5⟩:=HB40.out.bit hr5;obtain ⟨b1,rest2,add1⟩:=r1;simp only at hB5 HPE;rw [List.append_assoc (now++[false])] at hB5;have HB5:=h_ hB5;have z1':=(HPB.out w5 HB5.out.upd).cell 1;clear hr5 C2 z1 z4 m0 m1 m2 m3 m4 hB5 HB4 HB40;obtain ⟨cyb,hcy⟩:∃b,(!a0&&b1 || !(a0 ^^ b1)&&c)=b:=⟨_,rfl⟩;have HRX:Hid (bitP k (insF ins) p (c::rest)=(((a0 ^^ b1) ^^ c),rest2,[cyb]++(add0++add1))):=by show _=_;rw [HPE.out _ rfl,←hcy];rfl
  obtain ⟨wx,hwx⟩:∃z,w5=z:=⟨_,rfl⟩;obtain ⟨addx,hax⟩:∃z,add0++add1=z:=⟨_,rfl⟩;obtain ⟨restx,hrx⟩:∃z,rest2=z:=⟨_,rfl⟩;rw [hax,hrx,hwx] at HB5;rw [hax,hrx] at HRX;rw [hwx] at z1' ⊢;have HBX:=HB5;obtain ⟨A4,hA5⟩:∃z,A5=z:=⟨_,rfl⟩;obtain ⟨c4',hc5⟩:∃z,c5=z:=⟨_,rfl⟩;rw [hA5,hc5] at HBX;clear HPE HB5 HPB hax hrx hwx
  cases hcb:cyb with
  | false =>
   rw [hcb] at HRX hcy
   have HFI2:Hid (BitR w F x k ins now NA (bitP k (insF ins) p (c::rest)) (.returned (b8 ((a0 ^^ b1) ^^ c))) wx):=by
    show BitR _ _ _ _ _ _ _ _ _ _;rw [HRX.out];exact BitR.back HUW.out (BS.done (r:=(((a0 ^^ b1) ^^ c),restx,[false]++addx)) HBX.out rfl (by rw [List.append_assoc]))
   clear HRX HBX;cases a0 <;> cases c <;> cases b1 <;> first | (cases hcy) | skip
   all_goals
    unfold b8 bW at HFI2 ⊢;go_wp2_with fail
    go_ret;exact HFI2.out
  | true =>
   rw [hcb] at HRX hcy;subst hcb;obtain ⟨cyb,hcb⟩:∃b,true=b:=⟨_,rfl⟩;rw [hcb] at HRX;obtain ⟨nb,rfl⟩:=HBX.out.rt.own.some_ (by rw [List.length_append,List.length_append];simp;omega);obtain ⟨IA,ic,OA,oc,d0,d1,d2,d3,f3,f2,_,_,_,_⟩:=HBX.out.cells;obtain ⟨L,HL⟩:=nm ((now++[false])++addx).length;have hnL:n<L:=by rw [←HL.out,List.length_append,List.length_append,Hn.out];simp;omega
   have hcn:=HBX.out.rt.own.cell_ (i:=n) (by rw [b8s_len,HL.out];exact hnL);have hfn:=HBX.out.rt.own.frozen_ n;have hxn:¬x=nb:=fun e=>HBX.out.rt.ne (At.some_.2 e)
   have hn0:(0:Int)≤(n:Int):=by omega
   have hnL2:(n:Int)<(L:Int):=by omega
   rw [HL.out] at d3
   have HFIN:Hid (∀vb:Bool,bitP k (insF ins) p (c::rest)=(vb,restx,[cyb]++addx)→BitR w F x k ins now NA (bitP k (insF ins) p (c::rest)) (.returned (b8 vb)) (wx.setCell ⟨nb,n,none⟩ (b8 cyb))):=fun vb h=>by
    rw [h];refine BitR.back HUW.out (BS.done (r:=(vb,restx,[cyb]++addx)) (HBX.out.set n cyb) rfl ?_);rw [←Hn.out];exact set_mid now addx false cyb
   have HFI2:=h_ (HFIN.out _ HRX.out);clear d0 d1 d2 f2 HFIN;subst hcb;clear HRX HBX;cases a0 <;> cases c <;> cases b1 <;> first | (cases hcy) | skip
   all_goals
    unfold b8 bW;go_wp2_with fail
    go_ret;exact HFI2.out
 ·rw [e] at HAR HPB HPE e0
  have hk1:p.kids=[q0]:=by
   obtain ⟨h,e⟩:=Hq0;have hl:p.kids.length=1:=by rw [Hkn.out,HAR.out];rfl
   match p.kids,hl,h,e with
   | [z],_,_,e=>rw [show z=q0 from e]
  have z1:=(HPB.out w4 HB4.out.upd).cell 1;rw [hk1,bitL_one,Hr0.out] at HPE;obtain ⟨cyb,hcy⟩:∃b,(!a0&&c)=b:=⟨_,rfl⟩;have HRX:Hid (bitP k (insF ins) p (c::rest)=((!a0 ^^ c),rest1,[cyb]++add0)):=by show _=_;rw [HPE.out _ rfl,←hcy];rfl
  obtain ⟨wx,hwx⟩:∃z,w4=z:=⟨_,rfl⟩;obtain ⟨addx,hax⟩:∃z,add0=z:=⟨_,rfl⟩;obtain ⟨restx,hrx⟩:∃z,rest1=z:=⟨_,rfl⟩;rw [hax,hrx,hwx] at HB4;rw [hax,hrx] at HRX;rw [hwx] at z1 ⊢;have HBX:=HB4;clear HPE hk1 HB4 HPB;obtain ⟨nb,rfl⟩:=HBX.out.rt.own.some_ (by rw [List.length_append,List.length_append];simp;omega);obtain ⟨IA,ic,OA,oc,d0,d1,d2,d3,f3,f2,_,_,_,_⟩:=HBX.out.cells;obtain ⟨L,HL⟩:=nm ((now++[false])++addx).length;have hnL:n<L:=by rw [←HL.out,List.length_append,List.length_append,Hn.out];simp;omega
  have hcn:=HBX.out.rt.own.cell_ (i:=n) (by rw [b8s_len,HL.out];exact hnL);have hfn:=HBX.out.rt.own.frozen_ n;have hxn:¬x=nb:=fun e=>HBX.out.rt.ne (At.some_.2 e)
  have hn0:(0:Int)≤(n:Int):=by omega
  have hnL2:(n:Int)<(L:Int):=by omega
  rw [HL.out] at d3
  have HFIN:Hid (∀vb:Bool,bitP k (insF ins) p (c::rest)=(vb,restx,[cyb]++addx)→BitR w F x k ins now NA (bitP k (insF ins) p (c::rest)) (.returned (b8 vb)) (wx.setCell ⟨nb,n,none⟩ (b8 cyb))):=fun vb h=>by
   rw [h];refine BitR.back HUW.out (BS.done (r:=(vb,restx,[cyb]++addx)) (HBX.out.set n cyb) rfl ?_);rw [←Hn.out];exact set_mid now addx false cyb
  have HFI2:=h_ (HFIN.out _ HRX.out);clear d0 d1 d2 f2 HFIN;subst hcy;clear HRX HBX;cases a0 <;> cases c
  all_goals
   unfold b8 bW;go_wp2_with fail
   go_ret;exact HFI2.out
theorem RT.setOld {w:World} {F:Nat→Prop} {x k:Nat} {ins old now old':List Bool} {NA A':Option Addr} {nc ol oc':Nat} (h:RT w F x k ins old now NA nc) (hs:Sl w F A' (b8s old')) (hl:old'.length=ol) (hle:ol≤oc'):RT (w.setCell ⟨x,2,none⟩ (.slice A' ol oc')) F x k ins old' now NA nc:=by
 subst hl;have hne:=h.ne;obtain ⟨⟨IA,ic,OA,oc,h1,h2,_,_,h5⟩,h6,h7⟩:=h;have u:=updCell w x 2 (.slice A' old'.length oc');refine ⟨⟨IA,ic,A',oc',?_,h2.upd u (fun i _ q e=>(h7 i q).2.1 e),hs.upd u (fun i _ q e=>(h7 i q).2.1 e),hle,h5⟩,h6.upd u (fun i q e=>hne (by subst e;exact q)),fun i q=>⟨Nat.lt_of_lt_of_le (h7 i q).1 u.size,(h7 i q).2⟩⟩
 have:=h1.set_ 2 (.slice A' old'.length oc');simpa using this
theorem BS.setOld {w0 w:World} {F:Nat→Prop} {x k:Nat} {ins old now old':List Bool} {NA0 NA A':Option Addr} {nc ol oc':Nat} (h:BS w0 NA0 w F x k ins old now NA nc) (hs:Sl w F A' (b8s old')) (hl:old'.length=ol) (hle:ol≤oc'):BS w0 NA0 (w.setCell ⟨x,2,none⟩ (.slice A' ol oc')) F x k ins old' now NA nc :=
 ⟨h.rt.setOld hs hl hle,h.at_,h.upd.trans (updCell w x 2 _) (fun _ _ e=>.inl e)⟩
theorem b8s_take (l:List Bool) (m:Nat):(b8s l).take m=b8s (l.take m):=by unfold b8s;rw [List.map_take]
theorem b8s_drop (l:List Bool) (m:Nat):(b8s l).drop m=b8s (l.drop m):=by unfold b8s;rw [List.map_drop]
theorem BS.bit2 {w0 w w':World} {F:Nat→Prop} {x k:Nat} {ins old now old' now':List Bool} {NA0 NA NA':Option Addr} {nc nc':Nat} (h:BS w0 NA0 w F x k ins old now NA nc) (hr:RT w' F x k ins old' now' NA' nc') (ha:∀i,At NA' i→At NA i∨w.heap.size≤i) (hu:Upd (fun i=>i=x∨At NA i) w w'):BS w0 NA0 w' F x k ins old' now' NA' nc':=by
 refine ⟨hr,fun i q=>?_,h.upd.trans hu (fun i hi q=>?_)⟩
 ·rcases ha i q with q | q
  ·exact h.at_ i q
  ·exact .inr (Nat.le_trans h.upd.size q)
 ·rcases q with q | q
  ·exact .inl q
  ·rcases h.at_ i q with q | q
   ·exact .inr q
   ·omega
theorem BS.far {w0 w w':World} {F S:Nat→Prop} {x k:Nat} {ins old now:List Bool} {NA0 NA:Option Addr} {nc:Nat} (h:BS w0 NA0 w F x k ins old now NA nc) (u:Upd S w w') (hx:¬S x) (hA:∀i,At NA i→¬S i) (hF:∀i,F i→¬S i) (h0:∀i,i<w0.heap.size→¬S i):BS w0 NA0 w' F x k ins old now NA nc :=
 ⟨h.rt.upd u hx hA hF,h.at_,h.upd.trans u (fun i hi q=>(h0 i hi q).elim)⟩
def lay (l z m:List Bool) (j:Nat):List Bool:=l++(m.take j++z.drop j)
theorem lay_zero (l z m:List Bool):lay l z m 0=l++z:=by simp [lay]
theorem lay_all (l z m:List Bool) (h:z.length=m.length):lay l z m m.length=l++m:=by simp [lay,h]
theorem lay_set {l z m:List Bool} {j:Nat} (hm:j<m.length) (hz:j<z.length):(lay l z m j).set (l.length+j) (m.getD j false)=lay l z m (j+1):=by
 unfold lay;rw [List.set_append_right _ _ (by omega),Nat.add_sub_cancel_left,List.set_append_right _ _ (by rw [List.length_take];omega),List.length_take,Nat.min_eq_left (by omega),Nat.sub_self,List.take_succ_eq_append_getElem hm,List.append_assoc,getD_of hm]
 congr 2
 rw [List.drop_eq_getElem_cons hz];rfl
theorem lay_len {l z m:List Bool} {j:Nat} (hm:j≤m.length) (hz:z.length=m.length):(lay l z m j).length=l.length+m.length:=by
 unfold lay;rw [List.length_append,List.length_append,List.length_take,List.length_drop];omega
theorem lay_app {l z m adds:List Bool} {j:Nat} {b:Bool} (hm:j≤m.length) (hz:z.length=m.length) (hj:j<m.length):(lay l z m j++adds).set (l.length+j) b=(lay l z m j).set (l.length+j) b++adds:=by
 rw [List.set_append_left _ _ (by rw [lay_len hm hz];omega)]
set_option maxRecDepth 100000 in
set_option maxHeartbeats 16000000 in
theorem rShift_c (k:Nat) (p:Pt) (ho:p.op=12) (hv:¬0<p.v) (IH:∀q∈p.kids,BitC 180 k q):BitC 228 k p:=by
 intro w F x ins old now NA nc KA kc hrt hp hs hw hb hn hil;have hsK:=hs;rw [supF_op hv,Bool.and_eq_true] at hsK;have hwI:=(WfP.iff ins.length p).1 hw;have har:=hwI.2.2.1 (by have:=hwI.1;omega);rw [ho] at har
 obtain ⟨q0,q1,hk2⟩:∃q0 q1,p.kids=[q0,q1]:=by
  match p.kids,har with
  | [a,b],_=>exact ⟨a,b,rfl⟩
 obtain ⟨m,Hm⟩:=nm (ownN p.op p.kids);have hm64:m<64:=by rw [←Hm.out];exact ownN_lt _ _
 have hq1:q1.op=1∧bN q1=0∧∀old,bitP k (insF ins) q1 old=(bI q1.imm k,old,[])∨0<q1.v:=by
  have h1:=hsK.1;unfold supO at h1;have h1:=of_decide_eq_true h1;rw [ho,hk2] at h1;have h2:q1.op=1:=by simp [kid] at h1;omega
  have w1:=(WfP.iff ins.length q1).1 (hwI.2.2.2 q1 (by rw [hk2];simp));refine ⟨h2,?_,fun old=>?_⟩
  ·rw [bN_iff]
   split
   ·rfl
   ·rename_i hv1;have hk0:q1.kids=[]:=List.length_eq_zero_iff.1 (by rw [w1.2.2.1 (by omega),h2];rfl);rw [hk0,h2];rfl
  ·by_cases hv1:0<q1.v
   ·exact .inr hv1
   ·have hk0:q1.kids=[]:=List.length_eq_zero_iff.1 (by rw [w1.2.2.1 (by omega),h2];rfl);exact .inl (by rw [bitP_op hv1 k (insF ins) old (r:=([],old,[])) (by rw [hk0,h2];rfl),h2];rfl)
 have hbn:bN p=m+bN q0:=by rw [bN_iff,if_neg hv,Hm.out,hk2];simp [bL,hq1.2.1]
 have ha:=and63 q1.imm;have hom:(q1.imm % 64).toNat=m:=by rw [←Hm.out,ho,hk2];rfl
 rw [hom] at ha;obtain ⟨W,HW⟩:=nm (w.alloc (.cells #[.int .i64 p.v,.int .i64 p.op,.int .i64 p.imm,.int .i64 p.iv,.slice KA p.kids.length kc] 38));have hU:Upd Non w W:=by rw [←HW.out];exact Upd.refl.alloc _
 have e0:=HW.out;have hbk:Blk W w.heap.size 38 #[.int .i64 p.v,.int .i64 p.op,.int .i64 p.imm,.int .i64 p.iv,.slice KA p.kids.length kc]:=by rw [←HW.out];exact Blk.new _ _ _
 have HB0:=h_ (hrt.non hU).bs;have HPT:=h_ (PtK.upd hU (fun _ _ _ f=>f) _ _ _ hp);have HUW:=h_ hU;have HFAR:Hid (∀i,F i→i≠x∧¬At NA i):=fun i q=>(hrt.far i q).2
 have HXL:Hid (x<w.heap.size):=hrt.lt;have HNL:Hid (∀i,At NA i→i<w.heap.size):=fun i q=>hrt.own.lt q
 have HPB:Hid (∀w',Upd (fun i=>i=x∨At NA i) W w'→Blk w' w.heap.size 38 #[.int .i64 p.v,.int .i64 p.op,.int .i64 p.imm,.int .i64 p.iv,.slice KA p.kids.length kc]):=fun w' u=>hbk.upd u (fun q=>by
  rcases q with q | q
  ·have:=HXL.out;omega
  ·have:=HNL.out _ q;omega)
 obtain ⟨pb,hpb⟩:∃b,w.heap.size=b:=⟨_,rfl⟩;rw [hpb] at HPB;obtain ⟨kn,Hkn⟩:=nm p.kids.length;have hkn2:kn=2:=by rw [←Hkn.out,hk2];rfl
 have hk1:(1:Int)<(kn:Int):=by omega
 have hk0:(0:Int)<(kn:Int):=by omega
 rw [Hkn.out,ho] at HPB e0;have HOP:=h_ ho;obtain ⟨eb,eo,KB,kd,rfl,_,_,m2,_,_,_⟩:=kid_at (HB0.out.pt HFAR.out HPT.out) (i:=1) (q:=q1) (by rw [hk2];exact Nat.lt_succ_self 1) (by simp [hk2])
 simp only [Nat.one_mul] at m2;have c4:=(HPB.out W Upd.refl).cell 4;obtain ⟨n,Hn⟩:=nm now.length;obtain ⟨ol,Hol⟩:=nm old.length;rw [Hn.out] at hn;rw [Hol.out] at hb;have HIH:=h_ IH;have hn1:n≤1000000:=by omega
 have hmol:m≤ol:=by omega
 have HHN:=h_ hn;have HHB:=h_ hb;have HBN:=h_ hbn;have HK2:=h_ hk2;have HQ1:=h_ hq1;have HSK:=h_ hsK.2;have HWK:=h_ hwI.2.2.2;have HV:=h_ hv;unfold pv;rw [Hkn.out,ho];obtain ⟨IA,ic,OA,oc,d0,d1,d2,d3,f3,f2,_,hSO,hoc,_⟩:=HB0.out.cells;rw [Hol.out] at d2 hoc;rw [Hn.out] at d3;have HSO:=h_ hSO;have hmo0:(0:Int)≤(m:Int):=by omega
 have hmo1:(m:Int)≤(oc:Int):=by omega
 have hmo2:(m:Int)≤(ol:Int):=by omega
 have hmo3:(ol:Int)≤(oc:Int):=by omega
 have hsT:=HSO.out.take_ m;have hsTl:((b8s old).take m).length=m:=by rw [List.length_take,b8s_len,Hol.out];omega
 clear ho har hrt hp hs hw hb hn hsK hwI hbn hbk IH hk2 hq1 hkn2 hv hom;go_enter Tryz.func228,Tryz.ntmps228
 go_upto_region 2 with fail
 obtain ⟨W1,HW1⟩:=nm (W.alloc (.cells #[] 5));have u1:Upd Non W W1:=by rw [←HW1.out];exact Upd.refl.alloc _
 have hoE:Own W1 5 1 (some ⟨W.heap.size,0,none⟩) 0 0 []:=by rw [←HW1.out];exact own_empty _ _ _
 have hsT1:=hsT.upd u1 (fun _ _ _ f=>f);have hxW:x<W.heap.size:=HB0.out.rt.lt
 go_wp2_with (at_builtin;rw [HW1.out];refine wpList_app rfl rfl T_u8s rfl hoE rfl hsT1 (by rw [hsTl,Nat.mul_one]) (by intro u hu;have hu:=List.mem_of_mem_take hu;unfold b8s at hu;obtain ⟨z,_,rfl⟩:=List.mem_map.1 hu;rfl) (by simp only [maxLen];omega) (by omega) ?_)
 intro A2 c2 w2 ho2 hu2 hat2;rw [b8s_take] at ho2;have HU2:Hid (Upd Non W w2):=u1.trans hu2 (fun i hi q=>by rw [At.some_] at q;omega);have HB2:=h_ (HB0.out.non HU2.out);have HQ2:=h_ ho2
 have HQF:Hid (∀i,At A2 i→W.heap.size≤i):=fun i q=>by
  rcases hat2 i q with q | q
  ·rw [At.some_] at q;omega
  ·have:=u1.size;omega
 clear ho2 hu2 hat2 hoE hsT1 hsT hsTl u1 d0 d1 d2 d3 f3 f2 hxW c4 m2;obtain ⟨IA,ic,OA,oc,d0,d1,d2,d3,f3,f2,_,hSO,hoc,_⟩:=HB2.out.cells;rw [Hol.out] at d2 hoc;rw [Hn.out] at d3;have hmo1:(m:Int)≤(oc:Int):=by omega
 have hmo3:(ol:Int)≤(oc:Int):=by omega
 have HCUT:=h_ (hSO.cut m oc (by rw [b8s_len,Hol.out];exact hoc));have HOC:Hid (ol≤oc):=hoc
 go_upto_region 3 with fail
 go_cut [] (fun wx=>∃z:Unit,z=()∧Hid (BS W NA wx F x k ins (old.drop m) now NA nc)∧Hid (Upd (·=x) w2 wx))
 case first =>
  have HP:Hid (∀A' oc',Sl w2 F A' ((b8s old).drop m)→ol - m≤oc'→BS W NA (w2.setCell ⟨x,2,none⟩ (.slice A' (ol - m) oc')) F x k ins (old.drop m) now NA nc):=fun A' oc' h1 h2=>HB2.out.setOld (by rw [←b8s_drop];exact h1) (by rw [List.length_drop,Hol.out]) h2
  by_cases hom:oc=m
  ·have hol0:ol=m:=by have:=HOC.out;omega
   have HC2:=HCUT.out;rw [if_pos hom] at HC2;have HP2:=h_ (HP.out OA 0 HC2 (by omega));rw [hol0,Nat.sub_self] at HP2;subst hom;subst hol0;clear HC2 HP HCUT;go_wp2_with fail
   go_meet
   case rel=>exact ⟨(),trivial,HP2.out,updCell _ _ _ _⟩
  ·have HC2:=HCUT.out;rw [if_neg hom] at HC2;have HP2:=h_ (HP.out _ (oc - m) HC2 (by omega));clear HC2 HP HCUT;go_wp2_with fail
   go_meet
   case rel=>exact ⟨(),trivial,HP2.out,updCell _ _ _ _⟩
 case rest =>
  obtain ⟨w3,rfl⟩:∃w3:World,w3=wc:=⟨_,rfl⟩;obtain ⟨_,_,HB3,HU3⟩:=hcut;clear d0 d1 d2 d3 f3 f2 hSO hoc HCUT;obtain ⟨IA,ic,OA,oc,d0,d1,d2,d3,f3,f2,_,_,_,_⟩:=HB3.out.cells;rw [Hn.out] at d3;have HQ3:=h_ (HQ2.out.upd HU3.out (fun i q e=>by subst e;have:=HQF.out _ q;have:=HB0.out.rt.lt;omega));have hO3:=HB3.out.rt.own;rw [Hn.out] at hO3
  have hz8:∀i z,Tryz.prog.info? 5=some i→i.zero=some z→z.cells=#[b8 false]:=fun i z h1 h2=>by
   have h3:(Tryz.prog.info? 5).map (fun i=>i.zero.map (·.cells))=some (some #[b8 false]):=by kernel_rfl
   rw [h1] at h3;simp only [Option.map_some,h2,Option.some.injEq] at h3;exact h3
  have HZ8:=h_ hz8;clear hz8
  go_wp2_with (at_builtin;refine wpList_appz rfl rfl T_u8s (kn:=.i64) rfl HZ8.out rfl rfl hO3 rfl (by simp only [maxLen];omega) (by omega) ?_)
  intro A4 c4 w4 ho4 hu4 hat4;have hx3:=HB3.out.rt.ne;have hp4:=HB3.out.push (z:=List.replicate m false) (m:=m) Upd.refl (by rw [Hn.out];simpa [b8s] using ho4) (by rw [List.length_replicate]) hu4 hat4;rw [Hn.out] at hp4;have g3:=u_ d3 hu4 hx3
  have hfz:w4.frozen? ⟨x,3,none⟩=false:=by
   obtain ⟨_,_,_,_,h1,_⟩:=HB3.out.rt.blk;exact (h1.upd hu4 hx3).frozen 3
  obtain ⟨W4,HW4⟩:=nm (w4.setCell ⟨x,3,none⟩ (.slice A4 (n+m) c4));rw [HW4.out] at hp4;have HB4:=h_ hp4
  have HQA:Hid (∀i,At A2 i→¬At A4 i):=fun i q h=>by
   have h1:=HQ3.out.lt q;have h2:=HQF.out i q;rcases hat4 i h with h | h
   ·have:=HNL.out _ h;have:=HUW.out.size;omega
   ·omega
  have HQ4:=h_ ((HQ3.out.upd hu4 (fun i q h=>by have h1:=HQF.out i q;have h2:=HNL.out _ h;have h3:=HUW.out.size;omega)).upd (updCell w4 x 3 (.slice A4 (n+m) c4)) (fun i q e=>by subst e;have:=HQF.out _ q;have:=HB0.out.rt.lt;omega))
  rw [HW4.out] at HQ4;clear hp4 ho4 hu4 hat4 hO3 hx3 d0 d1 d2 d3 f3 f2
  go_upto_region 6 with fail
  rw [HW4.out];clear g3 hfz;have HM0:Hid (q0∈p.kids):=by show _∈_;rw [HK2.out];simp
  have y4:=(HPB.out W4 HB4.out.upd).cell 4;obtain ⟨eb2,eo2,KB2,kd2,eK,m0,m1,m2,m3,m4,hq⟩:=kid_at (HB4.out.pt HFAR.out HPT.out) (i:=0) (q:=q0) (by rw [HK2.out];exact Nat.succ_pos 1) (by simp [HK2.out])
  injection eK with eK
  injection eK with eK1 eK2
  subst eK1 eK2;simp only [Nat.zero_mul,Nat.add_zero] at m0 m1 m2 m3 m4;have hbn:=HBN.out;have hhb:=HHB.out;have hhn:=HHN.out;have hdl:(old.drop m).length=ol - m:=by rw [List.length_drop,Hol.out]
  have C1:=h_ (HIH.out q0 HM0.out W4 F x ins (old.drop m) (now++List.replicate m false) A4 c4 KB2 kd2 HB4.out.rt hq (List.all_eq_true.1 HSK.out q0 HM0.out) (HWK.out q0 HM0.out) (by omega) (by rw [List.length_append,Hn.out,List.length_replicate];omega) hil)
  have HRE:=h_ (bitP_rest (k:=k) (f:=insF ins) (List.all_eq_true.1 HSK.out q0 HM0.out) (old:=old.drop m) (by omega));obtain ⟨r0,Hr0⟩:=nm (bitP k (insF ins) q0 (old.drop m));rw [Hr0.out] at C1 HRE;unfold pv at C1;clear hq hbn hhb hhn hdl
  go_wp2_with (at_builtin;fail)
  refine C1.out.mono ?_;rintro e w5 hr;obtain ⟨A5,c5,rfl,hrt5,hat5,hu5⟩:=hr;have hB5:=HB4.out.bit2 hrt5 hat5 hu5;obtain ⟨a0,rest1,add0⟩:=r0;simp only at hB5 HRE;have HB5:=h_ hB5
  have hQ5:=HQ4.out.upd hu5 (fun i q h=>by
   rcases h with h | h
   ·subst h;have:=HQF.out _ q;have:=HB0.out.rt.lt;omega
   ·exact HQA.out i q h)
  have HQA5:Hid (∀i,At A2 i→¬At A5 i):=fun i q h=>by
   rcases hat5 i h with h | h
   ·exact HQA.out i q h
   ·have:=HQ4.out.lt q;omega
  have HPE:=h_ (bitP_op (show ¬0<p.v by have:=HV.out;omega) k (insF ins) old (r:=([a0,(bitP k (insF ins) q1 rest1).1],rest1,add0)) (by
   rw [Hm.out,HK2.out,bitL_two,Hr0.out]
   have h1:(bitP k (insF ins) q1 rest1).2=(rest1,[]):=by
    rcases HQ1.out.2.2 rest1 with h | h
    ·rw [h]
    ·rw [bitP_var h]
   simp only [h1,List.append_nil]))
  rw [Hm.out,HOP.out] at HPE;obtain ⟨q,HqL⟩:=nm (old.take m++[a0]);have HRX:Hid (bitP k (insF ins) p old=(q.headD false,rest1,q.tail++add0)):=by show _=_;rw [HPE.out,←HqL.out];rfl
  obtain ⟨vq,Hvq⟩:=nm (q.headD false);rw [Hvq.out] at HRX;have hql:q.length=m+1:=by rw [←HqL.out,List.length_append,List.length_take,Hol.out];simp;omega
  clear hB5 hrt5 hat5 hu5 C1 m0 m1 m2 m3 m4 y4 HPE;unfold b8
  go_wp2_with (at_builtin;refine wpList_app rfl rfl T_u8s rfl (hQ5.alloc _) rfl (Sl.new _ _ _) rfl (by simp [Value.oneCell']) (by simp only [maxLen];omega) (by omega) ?_)
  intro A6 c6 w6 ho6 hu6 hat6;have hoq:Own w6 5 1 A6 (m+1) c6 (b8s q):=by rw [←HqL.out];unfold b8s;rw [List.map_append];exact ho6
  have HB6:=h_ ((HB5.out.non ((Upd.refl (S:=Non)).alloc (.cells #[.int .u8 (bW a0)] 5))).far hu6 (fun h=>by have:=HQF.out _ h;have:=HB0.out.rt.lt;omega) (fun i h h2=>HQA5.out i h2 h) (fun i h h2=>by have h1:=HQF.out _ h2;have h3:=(HB0.out.rt.far i h).1;omega) (fun i hi h2=>by have h1:=HQF.out _ h2;omega))
  have HQ6:=h_ hoq
  have HQA6:Hid (∀i,At A6 i→¬At A5 i):=fun i h h2=>by
   rcases hat6 i h with h | h
   ·exact HQA5.out i h h2
   ·have h3:=HB5.out.rt.own.lt h2;omega
  have HQF6:Hid (∀i,At A6 i→W.heap.size≤i):=fun i h=>by
   rcases hat6 i h with h | h
   ·exact HQF.out i h
   ·have:=HB5.out.upd.size;omega
  clear ho6 hu6 hat6 hoq hQ5;obtain ⟨qb,rfl⟩:=HQ6.out.some_ (Nat.succ_pos m);have hm0i:(0:Int)≤(m:Int):=by omega
  go_wp2_with fail
  go_loopg [8] m (fun gg s8 wr=>∃j:Nat,Hid (gg=m - j)∧j≤m∧s8=.int .i64 j∧Hid (BS W NA wr F x k ins rest1 (lay now (List.replicate m false) q.tail j++add0) A5 c5)∧Hid (Own wr 5 1 (some ⟨qb,0,none⟩) (m+1) c6 (b8s q)))
  case atStart=>exact ⟨0,rfl,by omega,rfl,by rw [lay_zero];exact HB6.out,HQ6.out⟩
  case round =>
   obtain ⟨j,Hg,hj,rfl,HBj,HQj⟩:=hrel;by_cases hjm:j<m
   ·have htl:q.tail.length=m:=by rw [List.length_tail,hql];rfl
    have hll:(lay now (List.replicate m false) q.tail j).length=n+m:=by rw [lay_len (by rw [htl];exact hj) (by rw [List.length_replicate,htl]),Hn.out,htl]
    obtain ⟨nb,rfl⟩:=HBj.out.rt.own.some_ (by rw [List.length_append,hll];omega);obtain ⟨IA,ic,OA,oc,d0,d1,d2,d3,f3,f2,_,_,_,_⟩:=HBj.out.cells;have hLL:n+j<(lay now (List.replicate m false) q.tail j++add0).length:=by rw [List.length_append,hll];omega
    obtain ⟨vc,hcn⟩:∃v,wr.cell? ⟨nb,n+j,none⟩=some v:=⟨_,HBj.out.rt.own.cell_ (i:=n+j) (by rw [b8s_len];exact hLL)⟩;have hfn:=HBj.out.rt.own.frozen_ (n+j);obtain ⟨vj,Hvj⟩:=nm (q.tail.getD j false);have hqj:=HQj.out.cell_ (i:=j+1) (by rw [b8s_len,hql];omega)
    have hqv:(b8s q)[j+1]'(by rw [b8s_len,hql];omega)=.int .u8 (bW vj):=by
     have h1:(b8s q)[j+1]'(by rw [b8s_len,hql];omega)=b8 (q[j+1]'(by omega)):=by unfold b8s;rw [List.getElem_map]
     rw [h1,←Hvj.out,getD_of (by omega:j<q.tail.length),List.getElem_tail];rfl
    rw [hqv] at hqj;have hst:=(HBj.out.non (Upd.refl (S:=Non) (w:=wr)).drew).set (n+j) vj;rw [←Hn.out,lay_app (by rw [htl];exact hj) (by rw [List.length_replicate,htl]) (by rw [htl];exact hjm),←Hvj.out,lay_set (by rw [htl];exact hjm) (by rw [List.length_replicate];exact hjm),Hvj.out,Hn.out] at hst
    have hqn:¬qb=nb:=fun e=>HQA6.out qb (At.some_.2 rfl) (At.some_.2 e)
    have hxn:¬x=nb:=fun e=>HBj.out.rt.ne (At.some_.2 e)
    have HQst:=h_ ((HQj.out.upd (Upd.refl (S:=Non) (w:=wr)).drew (fun _ _ f=>f)).upd (updCell wr.drew nb (n+j) (b8 vj)) (fun i h e=>by rw [At.some_] at h;exact hqn (h.symm.trans e)))
    have HST:=h_ hst;obtain ⟨L,HL⟩:=nm (lay now (List.replicate m false) q.tail j++add0).length;rw [HL.out] at d3 hLL;have q1:IntKind.i64.wrap ((n:Int)+(j:Int))=((n+j:Nat):Int):=by rw [i64w_of (by unfold I64;omega)];omega
    have q2:IntKind.i64.wrap ((j:Int)+1)=((j+1:Nat):Int):=by rw [i64w_of (by unfold I64;omega)];omega
    have q3:(0:Int)≤((n+j:Nat):Int):=by omega
    have q4:((n+j:Nat):Int)<(L:Int):=by omega
    have q5:(0:Int)≤((j+1:Nat):Int):=by omega
    have q6:((j+1:Nat):Int)<(m:Int)+1:=by omega
    have hjm2:(j:Int)<(m:Int):=by omega
    obtain ⟨nj,Hnj⟩:=nm (n+j);rw [Hnj.out] at q1 q3 q4 hcn hfn HST HQst;obtain ⟨j1,Hj1⟩:=nm (j+1);rw [Hj1.out] at q2 q5 q6 hqj;clear hst hqv htl hll d0 d1 d2 f3 f2;unfold b8 at HST HQst
    go_upto_region 10 with fail
    refine wp_region_held_drew (S:=fun w'=>w'.cell? ⟨x,3,none⟩=some (.slice (some ⟨nb,0,none⟩) L c5)∧w'.cell? ⟨qb,j1,none⟩=some (.int .u8 (bW vj))) (by kernel_rfl) ⟨d3,hqj⟩ (fun hHeld=>?_)
    refine wpT 0 ?_;(try simp only [y_,z_]);refine wpT 1 ?_;(try simp only [y_,z_]);refine wpT 2 ?_;(try simp only [y_,z_]);refine wpT 3 ?_;(try simp only [y_,z_]);refine wpT 4 ?_;(try simp only [y_,z_]);refine wpT 5 ?_;(try simp only [y_,z_]);refine wpT 6 ?_;(try simp only [y_,z_]);refine wpT 7 ?_;(try simp only [y_,z_]);refine wpT 8 ?_;(try simp only [y_,z_]);refine wpT 9 ?_;(try simp only [y_,z_]);refine wpT 10 ?_;(try simp only [y_,z_]);refine wpT 11 ?_;(try simp only [y_,z_]);refine wpT 12 ?_;(try simp only [y_,z_]);refine aR_ (rs:=[13]) (by kernel_rfl) (by simp) ?_;refine aC_ rfl (fun K hK=>?_) aN_;go_simp;refine hK.out _ _ ?_ (fun hHeld=>?_)
    ·exact ⟨by rw [World.cell?_of_block (w:=wr.drew) ((updCell wr.drew nb nj _).block x HBj.out.rt.lt hxn)];exact d3,by rw [World.cell?_of_block (w:=wr.drew) ((updCell wr.drew nb nj _).block qb (HQj.out.lt (At.some_.2 rfl)) hqn)];exact hqj⟩
    clear hK K;(try simp only [y_,z_]);refine aD_ (by kernel_rfl) ?_ _;clear hHeld hqj d3 hcn hfn;go_wp2_with fail
    go_roundg (m - (j+1))
    case measure=>rw [Hg.out];omega
    case rel=>exact ⟨j+1,rfl,by omega,by first | (rw [Hj1.out];done) | (rw [←Hj1.out];go_num) | go_num,HST.out,HQst.out⟩
   ·obtain rfl:m=j:=by omega
    have hc0:=HQj.out.cell_ (i:=0) (by rw [b8s_len,hql];exact Nat.succ_pos m)
    have hq0:(b8s q)[0]'(by rw [b8s_len,hql];exact Nat.succ_pos m)=.int .u8 (bW vq):=by
     rw [←Hvq.out]
     cases q with
     | nil=>cases hql
     | cons z zs=>rfl
    rw [hq0] at hc0;have hm1:(0:Int)<((m+1:Nat):Int):=by omega
    have HFIN:Hid (BitR w F x k ins now NA (bitP k (insF ins) p old) (.returned (b8 vq)) wr):=by
     show BitR _ _ _ _ _ _ _ _ _ _;rw [HRX.out];refine BitR.back HUW.out (BS.done (r:=(vq,rest1,q.tail++add0)) HBj.out rfl ?_);have hl:q.tail.length=m:=by rw [List.length_tail,hql];rfl
     have:=lay_all now (List.replicate m false) q.tail (by rw [List.length_replicate,hl]);rw [hl] at this;rw [this,List.append_assoc]
    unfold b8 at HFIN;clear hq0;go_wp2_with fail
    go_ret;exact HFIN.out
theorem BS.kid {W w:World} {F:Nat→Prop} {x k:Nat} {ins old now:List Bool} {NA A:Option Addr} {c:Nat} (h:BS W NA w F x k ins old now A c) (h0:∀i,F i→i≠x∧¬At NA i) {p q:Pt} {KA:Option Addr} {kc:Nat} (hp:PtK W F p KA kc) {i:Nat} (hi:i<p.kids.length) (e:p.kids[i]=q) (IH:BitC 180 k q) (hs:supF q=true) (hw:WfP ins.length q) (hb:bN q≤old.length) (hn:now.length+bN q≤1000000) (hil:ins.length≤1000)
  {r:Bool×List Bool×List Bool} (hr:bitP k (insF ins) q old=r) :
  ∃b o KB kd,KA=some ⟨b,o,none⟩∧w.cell? ⟨b,o+i * 5,none⟩=some (.int .i64 q.v)∧w.cell? ⟨b,o+i * 5+1,none⟩=some (.int .i64 q.op)∧w.cell? ⟨b,o+i * 5+2,none⟩=some (.int .i64 q.imm)∧w.cell? ⟨b,o+i * 5+3,none⟩=some (.int .i64 q.iv)∧w.cell? ⟨b,o+i * 5+4,none⟩=some (.slice KB q.kids.length kd) ∧
   Hid (Calls Tryz.prog 180 #[.pointer (some ⟨x,0,none⟩),.agg #[.int .i64 q.v,.int .i64 q.op,.int .i64 q.imm,.int .i64 q.iv,.slice KB q.kids.length kd]] w fun e w'=>∃A' c',e=.returned (b8 r.1)∧BS W NA w' F x k ins r.2.1 (now++r.2.2) A' c'):=by
 subst hr;obtain ⟨b,o,KB,kd,e1,g0,g1,g2,g3,g4,hq⟩:=kid_at (h.pt h0 hp) hi e;refine ⟨b,o,KB,kd,e1,g0,g1,g2,g3,g4,?_⟩;exact (IH w F x ins old now A c KB kd h.rt hq hs hw hb hn hil).mono fun e w' hr=>h.bit hr
theorem BS.takeC {W w:World} {F:Nat→Prop} {x k:Nat} {ins old now:List Bool} {NA A:Option Addr} {c:Nat} {b:Bool} (h:BS W NA w F x k ins (b::old) now A c):Hid (Calls Tryz.prog 181 #[.pointer (some ⟨x,0,none⟩)] w fun e w'=>e=.returned (b8 b)∧BS W NA w' F x k ins old now A c) :=
 (rTake_c h.rt).mono fun _ _ hr=>h.take hr
theorem b8_and (a b:Bool):bits .and .u8 (bW a) (bW b)=bW (a&&b):=by cases a <;> cases b <;> decide
theorem b8_or (a b:Bool):bits .or .u8 (bW a) (bW b)=bW (a || b):=by cases a <;> cases b <;> decide
theorem b8_xor (a b:Bool):bits .xor .u8 (bW a) (bW b)=bW (a ^^ b):=by cases a <;> cases b <;> decide
set_option maxRecDepth 100000 in
set_option maxHeartbeats 16000000 in
theorem rBit_var (k:Nat) (p:Pt) (hv:0<p.v):BitC 180 k p:=by
 intro w F x ins old now NA nc KA kc hrt hp hs hw hb hn hil;have hwI:=(WfP.iff ins.length p).1 hw;obtain ⟨W,HW⟩:=nm (w.alloc (.cells #[.int .i64 p.v,.int .i64 p.op,.int .i64 p.imm,.int .i64 p.iv,.slice KA p.kids.length kc] 38));have hU:Upd Non w W:=by rw [←HW.out];exact Upd.refl.alloc _
 have e0:=HW.out;have hbk:Blk W w.heap.size 38 #[.int .i64 p.v,.int .i64 p.op,.int .i64 p.imm,.int .i64 p.iv,.slice KA p.kids.length kc]:=by rw [←HW.out];exact Blk.new _ _ _
 have HB0:=h_ (hrt.non hU).bs;have HPT:=h_ (PtK.upd hU (fun _ _ _ f=>f) _ _ _ hp);have HUW:=h_ hU;have HFAR:Hid (∀i,F i→i≠x∧¬At NA i):=fun i q=>(hrt.far i q).2
 have HXL:Hid (x<w.heap.size):=hrt.lt;have HNL:Hid (∀i,At NA i→i<w.heap.size):=fun i q=>hrt.own.lt q
 have HPB:Hid (∀w',Upd (fun i=>i=x∨At NA i) W w'→Blk w' w.heap.size 38 #[.int .i64 p.v,.int .i64 p.op,.int .i64 p.imm,.int .i64 p.iv,.slice KA p.kids.length kc]):=fun w' u=>hbk.upd u (fun q=>by
  rcases q with q | q
  ·have:=HXL.out;omega
  ·have:=HNL.out _ q;omega)
 obtain ⟨pb,hpb⟩:∃b,w.heap.size=b:=⟨_,rfl⟩;rw [hpb] at HPB;have hvl:(p.v - 1).toNat<ins.length:=by have:=hwI.2.1;omega
 obtain ⟨IA,ic,OA,oc,d0,d1,d2,d3,f3,f2,hSI,_,_,hic⟩:=HB0.out.cells;obtain ⟨ib,io,rfl,_,_,hci⟩:=hSI.at_ (k:=(p.v - 1).toNat) (by rw [b8s_len];exact hvl)
 have hcv:(b8s ins)[(p.v - 1).toNat]'(by rw [b8s_len];exact hvl)=b8 (insF ins (p.v - 1).toNat):=by
  unfold insF;rw [getD_of hvl];unfold b8s;rw [List.getElem_map]
 rw [hcv] at hci
 have HR:Hid (BitR w F x k ins now NA (bitP k (insF ins) p old) (.returned (b8 (insF ins (p.v - 1).toNat))) W.drew):=by
  show BitR _ _ _ _ _ _ _ _ _ _;rw [bitP_var hv];exact BitR.back HUW.out (BS.done (r:=(insF ins (p.v - 1).toNat,old,[])) (HB0.out.non Upd.refl.drew) rfl (by rw [List.append_nil]))
 have c0:W.cell? ⟨pb,0,none⟩=some (.int .i64 p.v):=(HPB.out W Upd.refl).cell 0;obtain ⟨v,Hv⟩:=nm p.v;rw [Hv.out] at HR hci hv e0 hvl c0;obtain ⟨m,hm⟩:∃m:Nat,v=((m+1:Nat):Int):=⟨(v - 1).toNat,by omega⟩;subst hm;rw [show (((m+1:Nat):Int) - 1).toNat=m by omega] at HR hci hvl;obtain ⟨vb,Hvb⟩:=nm (insF ins m);rw [Hvb.out] at HR hci;obtain ⟨il,Hil⟩:=nm ins.length;rw [Hil.out] at d1 hvl hil;have tv:decide (((m+1:Nat):Int) > 0)=true:=dT_ (by omega);obtain ⟨VV,HVV⟩:=nm (((m+1:Nat):Int));have q1:IntKind.i64.wrap (VV - 1)=(m:Int):=by rw [←HVV.out,i64w_of (by unfold I64;omega)];omega
 have q2:(0:Int)≤(m:Int):=by omega
 have q3:(m:Int)<(il:Int):=by omega
 rw [HVV.out] at c0 tv e0;unfold pv;rw [Hv.out,HVV.out];unfold b8 at HR hci;clear hrt hp hs hw hb hn hwI hbk hcv hSI hv d0 d2 d3 f3 f2;go_enter Tryz.func180,Tryz.ntmps180
 go_upto_region 2 with fail
 refine wp_region_held_drew (S:=fun w'=>w'.cell? ⟨x,1,none⟩=some (.slice (some ⟨ib,io,none⟩) il ic)∧w'.cell? ⟨pb,0,none⟩=some (.int .i64 VV)∧w'.cell? ⟨ib,io+m,none⟩=some (.int .u8 (bW vb))) (by kernel_rfl) ⟨d1,c0,hci⟩ (fun hHeld=>?_)
 refine wpT 0 ?_;(try simp only [y_,z_]);refine wpT 1 ?_;(try simp only [y_,z_]);refine wpT 2 ?_;(try simp only [y_,z_]);refine wpT 3 ?_;(try simp only [y_,z_]);refine wpT 4 ?_;(try simp only [y_,z_]);refine wpT 5 ?_;(try simp only [y_,z_]);refine wpT 6 ?_;(try simp only [y_,z_]);refine wpT 7 ?_;(try simp only [y_,z_]);refine wpT 8 ?_;(try simp only [y_,z_]);refine wpT 9 ?_;(try simp only [y_,z_]);refine aD_ (by kernel_rfl) ?_ _;go_wp2_with fail
 go_ret;exact HR.out
set_option maxRecDepth 100000 in
set_option maxHeartbeats 16000000 in
theorem rBit_const (k:Nat) (hk:k<64) (p:Pt) (hv:¬0<p.v) (ho:p.op=1):BitC 180 k p:=by
 intro w F x ins old now NA nc KA kc hrt hp hs hw hb hn hil;have hwI:=(WfP.iff ins.length p).1 hw;obtain ⟨W,HW⟩:=nm (w.alloc (.cells #[.int .i64 p.v,.int .i64 p.op,.int .i64 p.imm,.int .i64 p.iv,.slice KA p.kids.length kc] 38));have hU:Upd Non w W:=by rw [←HW.out];exact Upd.refl.alloc _
 have e0:=HW.out;have hbk:Blk W w.heap.size 38 #[.int .i64 p.v,.int .i64 p.op,.int .i64 p.imm,.int .i64 p.iv,.slice KA p.kids.length kc]:=by rw [←HW.out];exact Blk.new _ _ _
 have HB0:=h_ (hrt.non hU).bs;have HPT:=h_ (PtK.upd hU (fun _ _ _ f=>f) _ _ _ hp);have HUW:=h_ hU;have HFAR:Hid (∀i,F i→i≠x∧¬At NA i):=fun i q=>(hrt.far i q).2
 have HXL:Hid (x<w.heap.size):=hrt.lt;have HNL:Hid (∀i,At NA i→i<w.heap.size):=fun i q=>hrt.own.lt q
 have HPB:Hid (∀w',Upd (fun i=>i=x∨At NA i) W w'→Blk w' w.heap.size 38 #[.int .i64 p.v,.int .i64 p.op,.int .i64 p.imm,.int .i64 p.iv,.slice KA p.kids.length kc]):=fun w' u=>hbk.upd u (fun q=>by
  rcases q with q | q
  ·have:=HXL.out;omega
  ·have:=HNL.out _ q;omega)
 obtain ⟨pb,hpb⟩:∃b,w.heap.size=b:=⟨_,rfl⟩;rw [hpb] at HPB;have c0:W.cell? ⟨pb,0,none⟩=some (.int .i64 p.v):=(HPB.out W Upd.refl).cell 0;have c1:W.cell? ⟨pb,1,none⟩=some (.int .i64 p.op):=(HPB.out W Upd.refl).cell 1;have tv:decide (p.v > 0)=false:=dF_ (by omega);have HPE:=h_ (fun (r:List Bool×List Bool×List Bool) (hr:bitL k (insF ins) p.kids (old.drop (ownN p.op p.kids))=r)=>bitP_op hv k (insF ins) old (r:=r) hr)
 have har:=hwI.2.2.1 (by have:=hwI.1;omega);rw [supF_op hv,Bool.and_eq_true] at hs;have HSK:=h_ hs.2;have HWK:=h_ hwI.2.2.2;have hbn:bN p=ownN p.op p.kids+bL p.kids:=by rw [bN_iff,if_neg hv]
 obtain ⟨n,Hn⟩:=nm now.length;obtain ⟨ol,Hol⟩:=nm old.length;rw [Hn.out] at hn;rw [Hol.out] at hb;have HIL:Hid (ins.length≤1000):=hil;rw [ho] at har HPE c1 e0 HPB;have hk0:p.kids=[]:=List.length_eq_zero_iff.1 har
 have HR:Hid (BitR w F x k ins now NA (bitP k (insF ins) p old) (.returned (b8 (bI p.imm k))) W.drew):=by
  show BitR _ _ _ _ _ _ _ _ _ _;rw [HPE.out ([],old,[]) (by rw [hk0];rfl)];exact BitR.back HUW.out (BS.done (r:=(bI p.imm k,old,[])) (HB0.out.non Upd.refl.drew) rfl (by rw [List.append_nil]))
 have c2:W.cell? ⟨pb,2,none⟩=some (.int .i64 p.imm):=(HPB.out W Upd.refl).cell 2;obtain ⟨IA,ic,OA,oc,d0,d1,d2,d3,f3,f2,_,_,_,_⟩:=HB0.out.cells;have CB:=h_ (fun w'=>rBitOf_c p.imm k hk w');obtain ⟨vb,Hvb⟩:=nm (bI p.imm k);rw [Hvb.out] at HR CB;unfold pv;rw [ho];unfold b8 at HR CB;clear hrt hp hs hw hb hn hwI hbk har hbn d1 d2 d3 f3 f2 ho hk0;go_enter Tryz.func180,Tryz.ntmps180
 go_upto_region 5 with fail
 refine wp_region_held_drew (S:=fun w'=>w'.cell? ⟨x,0,none⟩=some (.int .i64 (k:Int))∧w'.cell? ⟨pb,2,none⟩=some (.int .i64 p.imm)) (by kernel_rfl) ⟨d0,c2⟩ (fun hHeld=>?_)
 refine wpT 0 ?_;(try simp only [y_,z_]);refine wpT 1 ?_;(try simp only [y_,z_]);refine wpT 2 ?_;(try simp only [y_,z_]);refine wpT 3 ?_;(try simp only [y_,z_]);refine wpT 4 ?_;(try simp only [y_,z_]);refine wpT 5 ?_;(try simp only [y_,z_]);refine aR_ (rs:=[6]) (by kernel_rfl) (by simp) ?_;refine aC_ rfl (fun K hK=>?_) aN_;go_simp;refine (CB.out _).mono ?_;rintro e w1 ⟨rfl,hw1⟩;subst hw1;go_wp2_with fail
 refine hK.out _ _ ?_ (fun hHeld=>?_)
 ·exact hHeld
 clear hK K;(try simp only [y_,z_]);refine wpT 7 ?_;(try simp only [y_,z_]);refine aD_ (by kernel_rfl) ?_ _;go_wp2_with fail
 go_ret;exact HR.out
set_option maxRecDepth 100000 in
set_option maxHeartbeats 16000000 in
theorem rBit_not (k:Nat) (p:Pt) (hv:¬0<p.v) (ho:p.op=21) (IH:∀q∈p.kids,BitC 180 k q):BitC 180 k p:=by
 intro w F x ins old now NA nc KA kc hrt hp hs hw hb hn hil;have hwI:=(WfP.iff ins.length p).1 hw;obtain ⟨W,HW⟩:=nm (w.alloc (.cells #[.int .i64 p.v,.int .i64 p.op,.int .i64 p.imm,.int .i64 p.iv,.slice KA p.kids.length kc] 38));have hU:Upd Non w W:=by rw [←HW.out];exact Upd.refl.alloc _
 have e0:=HW.out;have hbk:Blk W w.heap.size 38 #[.int .i64 p.v,.int .i64 p.op,.int .i64 p.imm,.int .i64 p.iv,.slice KA p.kids.length kc]:=by rw [←HW.out];exact Blk.new _ _ _
 have HB0:=h_ (hrt.non hU).bs;have HPT:=h_ (PtK.upd hU (fun _ _ _ f=>f) _ _ _ hp);have HUW:=h_ hU;have HFAR:Hid (∀i,F i→i≠x∧¬At NA i):=fun i q=>(hrt.far i q).2
 have HXL:Hid (x<w.heap.size):=hrt.lt;have HNL:Hid (∀i,At NA i→i<w.heap.size):=fun i q=>hrt.own.lt q
 have HPB:Hid (∀w',Upd (fun i=>i=x∨At NA i) W w'→Blk w' w.heap.size 38 #[.int .i64 p.v,.int .i64 p.op,.int .i64 p.imm,.int .i64 p.iv,.slice KA p.kids.length kc]):=fun w' u=>hbk.upd u (fun q=>by
  rcases q with q | q
  ·have:=HXL.out;omega
  ·have:=HNL.out _ q;omega)
 obtain ⟨pb,hpb⟩:∃b,w.heap.size=b:=⟨_,rfl⟩;rw [hpb] at HPB;have c0:W.cell? ⟨pb,0,none⟩=some (.int .i64 p.v):=(HPB.out W Upd.refl).cell 0;have c1:W.cell? ⟨pb,1,none⟩=some (.int .i64 p.op):=(HPB.out W Upd.refl).cell 1;have tv:decide (p.v > 0)=false:=dF_ (by omega);have HPE:=h_ (fun (r:List Bool×List Bool×List Bool) (hr:bitL k (insF ins) p.kids (old.drop (ownN p.op p.kids))=r)=>bitP_op hv k (insF ins) old (r:=r) hr)
 have har:=hwI.2.2.1 (by have:=hwI.1;omega);rw [supF_op hv,Bool.and_eq_true] at hs;have HSK:=h_ hs.2;have HWK:=h_ hwI.2.2.2;have hbn:bN p=ownN p.op p.kids+bL p.kids:=by rw [bN_iff,if_neg hv]
 obtain ⟨n,Hn⟩:=nm now.length;obtain ⟨ol,Hol⟩:=nm old.length;rw [Hn.out] at hn;rw [Hol.out] at hb;have HIL:Hid (ins.length≤1000):=hil;have hown:ownN p.op p.kids=0:=by rw [ho];rfl
 rw [hown] at hbn;rw [ho] at har HPE c1 e0 HPB
 obtain ⟨q0,hk1⟩:∃q0,p.kids=[q0]:=by
  match p.kids,har with
  | [a],_=>exact ⟨a,rfl⟩
 have hbl:bL p.kids=bN q0:=by rw [hk1];simp [bL]
 obtain ⟨r0,Hr0⟩:=nm (bitP k (insF ins) q0 old);obtain ⟨kn,Hkn⟩:=nm p.kids.length;have hkn1:kn=1:=by rw [←Hkn.out,hk1];rfl
 have hkn0:(0:Int)<(kn:Int):=by omega
 have c4:W.cell? ⟨pb,4,none⟩=some (.slice KA p.kids.length kc):=(HPB.out W Upd.refl).cell 4;rw [Hkn.out] at HPB e0 c4;obtain ⟨eb,eo,KB,kd,rfl,m0,m1,m2,m3,m4,C1⟩:=HB0.out.kid HFAR.out HPT.out (i:=0) (q:=q0) (by rw [hk1];exact Nat.succ_pos 0) (by simp [hk1]) (IH q0 (by rw [hk1];simp)) (List.all_eq_true.1 HSK.out q0 (by rw [hk1];simp)) (HWK.out q0 (by rw [hk1];simp)) (by rw [Hol.out];omega) (by rw [Hn.out];omega) hil Hr0.out
 simp only [Nat.zero_mul,Nat.add_zero] at m0 m1 m2 m3 m4;obtain ⟨a0,rest0,add0⟩:=r0;simp only at C1
 have HRX:Hid (bitP k (insF ins) p old=(!a0,rest0,add0)):=by
  show _=_;rw [HPE.out ([a0],rest0,add0) (by rw [show ownN 21 p.kids=0 from rfl,List.drop_zero,hk1,bitL_one,Hr0.out])];rfl
 unfold pv;rw [Hkn.out,ho];unfold b8 at C1;clear hrt hp hs hw hb hn hwI hbk har hbn ho hk1 hbl hown HPE hkn1;go_enter Tryz.func180,Tryz.ntmps180;go_wp2_with fail
 refine C1.out.mono ?_;rintro e w1 ⟨A1,k1,rfl,hB1⟩
 have HFIN:Hid (BitR w F x k ins now NA (bitP k (insF ins) p old) (.returned (b8 (!a0))) w1):=by
  show BitR _ _ _ _ _ _ _ _ _ _;rw [HRX.out];exact BitR.back HUW.out (BS.done (r:=(!a0,rest0,add0)) hB1 rfl rfl)
 clear hB1 C1 HRX;cases a0
 all_goals
  unfold b8 bW at HFIN;unfold bW;go_wp2_with fail
  go_ret;exact HFIN.out
set_option maxRecDepth 100000 in
set_option maxHeartbeats 16000000 in
theorem rBit_carry (k:Nat) (p:Pt) (hv:¬0<p.v) (ho:p.op=4∨p.op=5∨p.op=20) (IH:∀q∈p.kids,BitC 180 k q):BitC 180 k p:=by
 intro w F x ins old now NA nc KA kc hrt hp hs hw hb hn hil;have hwI:=(WfP.iff ins.length p).1 hw;obtain ⟨W,HW⟩:=nm (w.alloc (.cells #[.int .i64 p.v,.int .i64 p.op,.int .i64 p.imm,.int .i64 p.iv,.slice KA p.kids.length kc] 38));have hU:Upd Non w W:=by rw [←HW.out];exact Upd.refl.alloc _
 have e0:=HW.out;have hbk:Blk W w.heap.size 38 #[.int .i64 p.v,.int .i64 p.op,.int .i64 p.imm,.int .i64 p.iv,.slice KA p.kids.length kc]:=by rw [←HW.out];exact Blk.new _ _ _
 have HB0:=h_ (hrt.non hU).bs;have HPT:=h_ (PtK.upd hU (fun _ _ _ f=>f) _ _ _ hp);have HUW:=h_ hU;have HFAR:Hid (∀i,F i→i≠x∧¬At NA i):=fun i q=>(hrt.far i q).2
 have HXL:Hid (x<w.heap.size):=hrt.lt;have HNL:Hid (∀i,At NA i→i<w.heap.size):=fun i q=>hrt.own.lt q
 have HPB:Hid (∀w',Upd (fun i=>i=x∨At NA i) W w'→Blk w' w.heap.size 38 #[.int .i64 p.v,.int .i64 p.op,.int .i64 p.imm,.int .i64 p.iv,.slice KA p.kids.length kc]):=fun w' u=>hbk.upd u (fun q=>by
  rcases q with q | q
  ·have:=HXL.out;omega
  ·have:=HNL.out _ q;omega)
 obtain ⟨pb,hpb⟩:∃b,w.heap.size=b:=⟨_,rfl⟩;rw [hpb] at HPB;have hz:Blk W pb 38 #[.int .i64 p.v,.int .i64 p.op,.int .i64 p.imm,.int .i64 p.iv,.slice KA p.kids.length kc]:=HPB.out W Upd.refl;have c0:W.cell? ⟨pb,0,none⟩=some (.int .i64 p.v):=hz.cell 0;have c1:W.cell? ⟨pb,1,none⟩=some (.int .i64 p.op):=hz.cell 1;have c2:W.cell? ⟨pb,2,none⟩=some (.int .i64 p.imm):=hz.cell 2;have c3:W.cell? ⟨pb,3,none⟩=some (.int .i64 p.iv):=hz.cell 3;have c4:W.cell? ⟨pb,4,none⟩=some (.slice KA p.kids.length kc):=hz.cell 4;have tv:decide (p.v > 0)=false:=dF_ (by omega);have CC:=h_ (rCarry_c k p ho hv IH W F x ins old now NA nc KA kc HB0.out.rt HPT.out hs hw hb hn hil);unfold pv at CC ⊢;obtain ⟨op,Hop⟩:=nm p.op;rw [Hop.out] at ho c1 e0 CC HPB;rw [Hop.out];clear hrt hp hs hw hb hn hwI hbk hz;rcases ho with e | e | e <;>
 ·subst e;go_enter Tryz.func180,Tryz.ntmps180;go_wp2_with fail
  refine CC.out.mono ?_;rintro e w1 hr;obtain ⟨A1,k1,rfl,h1,h2,h3⟩:=hr;have HFIN:Hid (BitR w F x k ins now NA (bitP k (insF ins) p old) (.returned (b8 (bitP k (insF ins) p old).1)) w1):=BitR.back HUW.out ⟨A1,k1,rfl,h1,h2,h3⟩
  clear h1 h2 h3 CC;obtain ⟨vb,Hvb⟩:=nm (bitP k (insF ins) p old).1;rw [Hvb.out] at HFIN ⊢;unfold b8 at HFIN ⊢;go_wp2_with fail
  go_ret;exact HFIN.out
set_option maxRecDepth 100000 in
set_option maxHeartbeats 16000000 in
theorem rBit_shift (k:Nat) (p:Pt) (hv:¬0<p.v) (ho:p.op=12) (IH:∀q∈p.kids,BitC 180 k q):BitC 180 k p:=by
 intro w F x ins old now NA nc KA kc hrt hp hs hw hb hn hil;have hwI:=(WfP.iff ins.length p).1 hw;obtain ⟨W,HW⟩:=nm (w.alloc (.cells #[.int .i64 p.v,.int .i64 p.op,.int .i64 p.imm,.int .i64 p.iv,.slice KA p.kids.length kc] 38));have hU:Upd Non w W:=by rw [←HW.out];exact Upd.refl.alloc _
 have e0:=HW.out;have hbk:Blk W w.heap.size 38 #[.int .i64 p.v,.int .i64 p.op,.int .i64 p.imm,.int .i64 p.iv,.slice KA p.kids.length kc]:=by rw [←HW.out];exact Blk.new _ _ _
 have HB0:=h_ (hrt.non hU).bs;have HPT:=h_ (PtK.upd hU (fun _ _ _ f=>f) _ _ _ hp);have HUW:=h_ hU;have HFAR:Hid (∀i,F i→i≠x∧¬At NA i):=fun i q=>(hrt.far i q).2
 have HXL:Hid (x<w.heap.size):=hrt.lt;have HNL:Hid (∀i,At NA i→i<w.heap.size):=fun i q=>hrt.own.lt q
 have HPB:Hid (∀w',Upd (fun i=>i=x∨At NA i) W w'→Blk w' w.heap.size 38 #[.int .i64 p.v,.int .i64 p.op,.int .i64 p.imm,.int .i64 p.iv,.slice KA p.kids.length kc]):=fun w' u=>hbk.upd u (fun q=>by
  rcases q with q | q
  ·have:=HXL.out;omega
  ·have:=HNL.out _ q;omega)
 obtain ⟨pb,hpb⟩:∃b,w.heap.size=b:=⟨_,rfl⟩;rw [hpb] at HPB;have hz:Blk W pb 38 #[.int .i64 p.v,.int .i64 p.op,.int .i64 p.imm,.int .i64 p.iv,.slice KA p.kids.length kc]:=HPB.out W Upd.refl;have c0:W.cell? ⟨pb,0,none⟩=some (.int .i64 p.v):=hz.cell 0;have c1:W.cell? ⟨pb,1,none⟩=some (.int .i64 p.op):=hz.cell 1;have c2:W.cell? ⟨pb,2,none⟩=some (.int .i64 p.imm):=hz.cell 2;have c3:W.cell? ⟨pb,3,none⟩=some (.int .i64 p.iv):=hz.cell 3;have c4:W.cell? ⟨pb,4,none⟩=some (.slice KA p.kids.length kc):=hz.cell 4;have tv:decide (p.v > 0)=false:=dF_ (by omega);have CC:=h_ (rShift_c k p ho hv IH W F x ins old now NA nc KA kc HB0.out.rt HPT.out hs hw hb hn hil);unfold pv at CC ⊢;rw [ho] at c1 e0 CC HPB;rw [ho];clear hrt hp hs hw hb hn hwI hbk hz ho;go_enter Tryz.func180,Tryz.ntmps180;go_wp2_with fail
 refine CC.out.mono ?_;rintro e w1 hr;obtain ⟨A1,k1,rfl,h1,h2,h3⟩:=hr;have HFIN:Hid (BitR w F x k ins now NA (bitP k (insF ins) p old) (.returned (b8 (bitP k (insF ins) p old).1)) w1):=BitR.back HUW.out ⟨A1,k1,rfl,h1,h2,h3⟩
 clear h1 h2 h3 CC;obtain ⟨vb,Hvb⟩:=nm (bitP k (insF ins) p old).1;rw [Hvb.out] at HFIN ⊢;unfold b8 at HFIN ⊢;go_wp2_with fail
 go_ret;exact HFIN.out
set_option maxRecDepth 100000 in
set_option maxHeartbeats 16000000 in
theorem rBit_two (k:Nat) (p:Pt) (hv:¬0<p.v) (ho:p.op=9∨p.op=10∨p.op=11) (IH:∀q∈p.kids,BitC 180 k q):BitC 180 k p:=by
 intro w F x ins old now NA nc KA kc hrt hp hs hw hb hn hil;have hwI:=(WfP.iff ins.length p).1 hw;obtain ⟨W,HW⟩:=nm (w.alloc (.cells #[.int .i64 p.v,.int .i64 p.op,.int .i64 p.imm,.int .i64 p.iv,.slice KA p.kids.length kc] 38));have hU:Upd Non w W:=by rw [←HW.out];exact Upd.refl.alloc _
 have e0:=HW.out;have hbk:Blk W w.heap.size 38 #[.int .i64 p.v,.int .i64 p.op,.int .i64 p.imm,.int .i64 p.iv,.slice KA p.kids.length kc]:=by rw [←HW.out];exact Blk.new _ _ _
 have HB0:=h_ (hrt.non hU).bs;have HPT:=h_ (PtK.upd hU (fun _ _ _ f=>f) _ _ _ hp);have HUW:=h_ hU;have HFAR:Hid (∀i,F i→i≠x∧¬At NA i):=fun i q=>(hrt.far i q).2
 have HXL:Hid (x<w.heap.size):=hrt.lt;have HNL:Hid (∀i,At NA i→i<w.heap.size):=fun i q=>hrt.own.lt q
 have HPB:Hid (∀w',Upd (fun i=>i=x∨At NA i) W w'→Blk w' w.heap.size 38 #[.int .i64 p.v,.int .i64 p.op,.int .i64 p.imm,.int .i64 p.iv,.slice KA p.kids.length kc]):=fun w' u=>hbk.upd u (fun q=>by
  rcases q with q | q
  ·have:=HXL.out;omega
  ·have:=HNL.out _ q;omega)
 obtain ⟨pb,hpb⟩:∃b,w.heap.size=b:=⟨_,rfl⟩;rw [hpb] at HPB;have c0:W.cell? ⟨pb,0,none⟩=some (.int .i64 p.v):=(HPB.out W Upd.refl).cell 0;have c1:W.cell? ⟨pb,1,none⟩=some (.int .i64 p.op):=(HPB.out W Upd.refl).cell 1;have tv:decide (p.v > 0)=false:=dF_ (by omega);have HPE:=h_ (fun (r:List Bool×List Bool×List Bool) (hr:bitL k (insF ins) p.kids (old.drop (ownN p.op p.kids))=r)=>bitP_op hv k (insF ins) old (r:=r) hr)
 have har:=hwI.2.2.1 (by have:=hwI.1;omega);rw [supF_op hv,Bool.and_eq_true] at hs;have HSK:=h_ hs.2;have HWK:=h_ hwI.2.2.2;have hbn:bN p=ownN p.op p.kids+bL p.kids:=by rw [bN_iff,if_neg hv]
 obtain ⟨n,Hn⟩:=nm now.length;obtain ⟨ol,Hol⟩:=nm old.length;rw [Hn.out] at hn;rw [Hol.out] at hb;have HIL:Hid (ins.length≤1000):=hil;have hown:ownN p.op p.kids=0:=by rcases ho with e | e | e <;> rw [e] <;> rfl
 rw [hown] at hbn HPE;have hl2:p.kids.length=2:=by rw [har];rcases ho with e | e | e <;> rw [e] <;> rfl
 obtain ⟨q0,q1,hk1⟩:∃q0 q1,p.kids=[q0,q1]:=by
  match p.kids,hl2 with
  | [a,b],_=>exact ⟨a,b,rfl⟩
 have hbl:bL p.kids=bN q0+bN q1:=by rw [hk1];simp [bL]
 obtain ⟨r0,Hr0⟩:=nm (bitP k (insF ins) q0 old);obtain ⟨kn,Hkn⟩:=nm p.kids.length;rw [Hkn.out] at hl2;have hkn0:(0:Int)<(kn:Int):=by omega
 have hkn1:(1:Int)<(kn:Int):=by omega
 rw [Hkn.out] at HPB e0;have c4:W.cell? ⟨pb,4,none⟩=some (.slice KA kn kc):=(HPB.out W Upd.refl).cell 4;have hs0:=List.all_eq_true.1 HSK.out q0 (by rw [hk1];simp);have hs1:=List.all_eq_true.1 HSK.out q1 (by rw [hk1];simp);have hre:=bitP_rest (k:=k) (f:=insF ins) hs0 (old:=old) (by rw [Hol.out];omega);rw [Hr0.out] at hre;obtain ⟨eb,eo,KB,kd,rfl,m0,m1,m2,m3,m4,C1⟩:=HB0.out.kid HFAR.out HPT.out (i:=0) (q:=q0) (by rw [hk1];exact Nat.succ_pos 1) (by simp [hk1]) (IH q0 (by rw [hk1];simp)) hs0 (HWK.out q0 (by rw [hk1];simp)) (by rw [Hol.out];omega) (by rw [Hn.out];omega) hil Hr0.out
 simp only [Nat.zero_mul,Nat.add_zero] at m0 m1 m2 m3 m4;obtain ⟨a0,rest0,add0⟩:=r0;simp only at C1 hre;obtain ⟨r1,Hr1⟩:=nm (bitP k (insF ins) q1 rest0);have hr0l:rest0.length=ol - bN q0:=by rw [hre.1,List.length_drop,Hol.out]
 have HK1:=h_ (fun (w1:World) (A1:Option Addr) (k1:Nat) (hB1:BS W NA w1 F x k ins rest0 (now++add0) A1 k1)=>hB1.kid HFAR.out HPT.out (i:=1) (q:=q1) (by rw [hk1];exact Nat.lt_succ_self 1) (by simp [hk1]) (IH q1 (by rw [hk1];simp)) hs1 (HWK.out q1 (by rw [hk1];simp)) (by rw [hr0l];omega) (by rw [List.length_append,Hn.out,hre.2];omega) hil Hr1.out)
 obtain ⟨a1,rest1,add1⟩:=r1;simp only at HK1;have HPE2:=HPE.out ([a0,a1],rest1,add0++add1) (by rw [List.drop_zero,hk1,bitL_two,Hr0.out];simp only [Hr1.out])
 have HRX:Hid (bitP k (insF ins) p old=((opBit k p.op p.imm [] [a0,a1]).1,rest1,add0++add1)):=by
  show _=_;rw [HPE2,List.take_zero];rcases ho with e | e | e <;> rw [e] <;> rfl
 obtain ⟨op,Hop⟩:=nm p.op;rw [Hop.out] at c1 e0 HRX ho HPB;unfold pv;rw [Hkn.out,Hop.out];unfold b8 at C1;clear hrt hp hs hw hb hn hwI hbk har hbn hk1 hbl hown HPE HPE2 hl2 hre hr0l hs0 hs1;rcases ho with e | e | e
 ·subst e;go_enter Tryz.func180,Tryz.ntmps180;go_wp2_with fail
  refine C1.out.mono ?_;rintro e w1 ⟨A1,k1,rfl,hB1⟩;have y1:w1.cell? ⟨pb,1,none⟩=some (.int .i64 9):=(HPB.out w1 hB1.upd).cell 1;have y4:w1.cell? ⟨pb,4,none⟩=some (.slice (some ⟨eb,eo,none⟩) kn kc):=(HPB.out w1 hB1.upd).cell 4;obtain ⟨eb2,eo2,KB2,kd2,eK,m0,m1,m2,m3,m4,C2⟩:=HK1.out w1 A1 k1 hB1;injection eK with eK
  injection eK with eK1 eK2
  subst eK1 eK2;simp only [Nat.one_mul] at m0 m1 m2 m3 m4;unfold b8 at C2;clear C1 c0 c1 c4 hB1 HK1;go_wp2_with fail
  refine C2.out.mono ?_;rintro e w2 ⟨A2,k2,rfl,hB2⟩;rw [List.append_assoc] at hB2;have y1:w2.cell? ⟨pb,1,none⟩=some (.int .i64 9):=(HPB.out w2 hB2.upd).cell 1
  have HFIN:Hid (BitR w F x k ins now NA (bitP k (insF ins) p old) (.returned (b8 (opBit k 9 p.imm [] [a0,a1]).1)) w2):=by
   show BitR _ _ _ _ _ _ _ _ _ _;rw [HRX.out];exact BitR.back HUW.out (BS.done (r:=(_,rest1,add0++add1)) hB2 rfl rfl)
  clear hB2 C2 m0 m1 m2 m3 m4 HRX;have hb1:=b8_and a0 a1;have hb2:=b8_or a0 a1;have hb3:=b8_xor a0 a1;go_wp2_with fail
  go_ret;exact HFIN.out
 ·subst e;go_enter Tryz.func180,Tryz.ntmps180;go_wp2_with fail
  refine C1.out.mono ?_;rintro e w1 ⟨A1,k1,rfl,hB1⟩;have y1:w1.cell? ⟨pb,1,none⟩=some (.int .i64 10):=(HPB.out w1 hB1.upd).cell 1;have y4:w1.cell? ⟨pb,4,none⟩=some (.slice (some ⟨eb,eo,none⟩) kn kc):=(HPB.out w1 hB1.upd).cell 4;obtain ⟨eb2,eo2,KB2,kd2,eK,m0,m1,m2,m3,m4,C2⟩:=HK1.out w1 A1 k1 hB1;injection eK with eK
  injection eK with eK1 eK2
  subst eK1 eK2;simp only [Nat.one_mul] at m0 m1 m2 m3 m4;unfold b8 at C2;clear C1 c0 c1 c4 hB1 HK1;go_wp2_with fail
  refine C2.out.mono ?_;rintro e w2 ⟨A2,k2,rfl,hB2⟩;rw [List.append_assoc] at hB2;have y1:w2.cell? ⟨pb,1,none⟩=some (.int .i64 10):=(HPB.out w2 hB2.upd).cell 1
  have HFIN:Hid (BitR w F x k ins now NA (bitP k (insF ins) p old) (.returned (b8 (opBit k 10 p.imm [] [a0,a1]).1)) w2):=by
   show BitR _ _ _ _ _ _ _ _ _ _;rw [HRX.out];exact BitR.back HUW.out (BS.done (r:=(_,rest1,add0++add1)) hB2 rfl rfl)
  clear hB2 C2 m0 m1 m2 m3 m4 HRX;have hb1:=b8_and a0 a1;have hb2:=b8_or a0 a1;have hb3:=b8_xor a0 a1;go_wp2_with fail
  go_ret;exact HFIN.out
 ·subst e;go_enter Tryz.func180,Tryz.ntmps180;go_wp2_with fail
  refine C1.out.mono ?_;rintro e w1 ⟨A1,k1,rfl,hB1⟩;have y1:w1.cell? ⟨pb,1,none⟩=some (.int .i64 11):=(HPB.out w1 hB1.upd).cell 1;have y4:w1.cell? ⟨pb,4,none⟩=some (.slice (some ⟨eb,eo,none⟩) kn kc):=(HPB.out w1 hB1.upd).cell 4;obtain ⟨eb2,eo2,KB2,kd2,eK,m0,m1,m2,m3,m4,C2⟩:=HK1.out w1 A1 k1 hB1;injection eK with eK
  injection eK with eK1 eK2
  subst eK1 eK2;simp only [Nat.one_mul] at m0 m1 m2 m3 m4;unfold b8 at C2;clear C1 c0 c1 c4 hB1 HK1;go_wp2_with fail
  refine C2.out.mono ?_;rintro e w2 ⟨A2,k2,rfl,hB2⟩;rw [List.append_assoc] at hB2;have y1:w2.cell? ⟨pb,1,none⟩=some (.int .i64 11):=(HPB.out w2 hB2.upd).cell 1
  have HFIN:Hid (BitR w F x k ins now NA (bitP k (insF ins) p old) (.returned (b8 (opBit k 11 p.imm [] [a0,a1]).1)) w2):=by
   show BitR _ _ _ _ _ _ _ _ _ _;rw [HRX.out];exact BitR.back HUW.out (BS.done (r:=(_,rest1,add0++add1)) hB2 rfl rfl)
  clear hB2 C2 m0 m1 m2 m3 m4 HRX;have hb1:=b8_and a0 a1;have hb2:=b8_or a0 a1;have hb3:=b8_xor a0 a1;go_wp2_with fail
  go_ret;exact HFIN.out
end Go.Proofs.YtifhejahbbnkiaaGreat
