/-
  Lemmas and walks that the claim rests on, part 7 (packed by a program).
-/
import Derived.WalkSmall
import Derived.Test.YtdbjgihnngigeaaGreatR6
import Derived.Test.YtdbjgihnngigeaaGreatR3
import Derived.Test.YtdbjgihnngigeaaGreatR1
import Derived.Lib.AppendZerosOnto
import Derived.Laws.CopyRow
namespace Go.Proofs.YtdbjgihnngigeaaGreat
open Go.RowKit
structure RT (w:World) (F:Nat→Prop) (x k:Nat) (ins old now:List Bool) (NA:Option Addr) (nc:Nat):Prop where
 blk:∃IA ic OA oc,Blk w x 186 #[.int .i64 (k:Int),.slice IA ins.length ic,.slice OA old.length oc,.slice NA now.length nc]∧Sl w F IA (b8s ins)∧Sl w F OA (b8s old)∧old.length≤oc∧ins.length≤ic
 own:Own w 5 1 NA now.length nc (b8s now)
 far:∀i,F i→i<w.heap.size∧i≠x∧¬At NA i
section
variable {w w':World} {F S:Nat→Prop} {x k:Nat} {ins old now:List Bool} {NA:Option Addr} {nc:Nat}
theorem RT.lt (h:RT w F x k ins old now NA nc):x<w.heap.size:=by
 obtain ⟨_,_,_,_,hb,_⟩:=h.blk;exact hb.lt
theorem RT.ne (h:RT w F x k ins old now NA nc):¬At NA x:=by
 obtain ⟨_,_,_,_,hb,_⟩:=h.blk;exact h.own.ne_blk hb (by decide)
theorem RT.upd (h:RT w F x k ins old now NA nc) (u:Upd S w w') (hx:¬S x) (hA:∀i,At NA i→¬S i) (hF:∀i,F i→¬S i):RT w' F x k ins old now NA nc:=by
 obtain ⟨⟨IA,ic,OA,oc,h1,h2,h3,h4,h5⟩,h6,h7⟩:=h;exact ⟨⟨IA,ic,OA,oc,h1.upd u hx,h2.upd u (fun i _ q=>hF i q),h3.upd u (fun i _ q=>hF i q),h4,h5⟩,h6.upd u hA,fun i q=>⟨Nat.lt_of_lt_of_le (h7 i q).1 u.size,(h7 i q).2⟩⟩
theorem RT.non (h:RT w F x k ins old now NA nc) (u:Upd Non w w'):RT w' F x k ins old now NA nc:=h.upd u (fun f=>f) (fun _ _ f=>f) (fun _ _ f=>f)
theorem RT.set {nb:Nat} (h:RT w F x k ins old now (some ⟨nb,0,none⟩) nc) (i:Nat) (b:Bool):RT (w.setCell ⟨nb,i,none⟩ (b8 b)) F x k ins old (now.set i b) (some ⟨nb,0,none⟩) nc:=by
 have hne:=h.ne;obtain ⟨⟨IA,ic,OA,oc,h1,h2,h3,h4,h5⟩,h6,h7⟩:=h;have u:=updCell w nb i (b8 b);rw [At.some_] at hne;refine ⟨⟨IA,ic,OA,oc,?_,h2.upd u (fun j _ q e=>(h7 j q).2.2 (At.some_.2 e)),h3.upd u (fun j _ q e=>(h7 j q).2.2 (At.some_.2 e)),h4,h5⟩,?_,fun j q=>⟨Nat.lt_of_lt_of_le (h7 j q).1 u.size,(h7 j q).2⟩⟩
 ·rw [List.length_set];exact h1.upd u hne
 ·rw [List.length_set,←b8s_set];exact h6.set_ i _
theorem RT.push {w2 w3:World} {A3:Option Addr} {c3 m:Nat} {z:List Bool} (h:RT w F x k ins old now NA nc) (u2:Upd Non w w2) (ho:Own w3 5 1 A3 (now.length+m) c3 (b8s now++b8s z)) (hm:z.length=m) (u3:Upd (At NA) w2 w3) (hat:∀i,At A3 i→At NA i∨w.heap.size≤i) :
  RT (w3.setCell ⟨x,3,none⟩ (.slice A3 (now.length+m) c3)) F x k ins old (now++z) A3 c3:=by
 have hlt:=h.lt;have h2:=h.non u2;have hne:=h2.ne;obtain ⟨⟨IA,ic,OA,oc,h1,h2,h3,h4,h5⟩,h6,h7⟩:=h2;have u:=updCell w3 x 3 (.slice A3 (now.length+m) c3);have hl:(now++z).length=now.length+m:=by rw [List.length_append,hm]
 have hb:b8s (now++z)=b8s now++b8s z:=List.map_append
 have hxA:¬At A3 x:=fun q=>by
  rcases hat x q with q | q
  ·exact hne q
  ·omega
 refine ⟨⟨IA,ic,OA,oc,?_,(h2.upd u3 (fun j _ q e=>(h7 j q).2.2 e)).upd u (fun j _ q e=>(h7 j q).2.1 e),(h3.upd u3 (fun j _ q e=>(h7 j q).2.2 e)).upd u (fun j _ q e=>(h7 j q).2.1 e),h4,h5⟩,?_,fun j q=>⟨Nat.lt_of_lt_of_le (h7 j q).1 (Nat.le_trans u3.size u.size),(h7 j q).2.1,fun e=>?_⟩⟩
 ·rw [hl];have:=(h1.upd u3 hne).set_ 3 (.slice A3 (now.length+m) c3);simpa using this
 ·rw [hl,hb];exact ho.upd u (fun j q e=>hxA (by subst e;exact q))
 ·rcases hat j e with e | e
  ·exact (h7 j q).2.2 e
  ·have:=(h.far j q).1;omega
end
theorem bit_u64 (n:Int) (k:Nat):bits .and .u64 (IntKind.u64.wrap n / 2 ^ k) 1 % 256=bW (bI n k):=by
 have hw:IntKind.u64.wrap n=(uW n:Int):=by rw [uW_eq];rfl
 have hlt:uW n<18446744073709551616:=(BitVec.ofInt 64 n).isLt;have hd:(uW n:Int) / 2 ^ k=((uW n / 2 ^ k:Nat):Int):=by rw [Int.natCast_ediv,Int.natCast_pow];rfl
 have hle:uW n / 2 ^ k≤uW n:=Nat.div_le_self _ _;rw [hw,hd,bI_eq,Nat.testBit_eq_decide_div_mod_eq];generalize uW n / 2 ^ k=q at *;have h2:q % 2=0∨q % 2=1:=by omega
 rw [and_one_u64 _ (by omega) (by omega)];rcases h2 with h | h
 ·rw [h];show _=(0:Int);omega
 ·rw [h];show _=(1:Int);omega
theorem rBitOf_c (n:Int) (k:Nat) (hk:k<64) (w:World):Calls Tryz.prog 126 #[.int .i64 n,.int .i64 k] w fun e w'=>e=.returned (b8 (bI n k))∧w'=w:=by
 have hb:=bit_u64 n k;have HB:=h_ hb;clear hb;go_enter Tryz.func126,Tryz.ntmps126
 go_wp2
 go_ret;exact ⟨by unfold b8;rw [←HB.out];rfl,rfl⟩
def cfF (op:Int) (k:Nat) (m a b:Bool):Bool:=if op=15∨op=16 then m&&(a==b) else ordB m a b (decide (k=63∧op≠19))
theorem rCompareFlag_c (op:Int) (ho:15≤op∧op≤19) (k:Nat) (m a b:Bool) (w:World):Calls Tryz.prog 125 #[.int .i64 op,.int .i64 k,b8 m,b8 a,b8 b] w fun e w'=>e=.returned (b8 (cfF op k m a b))∧w'=w:=by
 have h:op=15∨op=16∨op=17∨op=18∨op=19:=by omega
 by_cases hk:k=63
 ·subst hk;rcases h with rfl | rfl | rfl | rfl | rfl <;> cases m <;> cases a <;> cases b
  all_goals
   go_enter Tryz.func125,Tryz.ntmps125;unfold b8 bW
   go_wp2
   go_ret;exact ⟨rfl,rfl⟩
 ·have t63:((k:Int)==63)=false:=by simp;omega
  have hd:∀q:Prop,[Decidable q]→decide (k=63∧q)=false:=fun q _=>dF_ (fun z=>hk z.1)
  have hcf:cfF op k m a b=if op=15∨op=16 then m&&(a==b) else ordB m a b false:=by unfold cfF;rw [hd]
  rw [hcf];clear hk hd hcf;rcases h with rfl | rfl | rfl | rfl | rfl <;> cases m <;> cases a <;> cases b
  all_goals
   go_enter Tryz.func125,Tryz.ntmps125;unfold b8 bW
   go_wp2
   go_ret;exact ⟨rfl,rfl⟩
set_option maxRecDepth 100000 in
theorem rTake_c {w:World} {F:Nat→Prop} {x k:Nat} {ins old now:List Bool} {NA:Option Addr} {nc:Nat} {b:Bool} (h:RT w F x k ins (b::old) now NA nc) :
  Calls Tryz.prog 124 #[.pointer (some ⟨x,0,none⟩)] w fun e w'=>e=.returned (b8 b)∧RT w' F x k ins old now NA nc∧Upd (·=x) w w':=by
 have hne:=h.ne;obtain ⟨⟨IA,ic,OA,oc,h1,h2,h3,h4,h5⟩,h6,h7⟩:=h;obtain ⟨ob,oo,rfl,hF,hlt,hc⟩:=h3.at_ (k:=0) (by simp [b8s]);have hc:w.cell? ⟨ob,oo,none⟩=some (b8 b):=hc;have hxo:¬x=ob:=fun e=>(h7 ob hF).2.1 e.symm
 have c2:=h1.cell 2;have f2:=h1.frozen 2;rw [List.length_cons] at h4 c2;obtain ⟨ol,hol⟩:=nm old.length;rw [hol.out] at c2 h4;have hol1:(1:Int)≤(ol+1:Nat):=by omega
 have hol2:((ol+1:Nat):Int)≤(oc:Int):=by omega
 have H1:=h_ h1;have H2:=h_ h2;have H3:=h_ h3;have HF:=h_ h7;have H6:=h_ h6;have H4:=h_ h4;have H5:=h_ h5;have HFO:=h_ hF
 have HP:Hid (∀A':Option Addr,Sl w F A' (b8s old)→RT (w.setCell ⟨x,2,none⟩ (.slice A' ol (oc - 1))) F x k ins old now NA nc∧Upd (·=x) w (w.setCell ⟨x,2,none⟩ (.slice A' ol (oc - 1)))):=fun A' hA'=>by
  have u:=updCell w x 2 (.slice A' ol (oc - 1));refine ⟨⟨⟨IA,ic,A',oc - 1,?_,H2.out.upd u (fun i _ q e=>(HF.out i q).2.1 e),hA'.upd u (fun i _ q e=>(HF.out i q).2.1 e),by rw [hol.out];have:=H4.out;omega,H5.out⟩,H6.out.upd u (fun i q e=>hne (by subst e;exact q)),fun i q=>⟨Nat.lt_of_lt_of_le (HF.out i q).1 u.size,(HF.out i q).2⟩⟩,u⟩
  have:=H1.out.set_ 2 (.slice A' ol (oc - 1));rw [hol.out];simpa using this
 have hfr:=H3.out.from2 (m:=1) (p:=oc=1) (fun q=>by rw [b8s,List.length_map,List.length_cons,hol.out];omega);have HFR:Hid (Sl w F (if oc=1 then some ⟨ob,oo,none⟩ else some ⟨ob,oo+1,none⟩) (b8s old)):=hfr;unfold b8 at hc ⊢;clear h1 h3 h2 h7 h6 h4 h5 hF hfr;by_cases hoc:oc=1
 ·have HFR2:Hid (Sl w F (some ⟨ob,oo,none⟩) (b8s old)):=by have:=HFR.out;rwa [if_pos hoc] at this
  have HP2:=h_ (HP.out _ HFR2.out);have hol0:ol=0:=by have:=H4.out;omega
  subst hoc hol0;clear HP HFR;go_enter Tryz.func124,Tryz.ntmps124;go_wp2_with fail
  go_ret;exact ⟨rfl,HP2.out.1,HP2.out.2⟩
 ·have HFR2:Hid (Sl w F (some ⟨ob,oo+1,none⟩) (b8s old)):=by have:=HFR.out;rwa [if_neg hoc] at this
  have HP2:=h_ (HP.out _ HFR2.out);clear HP HFR;go_enter Tryz.func124,Tryz.ntmps124;go_wp2_with fail
  go_ret;exact ⟨rfl,HP2.out.1,HP2.out.2⟩
theorem zeroCells_one (v:Value) (n:Nat):Builtin.zeroCells #[v] n=(List.replicate n v).toArray:=by
 unfold Builtin.zeroCells;refine Array.ext (by simp) fun i h1 h2=>?_
 simp at h1 ⊢;simp [Nat.mod_one]
section
variable {P:Program} {w:World}
theorem run_appz_own (t tn ty e:TypeId) (i:TypeInfo) (z zv:Value) (kn:IntKind) (ht:P.underlying t=some (.slice e)) (htn:P.underlying tn=some (.int kn)) (hi:P.info? e=some i) (hz:i.zero=some z)
  (hsize:i.size=1) (hzs:z.cells=#[zv]) (h1:zv.oneCell'=true) (A:Option Addr) (n c:Nat) (xs:List Value) (hown:w.ownsRow 0 e 1 (.slice A n c) n xs) (k:Nat) (h63:n+k≤maxLen) (hbytes:(n+k) * i.bytes≤140737488355328) :
  ∃v' w',(Builtin.append_ #[t,tn] ty #[.slice A n c,.int .i64 k]).run P w=.ok v' w'∧w'.ownsRow 0 e 1 v' (n+k) (xs++List.replicate k zv)∧w.grownBy w' (Value.slice A n c).ownBlock ∧
   ((∃A' c',v'=.slice A' (n+k) c')∧(v'.ownBlock=(Value.slice A n c).ownBlock∨v'.ownBlock=some w.heap.size)):=by
 have hsmall:n+k≤9223372036854775807:=by simp only [maxLen] at h63;omega
 have hkb:k * i.bytes≤140737488355328:=Nat.le_trans (Nat.mul_le_mul_right _ (by omega)) hbytes;have hlen:(xs++List.replicate k zv).length=(n+k) * 1:=by rw [List.length_append,hown.1,List.length_replicate];omega
 have grown:∀(old:Nat),∀(row:Option Nat),old<n+k →
   (w.drew.alloc (.cells (xs.toArray++Builtin.zeroCells z.cells k++Builtin.zeroCells z.cells (grownCap w (n+k) old e - (n+k))) e)).ownsRow 0 e 1
    (.slice (some ⟨w.heap.size,0,none⟩) (n+k) (grownCap w (n+k) old e)) (n+k) (xs++List.replicate k zv) ∧
   w.grownBy (w.drew.alloc (.cells (xs.toArray++Builtin.zeroCells z.cells k++Builtin.zeroCells z.cells (grownCap w (n+k) old e - (n+k))) e)) row:=by
  intro old row ho;have hge:=grownCap_ge w (n+k) old e;have hcm:grownCap w (n+k) old e≤maxLen:=grownCap_le_maxLen w (n+k) old e h63;rw [hzs,zeroCells_one,zeroCells_one];refine ⟨⟨hlen,.inr ⟨w.heap.size,_,_,rfl,Nat.zero_le _,heap_alloc_new w.drew _,hge,hcm,?_,?_⟩⟩,⟨rfl,rfl,rfl,by simp,fun _ hk _=>heap_alloc_old w.drew _ hk⟩⟩
  ·have:=hown.1;simp only [Array.size_append,List.size_toArray,List.length_replicate];omega
  ·simp only [Array.toList_append,List.append_assoc];rw [←List.append_assoc,←hlen];exact List.take_left
 by_cases hk:k=0
 ·subst hk;refine ⟨.slice A n c,w,?_,by simpa using hown,⟨rfl,rfl,rfl,Nat.le_refl _,fun _ _ _=>rfl⟩,⟨_,_,rfl⟩,.inl rfl⟩;clear grown;have hw:IntKind.i64.wrap (0:Int)=0:=by decide
  rcases hown.2 with ⟨h0,hn0⟩ | ⟨g,cap,cur,h0,hbg,hg,hnc,hcm,hcs,htake⟩
  ·cases h0
   simp [Builtin.append_,run_underlying ht,run_underlying htn,sizeOf,typeInfo,hi,asInt,asIntOf,hw]
  ·cases h0
   simp [Builtin.append_,run_underlying ht,run_underlying htn,sizeOf,typeInfo,hi,asInt,asIntOf,hw,hnc,storeCells]
 ·rcases hown.2 with ⟨h0,hn0⟩ | ⟨g,cap,cur,h0,hbg,hg,hnc,hcm,hcs,htake⟩
  ·cases h0
   have hx:xs=[]:=List.eq_nil_of_length_eq_zero (by simpa using hown.1);subst hx;have hr:=Lib.run_append_nil_zeros (P:=P) w t tn ty e i z .i64 kn ht htn hi hz k (by omega) (by omega) (by omega) (by omega);have hgr:=grown 0 (Value.ownBlock (.slice none 0 0)) (by omega);simp only [Nat.zero_add,List.nil_append,Array.empty_append] at hgr ⊢;exact ⟨_,_,hr,hgr.1,hgr.2,⟨_,_,rfl⟩,Or.inr rfl⟩
  ·cases h0
   by_cases hroom:n+k≤c
   ·have hfit:n * i.size+k≤cur.size:=by rw [hsize,hcs];omega
    have hst:=run_storeCells_at (P:=P) g (n * i.size) e (List.replicate k zv) 0 cur w hg (by rw [List.length_replicate];omega) (fun v hv=>by rw [List.eq_of_mem_replicate hv];exact h1)
    refine ⟨.slice (some ⟨g,0,none⟩) (n+k) c,w.setRow g (cur.toList.take (n * i.size+0)++List.replicate k zv++cur.toList.drop (n * i.size+0+(List.replicate k zv).length)).toArray,?_,⟨hlen,.inr ⟨g,c,_,rfl,hbg,setRow_heap w g cur _ e _ hg,hroom,hcm,?_,?_⟩⟩,⟨rfl,rfl,rfl,by simp,fun k _ hk=>setRow_other w g k _ (fun e=>hk (by simp [Value.ownBlock,e]))⟩,⟨_,_,rfl⟩,Or.inl rfl⟩
    ·clear grown;have hw:IntKind.i64.wrap (k:Int)=k:=by rw [IntKind.wrap_i64];omega
     have h48i:¬(281474976710656<(k:Int) * (i.bytes:Int)):=by rw [←Int.natCast_mul];omega
     have hneg:¬((k:Int)<0):=by omega
     have hzc:Builtin.zeroCells z.cells k=(List.replicate k zv).toArray:=by rw [hzs,zeroCells_one]
     simp only [hsize,Nat.mul_one,Nat.add_zero,List.length_replicate,List.append_assoc] at hst;simp [Builtin.append_,run_underlying ht,run_underlying htn,sizeOf,typeInfo,zeroValue,hi,hz,asInt,asIntOf,hw,hneg,h48i,hk,hroom,hzc,Addr.add_lit,hst,hsize]
    ·simp only [List.size_toArray,List.length_append,List.length_take,List.length_drop,Array.length_toList,List.length_replicate,hsize,Nat.add_zero,Nat.mul_one] at *
     omega
    ·simp only [hsize,Nat.mul_one,Nat.add_zero] at htake ⊢;rw [htake];have e1:n+k=(xs++List.replicate k zv).length:=by rw [hlen];omega
     rw [e1];exact List.take_left
   ·have holds:∀j u,xs[j]?=some u→w.cell? ((⟨g,0,none⟩:Addr).add j)=some u:=hown.cells (g:=g) rfl
    have hold:(Builtin.firstCells i.size n (.slice (some ⟨g,0,none⟩) n c)).run P w.drew=.ok xs.toArray w.drew:=by
     exact run_firstCells_some (P:=P) w.drew i.size n ⟨g,0,none⟩ n c xs (by rw [hsize];exact hown.1) (by simpa using holds)
    have hr:=Lib.run_append_grow_zeros (P:=P) w t tn ty e i z .i64 kn ht htn hi hz (some ⟨g,0,none⟩) n c xs hold k (by omega) (by omega) (by omega) (by omega) (by omega) (growslice_fits (by omega) hbytes)
    have hgr:=grown c (Value.ownBlock (.slice (some ⟨g,0,none⟩) n c)) (by omega);exact ⟨_,_,hr,hgr.1,hgr.2,⟨_,_,rfl⟩,Or.inr rfl⟩
theorem wpList_appz {ops:Array Oper} {rest:List Oper} {o:Oper} {a:Act} {Q:Exit→Act→World→Prop} (hgd:o.guard=none) {s x:Operand} {t tn:TypeId}
  (ho:o.op=.call { callee:=.builtin .append,args:=#[s,x],argTypes:=#[t,tn] }) {e:TypeId} {bytes:Nat} {kn:IntKind} (T:SlT P t e 1 bytes) (htn:P.underlying tn=some (.int kn)) {zv:Value} (hz:∀i z,P.info? e=some i→i.zero=some z→z.cells=#[zv]) (h1:zv.oneCell'=true)
  {A:Option Addr} {n c:Nat} {cs:List Value} (hs:a.eval s=.slice A n c) (h:Own w e 1 A n c cs) {k:Nat} (hx:a.eval x=.int .i64 k) (h63:n+k≤maxLen) (hb:(n+k) * bytes≤140737488355328)
  (K:∀A' c' w',Own w' e 1 A' (n+k) c' (cs++List.replicate k zv)→Upd (At A) w w'→(∀j,At A' j→At A j∨j=w.heap.size)→wpList P ops Q rest (a.put o.dst (.slice A' (n+k) c')) w'):wpList P ops Q (o::rest) a w:=by
 obtain ⟨ht,⟨i,z,hi,hz0,hsz,hby,hzs⟩,hpos⟩:=T;subst hby;obtain ⟨v',w',hr,h2,h3,⟨A',c',rfl⟩,h5⟩:=run_appz_own (P:=P) (w:=w) t tn o.type e i z zv kn ht htn hi hz0 hsz (hz i z hi hz0) h1 A n c cs h k h63 hb
 refine Lib.wpList_append_run w hgd s x t tn ho _ _ hs hx _ w' hr (K A' c' w' h2 ((Upd.of_grown h3).mono (fun j _ hj=>?_)) (fun j hj=>?_))
 ·cases A with
  | none=>simp [Value.ownBlock] at hj
  | some a=>exact ⟨a.off,a.spot,by simp [Value.ownBlock] at hj;subst hj;rfl⟩
 ·obtain ⟨o',sp,rfl⟩:=hj;rcases h5 with h5 | h5
  ·left
   cases A with
   | none=>simp [Value.ownBlock] at h5
   | some a=>exact ⟨a.off,a.spot,by simp [Value.ownBlock] at h5;subst h5;rfl⟩
  ·right
   simpa [Value.ownBlock] using h5
end
def insF (ins:List Bool) (i:Nat):Bool:=ins.getD i false
theorem bitP_rest {k:Nat} {f:Nat→Bool} {p:Pt} (hs:supF p=true) {old:List Bool} (h:bN p≤old.length):(bitP k f p old).2.1=old.drop (bN p)∧(bitP k f p old).2.2.length=bN p:=by
 obtain ⟨b,now,hn,hb⟩:=bitP_app k f p hs (old.take (bN p)) (by rw [List.length_take];omega);have:=hb (old.drop (bN p));rw [List.take_append_drop] at this;rw [this];exact ⟨rfl,hn⟩
def BitR (w:World) (F:Nat→Prop) (x k:Nat) (ins now:List Bool) (NA:Option Addr) (r:Bool×List Bool×List Bool) (e:Ending) (w':World):Prop :=
 ∃(NA':Option Addr) (nc':Nat),e=.returned (b8 r.1)∧RT w' F x k ins r.2.1 (now++r.2.2) NA' nc'∧(∀i,At NA' i→At NA i∨w.heap.size≤i)∧Upd (fun i=>i=x∨At NA i) w w'
def BitC (fn k:Nat) (p:Pt):Prop :=
 ∀(w:World) (F:Nat→Prop) (x:Nat) (ins old now:List Bool) (NA:Option Addr) (nc:Nat) (KA:Option Addr) (kc:Nat),RT w F x k ins old now NA nc→PtK w F p KA kc→supF p=true→WfP ins.length p→bN p≤old.length→now.length+bN p≤1000000→ins.length≤1000 →
  Calls Tryz.prog fn #[.pointer (some ⟨x,0,none⟩),pv p KA kc] w (BitR w F x k ins now NA (bitP k (insF ins) p old))
structure BS (w0:World) (NA0:Option Addr) (w:World) (F:Nat→Prop) (x k:Nat) (ins old now:List Bool) (NA:Option Addr) (nc:Nat):Prop where
 rt:RT w F x k ins old now NA nc
 at_:∀i,At NA i→At NA0 i∨w0.heap.size≤i
 upd:Upd (fun i=>i=x∨At NA0 i) w0 w
section
variable {w0 w w':World} {F:Nat→Prop} {x k:Nat} {ins old now:List Bool} {NA0 NA:Option Addr} {nc:Nat}
theorem RT.bs (h:RT w F x k ins old now NA nc):BS w NA w F x k ins old now NA nc:=⟨h,fun _ q=>.inl q,Upd.refl⟩
theorem BS.non (h:BS w0 NA0 w F x k ins old now NA nc) (u:Upd Non w w'):BS w0 NA0 w' F x k ins old now NA nc:=⟨h.rt.non u,h.at_,h.upd.then_non u⟩
theorem BS.pt (h:BS w0 NA0 w F x k ins old now NA nc) (h0:∀i,F i→i≠x∧¬At NA0 i) {p:Pt} {KA:Option Addr} {kc:Nat} (hp:PtK w0 F p KA kc):PtK w F p KA kc:=PtK.upd h.upd (fun i _ hF q=>by
 rcases q with q | q
 ·exact (h0 i hF).1 q
 ·exact (h0 i hF).2 q) _ _ _ hp
theorem BS.bit (h:BS w0 NA0 w F x k ins old now NA nc) {r:Bool×List Bool×List Bool} {e:Ending} (hr:BitR w F x k ins now NA r e w'):∃(NA':Option Addr) (nc':Nat),e=.returned (b8 r.1)∧BS w0 NA0 w' F x k ins r.2.1 (now++r.2.2) NA' nc':=by
 obtain ⟨NA',nc',rfl,h1,h2,h3⟩:=hr;refine ⟨NA',nc',rfl,h1,fun i q=>?_,h.upd.trans h3 (fun i hi q=>?_)⟩
 ·rcases h2 i q with q | q
  ·exact h.at_ i q
  ·exact .inr (Nat.le_trans h.upd.size q)
 ·rcases q with q | q
  ·exact .inl q
  ·rcases h.at_ i q with q | q
   ·exact .inr q
   ·omega
theorem BS.take {b:Bool} {e:Ending} (h:BS w0 NA0 w F x k ins (b::old) now NA nc) (hr:e=.returned (b8 b)∧RT w' F x k ins old now NA nc∧Upd (·=x) w w'):e=.returned (b8 b)∧BS w0 NA0 w' F x k ins old now NA nc :=
 ⟨hr.1,hr.2.1,h.at_,h.upd.trans hr.2.2 (fun _ _ q=>.inl q)⟩
theorem BS.push (h:BS w0 NA0 w F x k ins old now NA nc) {w2 w3:World} {A3:Option Addr} {c3 m:Nat} {z:List Bool} (u2:Upd Non w w2) (ho:Own w3 5 1 A3 (now.length+m) c3 (b8s now++b8s z)) (hm:z.length=m) (u3:Upd (At NA) w2 w3) (hat:∀i,At A3 i→At NA i∨i=w2.heap.size) :
  BS w0 NA0 (w3.setCell ⟨x,3,none⟩ (.slice A3 (now.length+m) c3)) F x k ins old (now++z) A3 c3:=by
 have hs:=u2.size;have hs0:=h.upd.size;refine ⟨h.rt.push u2 ho hm u3 (fun i q=>(hat i q).imp id (fun z=>by omega)),fun i q=>?_,(((h.upd.then_non u2).trans u3 (fun i hi q=>?_)).trans (updCell w3 x 3 _) (fun i _ e=>.inl e))⟩
 ·rcases hat i q with q | q
  ·exact h.at_ i q
  ·exact .inr (by omega)
 ·rcases h.at_ i q with q | q
  ·exact .inr q
  ·omega
theorem BS.set {nb:Nat} (h:BS w0 NA0 w F x k ins old now (some ⟨nb,0,none⟩) nc) (i:Nat) (b:Bool):BS w0 NA0 (w.setCell ⟨nb,i,none⟩ (b8 b)) F x k ins old (now.set i b) (some ⟨nb,0,none⟩) nc :=
 ⟨h.rt.set i b,h.at_,h.upd.trans (updCell w nb i _) (fun j hj e=>by
  rcases h.at_ j (At.some_.2 e) with q | q
  ·exact .inr q
  ·omega)⟩
theorem BS.done {now0:List Bool} {r:Bool×List Bool×List Bool} (h:BS w0 NA0 w F x k ins old now NA nc) (ho:r.2.1=old) (hn:now=now0++r.2.2):BitR w0 F x k ins now0 NA0 r (.returned (b8 r.1)) w :=
 ⟨NA,nc,rfl,by rw [ho,←hn];exact h.rt,h.at_,h.upd⟩
theorem BitR.back {w W w':World} {F:Nat→Prop} {x k:Nat} {ins now:List Bool} {NA:Option Addr} {r:Bool×List Bool×List Bool} {e:Ending} (u:Upd Non w W) (h:BitR W F x k ins now NA r e w'):BitR w F x k ins now NA r e w':=by
 obtain ⟨NA',nc',h1,h2,h3,h4⟩:=h;exact ⟨NA',nc',h1,h2,fun i q=>(h3 i q).imp id (fun z=>Nat.le_trans u.size z),(u.mono (fun _ _ f=>f.elim)).trans h4 (fun _ _ q=>q)⟩
theorem BS.cells (h:BS w0 NA0 w F x k ins old now NA nc):∃IA ic OA oc,w.cell? ⟨x,0,none⟩=some (.int .i64 (k:Int))∧w.cell? ⟨x,1,none⟩=some (.slice IA ins.length ic)∧w.cell? ⟨x,2,none⟩=some (.slice OA old.length oc)∧w.cell? ⟨x,3,none⟩=some (.slice NA now.length nc)∧w.frozen? ⟨x,3,none⟩=false∧w.frozen? ⟨x,2,none⟩=false∧Sl w F IA (b8s ins)∧Sl w F OA (b8s old)∧old.length≤oc∧ins.length≤ic:=by
 obtain ⟨IA,ic,OA,oc,h1,h2,h3,h4,h5⟩:=h.rt.blk;exact ⟨IA,ic,OA,oc,h1.cell 0,h1.cell 1,h1.cell 2,h1.cell 3,h1.frozen 3,h1.frozen 2,h2,h3,h4,h5⟩
end
theorem bitL_one {k:Nat} {f:Nat→Bool} {p:Pt} {old:List Bool}:bitL k f [p] old=([(bitP k f p old).1],(bitP k f p old).2.1,(bitP k f p old).2.2):=by simp [bitL]
theorem bitL_two {k:Nat} {f:Nat→Bool} {p q:Pt} {old:List Bool}:bitL k f [p,q] old=([(bitP k f p old).1,(bitP k f q (bitP k f p old).2.1).1],(bitP k f q (bitP k f p old).2.1).2.1,(bitP k f p old).2.2++(bitP k f q (bitP k f p old).2.1).2.2):=by simp [bitL]
theorem bitL_three {k:Nat} {f:Nat→Bool} {p q s:Pt} {old:List Bool}:bitL k f [p,q,s] old=([(bitP k f p old).1,(bitP k f q (bitP k f p old).2.1).1,(bitP k f s (bitP k f q (bitP k f p old).2.1).2.1).1],(bitP k f s (bitP k f q (bitP k f p old).2.1).2.1).2.1,(bitP k f p old).2.2++((bitP k f q (bitP k f p old).2.1).2.2++(bitP k f s (bitP k f q (bitP k f p old).2.1).2.1).2.2)):=by simp [bitL]
theorem kid_at {w:World} {F:Nat→Prop} {p:Pt} {KA:Option Addr} {kc:Nat} (h:PtK w F p KA kc) {i:Nat} {q:Pt} (hi:i<p.kids.length) (e:p.kids[i]=q):∃b o KB kd,KA=some ⟨b,o,none⟩∧w.cell? ⟨b,o+i * 5,none⟩=some (.int .i64 q.v)∧w.cell? ⟨b,o+i * 5+1,none⟩=some (.int .i64 q.op)∧w.cell? ⟨b,o+i * 5+2,none⟩=some (.int .i64 q.imm)∧w.cell? ⟨b,o+i * 5+3,none⟩=some (.int .i64 q.iv)∧w.cell? ⟨b,o+i * 5+4,none⟩=some (.slice KB q.kids.length kd)∧PtK w F q KB kd:=by
 obtain ⟨b,o,e1,_,_,KB,kd,h0,h1,h2,h3,h4,h5⟩:=h.at_ hi;subst e;exact ⟨b,o,KB,kd,e1,h0,h1,h2,h3,h4,h5⟩
theorem set_mid (l adds:List Bool) (z b:Bool):((l++[z])++adds).set l.length b=l++([b]++adds):=by simp
theorem bN_le_bL {q:Pt}:∀{l:List Pt},q∈l→bN q≤bL l
 | [],h=>by cases h
 | x::l,h=>by
  rw [bL];rcases List.mem_cons.1 h with rfl | h
  ·omega
  ·have:=bN_le_bL h;omega
set_option maxRecDepth 100000 in
set_option maxHeartbeats 16000000 in
theorem rCarry_c (k:Nat) (p:Pt) (ho:p.op=4∨p.op=5∨p.op=20) (hv:¬0<p.v) (IH:∀q∈p.kids,BitC 123 k q):BitC 139 k p:=by
 intro w F x ins old now NA nc KA kc hrt hp hs hw hb hn hil;have hsK:=hs;rw [supF_op hv,Bool.and_eq_true] at hsK;have hwI:=(WfP.iff ins.length p).1 hw;have har:=hwI.2.2.1 (by have:=hwI.1;omega);have hown:ownN p.op p.kids=1:=by unfold ownN;rw [if_pos (by omega)]
 have hbn:bN p=1+bL p.kids:=by rw [bN_iff,if_neg hv,hown]
 obtain ⟨c,rest,rfl⟩:∃c rest,old=c::rest:=by
  cases old with
  | nil=>rw [List.length_nil] at hb;omega
  | cons c rest=>exact ⟨c,rest,rfl⟩
 obtain ⟨W,HW⟩:=nm (w.alloc (.cells #[.int .i64 p.v,.int .i64 p.op,.int .i64 p.imm,.int .i64 p.iv,.slice KA p.kids.length kc] 24));have hU:Upd Non w W:=by rw [←HW.out];exact Upd.refl.alloc _
 have e0:=HW.out;have hbk:Blk W w.heap.size 24 #[.int .i64 p.v,.int .i64 p.op,.int .i64 p.imm,.int .i64 p.iv,.slice KA p.kids.length kc]:=by rw [←HW.out];exact Blk.new _ _ _
 have HB0:=h_ (hrt.non hU).bs;have HPT:=h_ (PtK.upd hU (fun _ _ _ f=>f) _ _ _ hp);have HUW:=h_ hU;have HFAR:Hid (∀i,F i→i≠x∧¬At NA i):=fun i q=>(hrt.far i q).2
 have HXL:Hid (x<w.heap.size):=hrt.lt;have HNL:Hid (∀i,At NA i→i<w.heap.size):=fun i q=>hrt.own.lt q
 have HPB:Hid (∀w',Upd (fun i=>i=x∨At NA i) W w'→Blk w' w.heap.size 24 #[.int .i64 p.v,.int .i64 p.op,.int .i64 p.imm,.int .i64 p.iv,.slice KA p.kids.length kc]):=fun w' u=>hbk.upd u (fun q=>by
  rcases q with q | q
  ·have:=HXL.out;omega
  ·have:=HNL.out _ q;omega)
 obtain ⟨pb,hpb⟩:∃b,w.heap.size=b:=⟨_,rfl⟩;rw [hpb] at HPB;have HAR:=h_ har;obtain ⟨kn,Hkn⟩:=nm p.kids.length;rw [Hkn.out] at HPB HAR e0;have CT:=h_ (rTake_c HB0.out.rt);have c1:=(HPB.out W Upd.refl).cell 1;obtain ⟨n,Hn⟩:=nm now.length;rw [Hn.out] at hn;have HIH:=h_ IH;have HW0:=h_ hU.size;have HOWN:=h_ hown;have hn1:n≤1000000:=by omega
 have HHN:=h_ hn;have HHB:=h_ hb;have HBN:=h_ hbn;have HSK:=h_ hsK.2;have HWK:=h_ hwI.2.2.2;unfold pv;rw [Hkn.out];clear har hrt hp hs hw hb hn hsK hwI hown hbn hbk IH;go_enter Tryz.func139,Tryz.ntmps139;go_wp2_with fail
 refine CT.out.mono ?_;rintro e w1 ht;obtain ⟨rfl,hB1⟩:=HB0.out.take ht;obtain ⟨IA,ic,OA,oc,d0,d1,d2,d3,f3,f2,_,_,_,_⟩:=hB1.cells;have HB1:=h_ hB1;have hO1:=hB1.rt.own;rw [Hn.out] at d3 hO1;clear ht hB1 CT
 obtain ⟨q0,Hq0⟩:∃q0,∃h:0<p.kids.length,p.kids[0]=q0:=by
  have h:0<p.kids.length:=by
   rw [Hkn.out,HAR.out];rcases ho with e | e | e <;> rw [e] <;> decide
  exact ⟨_,h,rfl⟩
 have hk0:(0:Int)<(kn:Int):=by have:=Hq0.choose;rw [Hkn.out] at this;omega
 have HM0:Hid (q0∈p.kids):=by obtain ⟨h,e⟩:=Hq0;rw [←e];exact List.getElem_mem h
 go_wp2_with (at_builtin;refine wpList_app rfl rfl T_u8s rfl (hO1.alloc _) rfl (Sl.new _ _ _) rfl (by simp [Value.oneCell']) (by simp only [maxLen];omega) (by omega) ?_)
 intro A3 c3 w3 ho3 hu3 hat3;have hx1:=HB1.out.rt.ne;have hp3:=HB1.out.push (z:=[false]) (m:=1) (Upd.refl.alloc _) (by rw [Hn.out];exact ho3) rfl hu3 (fun i q=>(hat3 i q).imp id (fun z=>by rw [z];simp))
 rw [Hn.out] at hp3;have g3:=u_ d3 ((Upd.refl (S:=Non)).alloc (.cells #[.int .u8 0] 5)) (fun f=>f);have g3':=u_ g3 hu3 hx1
 have hfz:w3.frozen? ⟨x,3,none⟩=false:=by
  obtain ⟨_,_,_,_,h1,_⟩:=(HB1.out.non ((Upd.refl (S:=Non)).alloc (.cells #[.int .u8 0] 5))).rt.blk;exact (h1.upd hu3 hx1).frozen 3
 obtain ⟨W3,HW3⟩:=nm (w3.setCell ⟨x,3,none⟩ (.slice A3 (n+1) c3));rw [HW3.out] at hp3;have HB3:=h_ hp3;clear hp3 ho3 hu3 hat3 g3 hO1 hx1 d0 d1 d2 d3 f3 f2
 go_upto_region 4 with fail
 rw [HW3.out];clear g3' hfz;have hle0:=bN_le_bL HM0.out;have hbn:=HBN.out;have hhb:=HHB.out;have hhn:=HHN.out;rw [List.length_cons] at hhb;obtain ⟨eb,eo,KB,kd,rfl,m0,m1,m2,m3,m4,hq⟩:=kid_at (HB3.out.pt HFAR.out HPT.out) Hq0.choose Hq0.choose_spec;simp only [Nat.zero_mul,Nat.add_zero] at m0 m1 m2 m3 m4;have C1:=h_ (HIH.out q0 HM0.out W3 F x ins rest (now++[false]) A3 c3 KB kd HB3.out.rt hq (List.all_eq_true.1 HSK.out q0 HM0.out) (HWK.out q0 HM0.out) (by omega) (by rw [List.length_append,Hn.out];simp;omega) hil)
 have HRE:=h_ (bitP_rest (k:=k) (f:=insF ins) (List.all_eq_true.1 HSK.out q0 HM0.out) (old:=rest) (by omega));obtain ⟨r0,Hr0⟩:=nm (bitP k (insF ins) q0 rest);rw [Hr0.out] at C1 HRE;have y4:=(HPB.out W3 HB3.out.upd).cell 4;have y1:=(HPB.out W3 HB3.out.upd).cell 1;unfold pv at C1;clear hle0 hbn hhb hhn hq;go_wp2_with fail
 refine C1.out.mono ?_;rintro e w4 hr;obtain ⟨A4,c4,rfl,hB4⟩:=HB3.out.bit hr;obtain ⟨a0,rest1,add0⟩:=r0;simp only at hB4 HRE;have HB4:=h_ hB4;clear hr C1 y4 y1 m0 m1 m2 m3 m4 HB3 HW3 HB1 c1;have HPE:=h_ (fun (r:List Bool×List Bool×List Bool) (hr:bitL k (insF ins) p.kids rest=r)=>(bitP_op (show ¬0<p.v by omega) k (insF ins) (c::rest) (r:=r) (by rw [HOWN.out];exact hr)))
 rw [HOWN.out] at HPE;rcases ho with e | e | e
 ·rw [e] at HAR HPB HPE e0
  obtain ⟨q1,hk2⟩:∃q1,p.kids=[q0,q1]:=by
   obtain ⟨h,e⟩:=Hq0;have hl:p.kids.length=2:=by rw [Hkn.out,HAR.out];rfl
   match p.kids,hl,h,e with
   | [z,y],_,_,e=>exact ⟨y,by rw [show z=q0 from e]⟩
  have hkn2:kn=2:=by rw [HAR.out];rfl
  have hk1:(1:Int)<(kn:Int):=by omega
  have HM1:Hid (q1∈p.kids):=by show _∈_;rw [hk2];simp
  have z1:=(HPB.out w4 HB4.out.upd).cell 1;have z4:=(HPB.out w4 HB4.out.upd).cell 4;obtain ⟨eb2,eo2,KB2,kd2,eK,m0,m1,m2,m3,m4,hq⟩:=kid_at (HB4.out.pt HFAR.out HPT.out) (i:=1) (q:=q1) (by rw [hk2];exact Nat.lt_succ_self 1) (by simp [hk2])
  injection eK with eK
  injection eK with eK1 eK2
  subst eK1 eK2;simp only [Nat.one_mul] at m0 m1 m2 m3 m4;have hbl:bL p.kids=bN q0+bN q1:=by rw [hk2];simp [bL]
  have hbn:=HBN.out;have hhb:=HHB.out;have hhn:=HHN.out;rw [List.length_cons] at hhb;have hre1:=HRE.out.1;have hre2:=HRE.out.2;have hrl:rest1.length=rest.length - bN q0:=by rw [hre1,List.length_drop]
  have C2:=h_ (HIH.out q1 HM1.out w4 F x ins rest1 ((now++[false])++add0) A4 c4 KB2 kd2 HB4.out.rt hq (List.all_eq_true.1 HSK.out q1 HM1.out) (HWK.out q1 HM1.out) (by omega) (by rw [List.length_append,List.length_append,Hn.out,hre2];simp;omega) hil)
  rw [hk2,bitL_two,Hr0.out] at HPE;simp only at HPE;obtain ⟨r1,Hr1⟩:=nm (bitP k (insF ins) q1 rest1);rw [Hr1.out] at C2 HPE;obtain ⟨A4',hA4⟩:∃z,A4=z:=⟨_,rfl⟩;have HB40:=HB4;obtain ⟨L4,HL4⟩:=nm ((now++[false])++add0).length;unfold pv at C2;clear hbl hbn hhb hhn hre1 hre2 hrl hq hkn2 hk2;go_wp2_with fail
  refine C2.out.mono ?_;rintro e5 w5 hr5;obtain ⟨A5,c5,rfl,hB5⟩:=HB40.out.bit hr5;obtain ⟨b1,rest2,add1⟩:=r1;simp only at hB5 HPE;rw [List.append_assoc (now++[false])] at hB5;have HB5:=h_ hB5;have z1':=(HPB.out w5 HB5.out.upd).cell 1;clear hr5 C2 z1 z4 m0 m1 m2 m3 m4 hB5 HB4 HB40;obtain ⟨cyb,hcy⟩:∃b,(a0&&b1 || a0&&c || b1&&c)=b:=⟨_,rfl⟩;have HRX:Hid (bitP k (insF ins) p (c::rest)=(((a0 ^^ b1) ^^ c),rest2,[cyb]++(add0++add1))):=by show _=_;rw [HPE.out _ rfl,←hcy];rfl
  obtain ⟨wx,hwx⟩:∃z,w5=z:=⟨_,rfl⟩;obtain ⟨addx,hax⟩:∃z,add0++add1=z:=⟨_,rfl⟩;obtain ⟨restx,hrx⟩:∃z,rest2=z:=⟨_,rfl⟩;rw [hax,hrx,hwx] at HB5;rw [hax,hrx] at HRX;rw [hwx] at z1' ⊢;have HBX:=HB5;obtain ⟨A4,hA5⟩:∃z,A5=z:=⟨_,rfl⟩;obtain ⟨c4',hc5⟩:∃z,c5=z:=⟨_,rfl⟩;rw [hA5,hc5] at HBX;clear HPE HB5 HPB hax hrx hwx;obtain ⟨nb,rfl⟩:=HBX.out.rt.own.some_ (by rw [List.length_append,List.length_append];simp;omega);obtain ⟨IA,ic,OA,oc,d0,d1,d2,d3,f3,f2,_,_,_,_⟩:=HBX.out.cells;obtain ⟨L,HL⟩:=nm ((now++[false])++addx).length;have hnL:n<L:=by rw [←HL.out,List.length_append,List.length_append,Hn.out];simp;omega
  have hcn:=HBX.out.rt.own.cell_ (i:=n) (by rw [b8s_len,HL.out];exact hnL);have hfn:=HBX.out.rt.own.frozen_ n;have hxn:¬x=nb:=fun e=>HBX.out.rt.ne (At.some_.2 e)
  have hn0:(0:Int)≤(n:Int):=by omega
  have hnL2:(n:Int)<(L:Int):=by omega
  rw [HL.out] at d3
  have HFIN:Hid (∀vb:Bool,bitP k (insF ins) p (c::rest)=(vb,restx,[cyb]++addx)→BitR w F x k ins now NA (bitP k (insF ins) p (c::rest)) (.returned (b8 vb)) (wx.setCell ⟨nb,n,none⟩ (b8 cyb))):=fun vb h=>by
   rw [h];refine BitR.back HUW.out (BS.done (r:=(vb,restx,[cyb]++addx)) (HBX.out.set n cyb) rfl ?_);rw [←Hn.out];exact set_mid now addx false cyb
  have HFI2:=h_ (HFIN.out _ HRX.out);clear d0 d1 d2 f2 HFIN;subst hcy;clear HRX HBX;cases a0 <;> cases c <;> cases b1
  all_goals
   unfold b8 bW;go_wp2_with fail
   go_ret;exact HFI2.out
 ·rw [e] at HAR HPB HPE e0
  obtain ⟨q1,hk2⟩:∃q1,p.kids=[q0,q1]:=by
   obtain ⟨h,e⟩:=Hq0;have hl:p.kids.length=2:=by rw [Hkn.out,HAR.out];rfl
   match p.kids,hl,h,e with
   | [z,y],_,_,e=>exact ⟨y,by rw [show z=q0 from e]⟩
  have hkn2:kn=2:=by rw [HAR.out];rfl
  have hk1:(1:Int)<(kn:Int):=by omega
  have HM1:Hid (q1∈p.kids):=by show _∈_;rw [hk2];simp
  have z1:=(HPB.out w4 HB4.out.upd).cell 1;have z4:=(HPB.out w4 HB4.out.upd).cell 4;obtain ⟨eb2,eo2,KB2,kd2,eK,m0,m1,m2,m3,m4,hq⟩:=kid_at (HB4.out.pt HFAR.out HPT.out) (i:=1) (q:=q1) (by rw [hk2];exact Nat.lt_succ_self 1) (by simp [hk2])
  injection eK with eK
  injection eK with eK1 eK2
  subst eK1 eK2;simp only [Nat.one_mul] at m0 m1 m2 m3 m4;have hbl:bL p.kids=bN q0+bN q1:=by rw [hk2];simp [bL]
  have hbn:=HBN.out;have hhb:=HHB.out;have hhn:=HHN.out;rw [List.length_cons] at hhb;have hre1:=HRE.out.1;have hre2:=HRE.out.2;have hrl:rest1.length=rest.length - bN q0:=by rw [hre1,List.length_drop]
  have C2:=h_ (HIH.out q1 HM1.out w4 F x ins rest1 ((now++[false])++add0) A4 c4 KB2 kd2 HB4.out.rt hq (List.all_eq_true.1 HSK.out q1 HM1.out) (HWK.out q1 HM1.out) (by omega) (by rw [List.length_append,List.length_append,Hn.out,hre2];simp;omega) hil)
  rw [hk2,bitL_two,Hr0.out] at HPE;simp only at HPE;obtain ⟨r1,Hr1⟩:=nm (bitP k (insF ins) q1 rest1);rw [Hr1.out] at C2 HPE;obtain ⟨A4',hA4⟩:∃z,A4=z:=⟨_,rfl⟩;have HB40:=HB4;obtain ⟨L4,HL4⟩:=nm ((now++[false])++add0).length;unfold pv at C2;clear hbl hbn hhb hhn hre1 hre2 hrl hq hkn2 hk2;go_wp2_with fail
  refine C2.out.mono ?_;rintro e5 w5 hr5;obtain ⟨A5,c5,rfl,hB5⟩:=HB40.out.bit hr5;obtain ⟨b1,rest2,add1⟩:=r1;simp only at hB5 HPE;rw [List.append_assoc (now++[false])] at hB5;have HB5:=h_ hB5;have z1':=(HPB.out w5 HB5.out.upd).cell 1;clear hr5 C2 z1 z4 m0 m1 m2 m3 m4 hB5 HB4 HB40;obtain ⟨cyb,hcy⟩:∃b,(!a0&&b1 || !(a0 ^^ b1)&&c)=b:=⟨_,rfl⟩;have HRX:Hid (bitP k (insF ins) p (c::rest)=(((a0 ^^ b1) ^^ c),rest2,[cyb]++(add0++add1))):=by show _=_;rw [HPE.out _ rfl,←hcy];rfl
  obtain ⟨wx,hwx⟩:∃z,w5=z:=⟨_,rfl⟩;obtain ⟨addx,hax⟩:∃z,add0++add1=z:=⟨_,rfl⟩;obtain ⟨restx,hrx⟩:∃z,rest2=z:=⟨_,rfl⟩;rw [hax,hrx,hwx] at HB5;rw [hax,hrx] at HRX;rw [hwx] at z1' ⊢;have HBX:=HB5;obtain ⟨A4,hA5⟩:∃z,A5=z:=⟨_,rfl⟩;obtain ⟨c4',hc5⟩:∃z,c5=z:=⟨_,rfl⟩;rw [hA5,hc5] at HBX;clear HPE HB5 HPB hax hrx hwx
  cases hcb:cyb with
  | false =>
   rw [hcb] at HRX hcy
   have HFI2:Hid (BitR w F x k ins now NA (bitP k (insF ins) p (c::rest)) (.returned (b8 ((a0 ^^ b1) ^^ c))) wx):=by
    show BitR _ _ _ _ _ _ _ _ _ _;rw [HRX.out];exact BitR.back HUW.out (BS.done (r:=(((a0 ^^ b1) ^^ c),restx,[false]++addx)) HBX.out rfl (by rw [List.append_assoc]))
   clear HRX HBX;cases a0 <;> cases c <;> cases b1 <;> first | (cases hcy) | skip
   all_goals
    unfold b8 bW at HFI2 ⊢;go_wp2_with fail
    go_ret;exact HFI2.out
  | true =>
   rw [hcb] at HRX hcy;subst hcb;obtain ⟨cyb,hcb⟩:∃b,true=b:=⟨_,rfl⟩;rw [hcb] at HRX;obtain ⟨nb,rfl⟩:=HBX.out.rt.own.some_ (by rw [List.length_append,List.length_append];simp;omega);obtain ⟨IA,ic,OA,oc,d0,d1,d2,d3,f3,f2,_,_,_,_⟩:=HBX.out.cells;obtain ⟨L,HL⟩:=nm ((now++[false])++addx).length;have hnL:n<L:=by rw [←HL.out,List.length_append,List.length_append,Hn.out];simp;omega
   have hcn:=HBX.out.rt.own.cell_ (i:=n) (by rw [b8s_len,HL.out];exact hnL);have hfn:=HBX.out.rt.own.frozen_ n;have hxn:¬x=nb:=fun e=>HBX.out.rt.ne (At.some_.2 e)
   have hn0:(0:Int)≤(n:Int):=by omega
   have hnL2:(n:Int)<(L:Int):=by omega
   rw [HL.out] at d3
   have HFIN:Hid (∀vb:Bool,bitP k (insF ins) p (c::rest)=(vb,restx,[cyb]++addx)→BitR w F x k ins now NA (bitP k (insF ins) p (c::rest)) (.returned (b8 vb)) (wx.setCell ⟨nb,n,none⟩ (b8 cyb))):=fun vb h=>by
    rw [h];refine BitR.back HUW.out (BS.done (r:=(vb,restx,[cyb]++addx)) (HBX.out.set n cyb) rfl ?_);rw [←Hn.out];exact set_mid now addx false cyb
   have HFI2:=h_ (HFIN.out _ HRX.out);clear d0 d1 d2 f2 HFIN;subst hcb;clear HRX HBX;cases a0 <;> cases c <;> cases b1 <;> first | (cases hcy) | skip
   all_goals
    unfold b8 bW;go_wp2_with fail
    go_ret;exact HFI2.out
 ·rw [e] at HAR HPB HPE e0
  have hk1:p.kids=[q0]:=by
   obtain ⟨h,e⟩:=Hq0;have hl:p.kids.length=1:=by rw [Hkn.out,HAR.out];rfl
   match p.kids,hl,h,e with
   | [z],_,_,e=>rw [show z=q0 from e]
  have z1:=(HPB.out w4 HB4.out.upd).cell 1;rw [hk1,bitL_one,Hr0.out] at HPE;obtain ⟨cyb,hcy⟩:∃b,(!a0&&c)=b:=⟨_,rfl⟩;have HRX:Hid (bitP k (insF ins) p (c::rest)=((!a0 ^^ c),rest1,[cyb]++add0)):=by show _=_;rw [HPE.out _ rfl,←hcy];rfl
  obtain ⟨wx,hwx⟩:∃z,w4=z:=⟨_,rfl⟩;obtain ⟨addx,hax⟩:∃z,add0=z:=⟨_,rfl⟩;obtain ⟨restx,hrx⟩:∃z,rest1=z:=⟨_,rfl⟩;rw [hax,hrx,hwx] at HB4;rw [hax,hrx] at HRX;rw [hwx] at z1 ⊢;have HBX:=HB4;clear HPE hk1 HB4 HPB;obtain ⟨nb,rfl⟩:=HBX.out.rt.own.some_ (by rw [List.length_append,List.length_append];simp;omega);obtain ⟨IA,ic,OA,oc,d0,d1,d2,d3,f3,f2,_,_,_,_⟩:=HBX.out.cells;obtain ⟨L,HL⟩:=nm ((now++[false])++addx).length;have hnL:n<L:=by rw [←HL.out,List.length_append,List.length_append,Hn.out];simp;omega
  have hcn:=HBX.out.rt.own.cell_ (i:=n) (by rw [b8s_len,HL.out];exact hnL);have hfn:=HBX.out.rt.own.frozen_ n;have hxn:¬x=nb:=fun e=>HBX.out.rt.ne (At.some_.2 e)
  have hn0:(0:Int)≤(n:Int):=by omega
  have hnL2:(n:Int)<(L:Int):=by omega
  rw [HL.out] at d3
  have HFIN:Hid (∀vb:Bool,bitP k (insF ins) p (c::rest)=(vb,restx,[cyb]++addx)→BitR w F x k ins now NA (bitP k (insF ins) p (c::rest)) (.returned (b8 vb)) (wx.setCell ⟨nb,n,none⟩ (b8 cyb))):=fun vb h=>by
   rw [h];refine BitR.back HUW.out (BS.done (r:=(vb,restx,[cyb]++addx)) (HBX.out.set n cyb) rfl ?_);rw [←Hn.out];exact set_mid now addx false cyb
  have HFI2:=h_ (HFIN.out _ HRX.out);clear d0 d1 d2 f2 HFIN;subst hcy;clear HRX HBX;cases a0 <;> cases c
  all_goals
   unfold b8 bW;go_wp2_with fail
   go_ret;exact HFI2.out
theorem RT.setOld {w:World} {F:Nat→Prop} {x k:Nat} {ins old now old':List Bool} {NA A':Option Addr} {nc ol oc':Nat} (h:RT w F x k ins old now NA nc) (hs:Sl w F A' (b8s old')) (hl:old'.length=ol) (hle:ol≤oc'):RT (w.setCell ⟨x,2,none⟩ (.slice A' ol oc')) F x k ins old' now NA nc:=by
 subst hl;have hne:=h.ne;obtain ⟨⟨IA,ic,OA,oc,h1,h2,_,_,h5⟩,h6,h7⟩:=h;have u:=updCell w x 2 (.slice A' old'.length oc');refine ⟨⟨IA,ic,A',oc',?_,h2.upd u (fun i _ q e=>(h7 i q).2.1 e),hs.upd u (fun i _ q e=>(h7 i q).2.1 e),hle,h5⟩,h6.upd u (fun i q e=>hne (by subst e;exact q)),fun i q=>⟨Nat.lt_of_lt_of_le (h7 i q).1 u.size,(h7 i q).2⟩⟩
 have:=h1.set_ 2 (.slice A' old'.length oc');simpa using this
theorem BS.setOld {w0 w:World} {F:Nat→Prop} {x k:Nat} {ins old now old':List Bool} {NA0 NA A':Option Addr} {nc ol oc':Nat} (h:BS w0 NA0 w F x k ins old now NA nc) (hs:Sl w F A' (b8s old')) (hl:old'.length=ol) (hle:ol≤oc'):BS w0 NA0 (w.setCell ⟨x,2,none⟩ (.slice A' ol oc')) F x k ins old' now NA nc :=
 ⟨h.rt.setOld hs hl hle,h.at_,h.upd.trans (updCell w x 2 _) (fun _ _ e=>.inl e)⟩
theorem b8s_take (l:List Bool) (m:Nat):(b8s l).take m=b8s (l.take m):=by unfold b8s;rw [List.map_take]
theorem b8s_drop (l:List Bool) (m:Nat):(b8s l).drop m=b8s (l.drop m):=by unfold b8s;rw [List.map_drop]
theorem BS.bit2 {w0 w w':World} {F:Nat→Prop} {x k:Nat} {ins old now old' now':List Bool} {NA0 NA NA':Option Addr} {nc nc':Nat} (h:BS w0 NA0 w F x k ins old now NA nc) (hr:RT w' F x k ins old' now' NA' nc') (ha:∀i,At NA' i→At NA i∨w.heap.size≤i) (hu:Upd (fun i=>i=x∨At NA i) w w'):BS w0 NA0 w' F x k ins old' now' NA' nc':=by
 refine ⟨hr,fun i q=>?_,h.upd.trans hu (fun i hi q=>?_)⟩
 ·rcases ha i q with q | q
  ·exact h.at_ i q
  ·exact .inr (Nat.le_trans h.upd.size q)
 ·rcases q with q | q
  ·exact .inl q
  ·rcases h.at_ i q with q | q
   ·exact .inr q
   ·omega
theorem BS.far {w0 w w':World} {F S:Nat→Prop} {x k:Nat} {ins old now:List Bool} {NA0 NA:Option Addr} {nc:Nat} (h:BS w0 NA0 w F x k ins old now NA nc) (u:Upd S w w') (hx:¬S x) (hA:∀i,At NA i→¬S i) (hF:∀i,F i→¬S i) (h0:∀i,i<w0.heap.size→¬S i):BS w0 NA0 w' F x k ins old now NA nc :=
 ⟨h.rt.upd u hx hA hF,h.at_,h.upd.trans u (fun i hi q=>(h0 i hi q).elim)⟩
def lay (l z m:List Bool) (j:Nat):List Bool:=l++(m.take j++z.drop j)
theorem lay_zero (l z m:List Bool):lay l z m 0=l++z:=by simp [lay]
theorem lay_all (l z m:List Bool) (h:z.length=m.length):lay l z m m.length=l++m:=by simp [lay,h]
theorem lay_set {l z m:List Bool} {j:Nat} (hm:j<m.length) (hz:j<z.length):(lay l z m j).set (l.length+j) (m.getD j false)=lay l z m (j+1):=by
 unfold lay;rw [List.set_append_right _ _ (by omega),Nat.add_sub_cancel_left,List.set_append_right _ _ (by rw [List.length_take];omega),List.length_take,Nat.min_eq_left (by omega),Nat.sub_self,List.take_succ_eq_append_getElem hm,List.append_assoc,getD_of hm]
 congr 2
 rw [List.drop_eq_getElem_cons hz];rfl
theorem lay_len {l z m:List Bool} {j:Nat} (hm:j≤m.length) (hz:z.length=m.length):(lay l z m j).length=l.length+m.length:=by
 unfold lay;rw [List.length_append,List.length_append,List.length_take,List.length_drop];omega
theorem lay_app {l z m adds:List Bool} {j:Nat} {b:Bool} (hm:j≤m.length) (hz:z.length=m.length) (hj:j<m.length):(lay l z m j++adds).set (l.length+j) b=(lay l z m j).set (l.length+j) b++adds:=by
 rw [List.set_append_left _ _ (by rw [lay_len hm hz];omega)]
set_option maxRecDepth 100000 in
set_option maxHeartbeats 16000000 in
theorem rShift_c (k:Nat) (p:Pt) (ho:p.op=12) (hv:¬0<p.v) (IH:∀q∈p.kids,BitC 123 k q):BitC 140 k p:=by
 intro w F x ins old now NA nc KA kc hrt hp hs hw hb hn hil;have hsK:=hs;rw [supF_op hv,Bool.and_eq_true] at hsK;have hwI:=(WfP.iff ins.length p).1 hw;have har:=hwI.2.2.1 (by have:=hwI.1;omega);rw [ho] at har
 obtain ⟨q0,q1,hk2⟩:∃q0 q1,p.kids=[q0,q1]:=by
  match p.kids,har with
  | [a,b],_=>exact ⟨a,b,rfl⟩
 obtain ⟨m,Hm⟩:=nm (ownN p.op p.kids);have hm64:m<64:=by rw [←Hm.out];exact ownN_lt _ _
 have hq1:q1.op=1∧bN q1=0∧∀old,bitP k (insF ins) q1 old=(bI q1.imm k,old,[])∨0<q1.v:=by
  have h1:=hsK.1;unfold supO at h1;have h1:=of_decide_eq_true h1;rw [ho,hk2] at h1;have h2:q1.op=1:=by simp [kid] at h1;omega
  have w1:=(WfP.iff ins.length q1).1 (hwI.2.2.2 q1 (by rw [hk2];simp));refine ⟨h2,?_,fun old=>?_⟩
  ·rw [bN_iff]
   split
   ·rfl
   ·rename_i hv1;have hk0:q1.kids=[]:=List.length_eq_zero_iff.1 (by rw [w1.2.2.1 (by omega),h2];rfl);rw [hk0,h2];rfl
  ·by_cases hv1:0<q1.v
   ·exact .inr hv1
   ·have hk0:q1.kids=[]:=List.length_eq_zero_iff.1 (by rw [w1.2.2.1 (by omega),h2];rfl);exact .inl (by rw [bitP_op hv1 k (insF ins) old (r:=([],old,[])) (by rw [hk0,h2];rfl),h2];rfl)
 have hbn:bN p=m+bN q0:=by rw [bN_iff,if_neg hv,Hm.out,hk2];simp [bL,hq1.2.1]
 have ha:=and63 q1.imm;have hom:(q1.imm % 64).toNat=m:=by rw [←Hm.out,ho,hk2];rfl
 rw [hom] at ha;obtain ⟨W,HW⟩:=nm (w.alloc (.cells #[.int .i64 p.v,.int .i64 p.op,.int .i64 p.imm,.int .i64 p.iv,.slice KA p.kids.length kc] 24));have hU:Upd Non w W:=by rw [←HW.out];exact Upd.refl.alloc _
 have e0:=HW.out;have hbk:Blk W w.heap.size 24 #[.int .i64 p.v,.int .i64 p.op,.int .i64 p.imm,.int .i64 p.iv,.slice KA p.kids.length kc]:=by rw [←HW.out];exact Blk.new _ _ _
 have HB0:=h_ (hrt.non hU).bs;have HPT:=h_ (PtK.upd hU (fun _ _ _ f=>f) _ _ _ hp);have HUW:=h_ hU;have HFAR:Hid (∀i,F i→i≠x∧¬At NA i):=fun i q=>(hrt.far i q).2
 have HXL:Hid (x<w.heap.size):=hrt.lt;have HNL:Hid (∀i,At NA i→i<w.heap.size):=fun i q=>hrt.own.lt q
 have HPB:Hid (∀w',Upd (fun i=>i=x∨At NA i) W w'→Blk w' w.heap.size 24 #[.int .i64 p.v,.int .i64 p.op,.int .i64 p.imm,.int .i64 p.iv,.slice KA p.kids.length kc]):=fun w' u=>hbk.upd u (fun q=>by
  rcases q with q | q
  ·have:=HXL.out;omega
  ·have:=HNL.out _ q;omega)
 obtain ⟨pb,hpb⟩:∃b,w.heap.size=b:=⟨_,rfl⟩;rw [hpb] at HPB;obtain ⟨kn,Hkn⟩:=nm p.kids.length;have hkn2:kn=2:=by rw [←Hkn.out,hk2];rfl
 have hk1:(1:Int)<(kn:Int):=by omega
 have hk0:(0:Int)<(kn:Int):=by omega
 rw [Hkn.out,ho] at HPB e0;have HOP:=h_ ho;obtain ⟨eb,eo,KB,kd,rfl,_,_,m2,_,_,_⟩:=kid_at (HB0.out.pt HFAR.out HPT.out) (i:=1) (q:=q1) (by rw [hk2];exact Nat.lt_succ_self 1) (by simp [hk2])
 simp only [Nat.one_mul] at m2;have c4:=(HPB.out W Upd.refl).cell 4;obtain ⟨n,Hn⟩:=nm now.length;obtain ⟨ol,Hol⟩:=nm old.length;rw [Hn.out] at hn;rw [Hol.out] at hb;have HIH:=h_ IH;have hn1:n≤1000000:=by omega
 have hmol:m≤ol:=by omega
 have HHN:=h_ hn;have HHB:=h_ hb;have HBN:=h_ hbn;have HK2:=h_ hk2;have HQ1:=h_ hq1;have HSK:=h_ hsK.2;have HWK:=h_ hwI.2.2.2;have HV:=h_ hv;unfold pv;rw [Hkn.out,ho];obtain ⟨IA,ic,OA,oc,d0,d1,d2,d3,f3,f2,_,hSO,hoc,_⟩:=HB0.out.cells;rw [Hol.out] at d2 hoc;rw [Hn.out] at d3;have HSO:=h_ hSO;have hmo0:(0:Int)≤(m:Int):=by omega
 have hmo1:(m:Int)≤(oc:Int):=by omega
 have hmo2:(m:Int)≤(ol:Int):=by omega
 have hmo3:(ol:Int)≤(oc:Int):=by omega
 have hsT:=HSO.out.take_ m;have hsTl:((b8s old).take m).length=m:=by rw [List.length_take,b8s_len,Hol.out];omega
 clear ho har hrt hp hs hw hb hn hsK hwI hbn hbk IH hk2 hq1 hkn2 hv hom;go_enter Tryz.func140,Tryz.ntmps140
 go_upto_region 2 with fail
 obtain ⟨W1,HW1⟩:=nm (W.alloc (.cells #[] 5));have u1:Upd Non W W1:=by rw [←HW1.out];exact Upd.refl.alloc _
 have hoE:Own W1 5 1 (some ⟨W.heap.size,0,none⟩) 0 0 []:=by rw [←HW1.out];exact own_empty _ _ _
 have hsT1:=hsT.upd u1 (fun _ _ _ f=>f);have hxW:x<W.heap.size:=HB0.out.rt.lt
 go_wp2_with (at_builtin;rw [HW1.out];refine wpList_app rfl rfl T_u8s rfl hoE rfl hsT1 (by rw [hsTl,Nat.mul_one]) (by intro u hu;have hu:=List.mem_of_mem_take hu;unfold b8s at hu;obtain ⟨z,_,rfl⟩:=List.mem_map.1 hu;rfl) (by simp only [maxLen];omega) (by omega) ?_)
 intro A2 c2 w2 ho2 hu2 hat2;rw [b8s_take] at ho2;have HU2:Hid (Upd Non W w2):=u1.trans hu2 (fun i hi q=>by rw [At.some_] at q;omega);have HB2:=h_ (HB0.out.non HU2.out);have HQ2:=h_ ho2
 have HQF:Hid (∀i,At A2 i→W.heap.size≤i):=fun i q=>by
  rcases hat2 i q with q | q
  ·rw [At.some_] at q;omega
  ·have:=u1.size;omega
 clear ho2 hu2 hat2 hoE hsT1 hsT hsTl u1 d0 d1 d2 d3 f3 f2 hxW c4 m2;obtain ⟨IA,ic,OA,oc,d0,d1,d2,d3,f3,f2,_,hSO,hoc,_⟩:=HB2.out.cells;rw [Hol.out] at d2 hoc;rw [Hn.out] at d3;have hmo1:(m:Int)≤(oc:Int):=by omega
 have hmo3:(ol:Int)≤(oc:Int):=by omega
 have HCUT:=h_ (hSO.cut m oc (by rw [b8s_len,Hol.out];exact hoc));have HOC:Hid (ol≤oc):=hoc
 go_upto_region 3 with fail
 go_cut [] (fun wx=>∃z:Unit,z=()∧Hid (BS W NA wx F x k ins (old.drop m) now NA nc)∧Hid (Upd (·=x) w2 wx))
 case first =>
  have HP:Hid (∀A' oc',Sl w2 F A' ((b8s old).drop m)→ol - m≤oc'→BS W NA (w2.setCell ⟨x,2,none⟩ (.slice A' (ol - m) oc')) F x k ins (old.drop m) now NA nc):=fun A' oc' h1 h2=>HB2.out.setOld (by rw [←b8s_drop];exact h1) (by rw [List.length_drop,Hol.out]) h2
  by_cases hom:oc=m
  ·have hol0:ol=m:=by have:=HOC.out;omega
   have HC2:=HCUT.out;rw [if_pos hom] at HC2;have HP2:=h_ (HP.out OA 0 HC2 (by omega));rw [hol0,Nat.sub_self] at HP2;subst hom;subst hol0;clear HC2 HP HCUT;go_wp2_with fail
   go_meet
   case rel=>exact ⟨(),trivial,HP2.out,updCell _ _ _ _⟩
  ·have HC2:=HCUT.out;rw [if_neg hom] at HC2;have HP2:=h_ (HP.out _ (oc - m) HC2 (by omega));clear HC2 HP HCUT;go_wp2_with fail
   go_meet
   case rel=>exact ⟨(),trivial,HP2.out,updCell _ _ _ _⟩
 case rest =>
  obtain ⟨w3,rfl⟩:∃w3:World,w3=wc:=⟨_,rfl⟩;obtain ⟨_,_,HB3,HU3⟩:=hcut;clear d0 d1 d2 d3 f3 f2 hSO hoc HCUT;obtain ⟨IA,ic,OA,oc,d0,d1,d2,d3,f3,f2,_,_,_,_⟩:=HB3.out.cells;rw [Hn.out] at d3;have HQ3:=h_ (HQ2.out.upd HU3.out (fun i q e=>by subst e;have:=HQF.out _ q;have:=HB0.out.rt.lt;omega));have hO3:=HB3.out.rt.own;rw [Hn.out] at hO3
  have hz8:∀i z,Tryz.prog.info? 5=some i→i.zero=some z→z.cells=#[b8 false]:=fun i z h1 h2=>by
   have h3:(Tryz.prog.info? 5).map (fun i=>i.zero.map (·.cells))=some (some #[b8 false]):=by kernel_rfl
   rw [h1] at h3;simp only [Option.map_some,h2,Option.some.injEq] at h3;exact h3
  have HZ8:=h_ hz8;clear hz8
  go_wp2_with (at_builtin;refine wpList_appz rfl rfl T_u8s (kn:=.i64) rfl HZ8.out rfl rfl hO3 rfl (by simp only [maxLen];omega) (by omega) ?_)
  intro A4 c4 w4 ho4 hu4 hat4;have hx3:=HB3.out.rt.ne;have hp4:=HB3.out.push (z:=List.replicate m false) (m:=m) Upd.refl (by rw [Hn.out];simpa [b8s] using ho4) (by rw [List.length_replicate]) hu4 hat4;rw [Hn.out] at hp4;have g3:=u_ d3 hu4 hx3
  have hfz:w4.frozen? ⟨x,3,none⟩=false:=by
   obtain ⟨_,_,_,_,h1,_⟩:=HB3.out.rt.blk;exact (h1.upd hu4 hx3).frozen 3
  obtain ⟨W4,HW4⟩:=nm (w4.setCell ⟨x,3,none⟩ (.slice A4 (n+m) c4));rw [HW4.out] at hp4;have HB4:=h_ hp4
  have HQA:Hid (∀i,At A2 i→¬At A4 i):=fun i q h=>by
   have h1:=HQ3.out.lt q;have h2:=HQF.out i q;rcases hat4 i h with h | h
   ·have:=HNL.out _ h;have:=HUW.out.size;omega
   ·omega
  have HQ4:=h_ ((HQ3.out.upd hu4 (fun i q h=>by have h1:=HQF.out i q;have h2:=HNL.out _ h;have h3:=HUW.out.size;omega)).upd (updCell w4 x 3 (.slice A4 (n+m) c4)) (fun i q e=>by subst e;have:=HQF.out _ q;have:=HB0.out.rt.lt;omega))
  rw [HW4.out] at HQ4;clear hp4 ho4 hu4 hat4 hO3 hx3 d0 d1 d2 d3 f3 f2
  go_upto_region 6 with fail
  rw [HW4.out];clear g3 hfz;have HM0:Hid (q0∈p.kids):=by show _∈_;rw [HK2.out];simp
  have y4:=(HPB.out W4 HB4.out.upd).cell 4;obtain ⟨eb2,eo2,KB2,kd2,eK,m0,m1,m2,m3,m4,hq⟩:=kid_at (HB4.out.pt HFAR.out HPT.out) (i:=0) (q:=q0) (by rw [HK2.out];exact Nat.succ_pos 1) (by simp [HK2.out])
  injection eK with eK
  injection eK with eK1 eK2
  subst eK1 eK2;simp only [Nat.zero_mul,Nat.add_zero] at m0 m1 m2 m3 m4;have hbn:=HBN.out;have hhb:=HHB.out;have hhn:=HHN.out;have hdl:(old.drop m).length=ol - m:=by rw [List.length_drop,Hol.out]
  have C1:=h_ (HIH.out q0 HM0.out W4 F x ins (old.drop m) (now++List.replicate m false) A4 c4 KB2 kd2 HB4.out.rt hq (List.all_eq_true.1 HSK.out q0 HM0.out) (HWK.out q0 HM0.out) (by omega) (by rw [List.length_append,Hn.out,List.length_replicate];omega) hil)
  have HRE:=h_ (bitP_rest (k:=k) (f:=insF ins) (List.all_eq_true.1 HSK.out q0 HM0.out) (old:=old.drop m) (by omega));obtain ⟨r0,Hr0⟩:=nm (bitP k (insF ins) q0 (old.drop m));rw [Hr0.out] at C1 HRE;unfold pv at C1;clear hq hbn hhb hhn hdl
  go_wp2_with (at_builtin;fail)
  refine C1.out.mono ?_;rintro e w5 hr;obtain ⟨A5,c5,rfl,hrt5,hat5,hu5⟩:=hr;have hB5:=HB4.out.bit2 hrt5 hat5 hu5;obtain ⟨a0,rest1,add0⟩:=r0;simp only at hB5 HRE;have HB5:=h_ hB5
  have hQ5:=HQ4.out.upd hu5 (fun i q h=>by
   rcases h with h | h
   ·subst h;have:=HQF.out _ q;have:=HB0.out.rt.lt;omega
   ·exact HQA.out i q h)
  have HQA5:Hid (∀i,At A2 i→¬At A5 i):=fun i q h=>by
   rcases hat5 i h with h | h
   ·exact HQA.out i q h
   ·have:=HQ4.out.lt q;omega
  have HPE:=h_ (bitP_op (show ¬0<p.v by have:=HV.out;omega) k (insF ins) old (r:=([a0,(bitP k (insF ins) q1 rest1).1],rest1,add0)) (by
   rw [Hm.out,HK2.out,bitL_two,Hr0.out]
   have h1:(bitP k (insF ins) q1 rest1).2=(rest1,[]):=by
    rcases HQ1.out.2.2 rest1 with h | h
    ·rw [h]
    ·rw [bitP_var h]
   simp only [h1,List.append_nil]))
  rw [Hm.out,HOP.out] at HPE;obtain ⟨q,HqL⟩:=nm (old.take m++[a0]);have HRX:Hid (bitP k (insF ins) p old=(q.headD false,rest1,q.tail++add0)):=by show _=_;rw [HPE.out,←HqL.out];rfl
  obtain ⟨vq,Hvq⟩:=nm (q.headD false);rw [Hvq.out] at HRX;have hql:q.length=m+1:=by rw [←HqL.out,List.length_append,List.length_take,Hol.out];simp;omega
  clear hB5 hrt5 hat5 hu5 C1 m0 m1 m2 m3 m4 y4 HPE;unfold b8
  go_wp2_with (at_builtin;refine wpList_app rfl rfl T_u8s rfl (hQ5.alloc _) rfl (Sl.new _ _ _) rfl (by simp [Value.oneCell']) (by simp only [maxLen];omega) (by omega) ?_)
  intro A6 c6 w6 ho6 hu6 hat6;have hoq:Own w6 5 1 A6 (m+1) c6 (b8s q):=by rw [←HqL.out];unfold b8s;rw [List.map_append];exact ho6
  have HB6:=h_ ((HB5.out.non ((Upd.refl (S:=Non)).alloc (.cells #[.int .u8 (bW a0)] 5))).far hu6 (fun h=>by have:=HQF.out _ h;have:=HB0.out.rt.lt;omega) (fun i h h2=>HQA5.out i h2 h) (fun i h h2=>by have h1:=HQF.out _ h2;have h3:=(HB0.out.rt.far i h).1;omega) (fun i hi h2=>by have h1:=HQF.out _ h2;omega))
  have HQ6:=h_ hoq
  have HQA6:Hid (∀i,At A6 i→¬At A5 i):=fun i h h2=>by
   rcases hat6 i h with h | h
   ·exact HQA5.out i h h2
   ·have h3:=HB5.out.rt.own.lt h2;omega
  have HQF6:Hid (∀i,At A6 i→W.heap.size≤i):=fun i h=>by
   rcases hat6 i h with h | h
   ·exact HQF.out i h
   ·have:=HB5.out.upd.size;omega
  clear ho6 hu6 hat6 hoq hQ5;obtain ⟨qb,rfl⟩:=HQ6.out.some_ (Nat.succ_pos m);have hm0i:(0:Int)≤(m:Int):=by omega
  go_wp2_with fail
  go_loopg [8] m (fun gg s8 wr=>∃j:Nat,Hid (gg=m - j)∧j≤m∧s8=.int .i64 j∧Hid (BS W NA wr F x k ins rest1 (lay now (List.replicate m false) q.tail j++add0) A5 c5)∧Hid (Own wr 5 1 (some ⟨qb,0,none⟩) (m+1) c6 (b8s q)))
  case atStart=>exact ⟨0,rfl,by omega,rfl,by rw [lay_zero];exact HB6.out,HQ6.out⟩
  case round =>
   obtain ⟨j,Hg,hj,rfl,HBj,HQj⟩:=hrel;by_cases hjm:j<m
   ·have htl:q.tail.length=m:=by rw [List.length_tail,hql];rfl
    have hll:(lay now (List.replicate m false) q.tail j).length=n+m:=by rw [lay_len (by rw [htl];exact hj) (by rw [List.length_replicate,htl]),Hn.out,htl]
    obtain ⟨nb,rfl⟩:=HBj.out.rt.own.some_ (by rw [List.length_append,hll];omega);obtain ⟨IA,ic,OA,oc,d0,d1,d2,d3,f3,f2,_,_,_,_⟩:=HBj.out.cells;have hLL:n+j<(lay now (List.replicate m false) q.tail j++add0).length:=by rw [List.length_append,hll];omega
    obtain ⟨vc,hcn⟩:∃v,wr.cell? ⟨nb,n+j,none⟩=some v:=⟨_,HBj.out.rt.own.cell_ (i:=n+j) (by rw [b8s_len];exact hLL)⟩;have hfn:=HBj.out.rt.own.frozen_ (n+j);obtain ⟨vj,Hvj⟩:=nm (q.tail.getD j false);have hqj:=HQj.out.cell_ (i:=j+1) (by rw [b8s_len,hql];omega)
    have hqv:(b8s q)[j+1]'(by rw [b8s_len,hql];omega)=.int .u8 (bW vj):=by
     have h1:(b8s q)[j+1]'(by rw [b8s_len,hql];omega)=b8 (q[j+1]'(by omega)):=by unfold b8s;rw [List.getElem_map]
     rw [h1,←Hvj.out,getD_of (by omega:j<q.tail.length),List.getElem_tail];rfl
    rw [hqv] at hqj;have hst:=(HBj.out.non (Upd.refl (S:=Non) (w:=wr)).drew).set (n+j) vj;rw [←Hn.out,lay_app (by rw [htl];exact hj) (by rw [List.length_replicate,htl]) (by rw [htl];exact hjm),←Hvj.out,lay_set (by rw [htl];exact hjm) (by rw [List.length_replicate];exact hjm),Hvj.out,Hn.out] at hst
    have hqn:¬qb=nb:=fun e=>HQA6.out qb (At.some_.2 rfl) (At.some_.2 e)
    have hxn:¬x=nb:=fun e=>HBj.out.rt.ne (At.some_.2 e)
    have HQst:=h_ ((HQj.out.upd (Upd.refl (S:=Non) (w:=wr)).drew (fun _ _ f=>f)).upd (updCell wr.drew nb (n+j) (b8 vj)) (fun i h e=>by rw [At.some_] at h;exact hqn (h.symm.trans e)))
    have HST:=h_ hst;obtain ⟨L,HL⟩:=nm (lay now (List.replicate m false) q.tail j++add0).length;rw [HL.out] at d3 hLL;have q1:IntKind.i64.wrap ((n:Int)+(j:Int))=((n+j:Nat):Int):=by rw [i64w_of (by unfold I64;omega)];omega
    have q2:IntKind.i64.wrap ((j:Int)+1)=((j+1:Nat):Int):=by rw [i64w_of (by unfold I64;omega)];omega
    have q3:(0:Int)≤((n+j:Nat):Int):=by omega
    have q4:((n+j:Nat):Int)<(L:Int):=by omega
    have q5:(0:Int)≤((j+1:Nat):Int):=by omega
    have q6:((j+1:Nat):Int)<(m:Int)+1:=by omega
    have hjm2:(j:Int)<(m:Int):=by omega
    obtain ⟨nj,Hnj⟩:=nm (n+j);rw [Hnj.out] at q1 q3 q4 hcn hfn HST HQst;obtain ⟨j1,Hj1⟩:=nm (j+1);rw [Hj1.out] at q2 q5 q6 hqj;clear hst hqv htl hll d0 d1 d2 f3 f2;unfold b8 at HST HQst
    go_upto_region 10 with fail
    refine wp_region_held_drew (S:=fun w'=>w'.cell? ⟨x,3,none⟩=some (.slice (some ⟨nb,0,none⟩) L c5)∧w'.cell? ⟨qb,j1,none⟩=some (.int .u8 (bW vj))) (by kernel_rfl) ⟨d3,hqj⟩ (fun hHeld=>?_)
    refine wpT 0 ?_;(try simp only [y_,z_]);refine wpT 1 ?_;(try simp only [y_,z_]);refine wpT 2 ?_;(try simp only [y_,z_]);refine wpT 3 ?_;(try simp only [y_,z_]);refine wpT 4 ?_;(try simp only [y_,z_]);refine wpT 5 ?_;(try simp only [y_,z_]);refine wpT 6 ?_;(try simp only [y_,z_]);refine wpT 7 ?_;(try simp only [y_,z_]);refine wpT 8 ?_;(try simp only [y_,z_]);refine wpT 9 ?_;(try simp only [y_,z_]);refine wpT 10 ?_;(try simp only [y_,z_]);refine wpT 11 ?_;(try simp only [y_,z_]);refine wpT 12 ?_;(try simp only [y_,z_]);refine aR_ (rs:=[13]) (by kernel_rfl) (by simp) ?_;refine aC_ rfl (fun K hK=>?_) aN_;go_simp;refine hK.out _ _ ?_ (fun hHeld=>?_)
    ·exact ⟨by rw [World.cell?_of_block (w:=wr.drew) ((updCell wr.drew nb nj _).block x HBj.out.rt.lt hxn)];exact d3,by rw [World.cell?_of_block (w:=wr.drew) ((updCell wr.drew nb nj _).block qb (HQj.out.lt (At.some_.2 rfl)) hqn)];exact hqj⟩
    clear hK K;(try simp only [y_,z_]);refine aD_ (by kernel_rfl) ?_ _;clear hHeld hqj d3 hcn hfn;go_wp2_with fail
    go_roundg (m - (j+1))
    case measure=>rw [Hg.out];omega
    case rel=>exact ⟨j+1,rfl,by omega,by first | (rw [Hj1.out];done) | (rw [←Hj1.out];go_num) | go_num,HST.out,HQst.out⟩
   ·obtain rfl:m=j:=by omega
    have hc0:=HQj.out.cell_ (i:=0) (by rw [b8s_len,hql];exact Nat.succ_pos m)
    have hq0:(b8s q)[0]'(by rw [b8s_len,hql];exact Nat.succ_pos m)=.int .u8 (bW vq):=by
     rw [←Hvq.out]
     cases q with
     | nil=>cases hql
     | cons z zs=>rfl
    rw [hq0] at hc0;have hm1:(0:Int)<((m+1:Nat):Int):=by omega
    have HFIN:Hid (BitR w F x k ins now NA (bitP k (insF ins) p old) (.returned (b8 vq)) wr):=by
     show BitR _ _ _ _ _ _ _ _ _ _;rw [HRX.out];refine BitR.back HUW.out (BS.done (r:=(vq,rest1,q.tail++add0)) HBj.out rfl ?_);have hl:q.tail.length=m:=by rw [List.length_tail,hql];rfl
     have:=lay_all now (List.replicate m false) q.tail (by rw [List.length_replicate,hl]);rw [hl] at this;rw [this,List.append_assoc]
    unfold b8 at HFIN;clear hq0;go_wp2_with fail
    go_ret;exact HFIN.out
theorem BS.kid {W w:World} {F:Nat→Prop} {x k:Nat} {ins old now:List Bool} {NA A:Option Addr} {c:Nat} (h:BS W NA w F x k ins old now A c) (h0:∀i,F i→i≠x∧¬At NA i) {p q:Pt} {KA:Option Addr} {kc:Nat} (hp:PtK W F p KA kc) {i:Nat} (hi:i<p.kids.length) (e:p.kids[i]=q) (IH:BitC 123 k q) (hs:supF q=true) (hw:WfP ins.length q) (hb:bN q≤old.length) (hn:now.length+bN q≤1000000) (hil:ins.length≤1000)
  {r:Bool×List Bool×List Bool} (hr:bitP k (insF ins) q old=r) :
  ∃b o KB kd,KA=some ⟨b,o,none⟩∧w.cell? ⟨b,o+i * 5,none⟩=some (.int .i64 q.v)∧w.cell? ⟨b,o+i * 5+1,none⟩=some (.int .i64 q.op)∧w.cell? ⟨b,o+i * 5+2,none⟩=some (.int .i64 q.imm)∧w.cell? ⟨b,o+i * 5+3,none⟩=some (.int .i64 q.iv)∧w.cell? ⟨b,o+i * 5+4,none⟩=some (.slice KB q.kids.length kd) ∧
   Hid (Calls Tryz.prog 123 #[.pointer (some ⟨x,0,none⟩),.agg #[.int .i64 q.v,.int .i64 q.op,.int .i64 q.imm,.int .i64 q.iv,.slice KB q.kids.length kd]] w fun e w'=>∃A' c',e=.returned (b8 r.1)∧BS W NA w' F x k ins r.2.1 (now++r.2.2) A' c'):=by
 subst hr;obtain ⟨b,o,KB,kd,e1,g0,g1,g2,g3,g4,hq⟩:=kid_at (h.pt h0 hp) hi e;refine ⟨b,o,KB,kd,e1,g0,g1,g2,g3,g4,?_⟩;exact (IH w F x ins old now A c KB kd h.rt hq hs hw hb hn hil).mono fun e w' hr=>h.bit hr
theorem BS.takeC {W w:World} {F:Nat→Prop} {x k:Nat} {ins old now:List Bool} {NA A:Option Addr} {c:Nat} {b:Bool} (h:BS W NA w F x k ins (b::old) now A c):Hid (Calls Tryz.prog 124 #[.pointer (some ⟨x,0,none⟩)] w fun e w'=>e=.returned (b8 b)∧BS W NA w' F x k ins old now A c) :=
 (rTake_c h.rt).mono fun _ _ hr=>h.take hr
theorem b8_and (a b:Bool):bits .and .u8 (bW a) (bW b)=bW (a&&b):=by cases a <;> cases b <;> decide
theorem b8_or (a b:Bool):bits .or .u8 (bW a) (bW b)=bW (a || b):=by cases a <;> cases b <;> decide
theorem b8_xor (a b:Bool):bits .xor .u8 (bW a) (bW b)=bW (a ^^ b):=by cases a <;> cases b <;> decide
set_option maxRecDepth 100000 in
set_option maxHeartbeats 16000000 in
theorem rBit_var (k:Nat) (p:Pt) (hv:0<p.v):BitC 123 k p:=by
 intro w F x ins old now NA nc KA kc hrt hp hs hw hb hn hil;have hwI:=(WfP.iff ins.length p).1 hw;obtain ⟨W,HW⟩:=nm (w.alloc (.cells #[.int .i64 p.v,.int .i64 p.op,.int .i64 p.imm,.int .i64 p.iv,.slice KA p.kids.length kc] 24));have hU:Upd Non w W:=by rw [←HW.out];exact Upd.refl.alloc _
 have e0:=HW.out;have hbk:Blk W w.heap.size 24 #[.int .i64 p.v,.int .i64 p.op,.int .i64 p.imm,.int .i64 p.iv,.slice KA p.kids.length kc]:=by rw [←HW.out];exact Blk.new _ _ _
 have HB0:=h_ (hrt.non hU).bs;have HPT:=h_ (PtK.upd hU (fun _ _ _ f=>f) _ _ _ hp);have HUW:=h_ hU;have HFAR:Hid (∀i,F i→i≠x∧¬At NA i):=fun i q=>(hrt.far i q).2
 have HXL:Hid (x<w.heap.size):=hrt.lt;have HNL:Hid (∀i,At NA i→i<w.heap.size):=fun i q=>hrt.own.lt q
 have HPB:Hid (∀w',Upd (fun i=>i=x∨At NA i) W w'→Blk w' w.heap.size 24 #[.int .i64 p.v,.int .i64 p.op,.int .i64 p.imm,.int .i64 p.iv,.slice KA p.kids.length kc]):=fun w' u=>hbk.upd u (fun q=>by
  rcases q with q | q
  ·have:=HXL.out;omega
  ·have:=HNL.out _ q;omega)
 obtain ⟨pb,hpb⟩:∃b,w.heap.size=b:=⟨_,rfl⟩;rw [hpb] at HPB;have hvl:(p.v - 1).toNat<ins.length:=by have:=hwI.2.1;omega
 obtain ⟨IA,ic,OA,oc,d0,d1,d2,d3,f3,f2,hSI,_,_,hic⟩:=HB0.out.cells;obtain ⟨ib,io,rfl,_,_,hci⟩:=hSI.at_ (k:=(p.v - 1).toNat) (by rw [b8s_len];exact hvl)
 have hcv:(b8s ins)[(p.v - 1).toNat]'(by rw [b8s_len];exact hvl)=b8 (insF ins (p.v - 1).toNat):=by
  unfold insF;rw [getD_of hvl];unfold b8s;rw [List.getElem_map]
 rw [hcv] at hci
 have HR:Hid (BitR w F x k ins now NA (bitP k (insF ins) p old) (.returned (b8 (insF ins (p.v - 1).toNat))) W.drew):=by
  show BitR _ _ _ _ _ _ _ _ _ _;rw [bitP_var hv];exact BitR.back HUW.out (BS.done (r:=(insF ins (p.v - 1).toNat,old,[])) (HB0.out.non Upd.refl.drew) rfl (by rw [List.append_nil]))
 have c0:W.cell? ⟨pb,0,none⟩=some (.int .i64 p.v):=(HPB.out W Upd.refl).cell 0;obtain ⟨v,Hv⟩:=nm p.v;rw [Hv.out] at HR hci hv e0 hvl c0;obtain ⟨m,hm⟩:∃m:Nat,v=((m+1:Nat):Int):=⟨(v - 1).toNat,by omega⟩;subst hm;rw [show (((m+1:Nat):Int) - 1).toNat=m by omega] at HR hci hvl;obtain ⟨vb,Hvb⟩:=nm (insF ins m);rw [Hvb.out] at HR hci;obtain ⟨il,Hil⟩:=nm ins.length;rw [Hil.out] at d1 hvl hil;have tv:decide (((m+1:Nat):Int) > 0)=true:=dT_ (by omega);obtain ⟨VV,HVV⟩:=nm (((m+1:Nat):Int));have q1:IntKind.i64.wrap (VV - 1)=(m:Int):=by rw [←HVV.out,i64w_of (by unfold I64;omega)];omega
 have q2:(0:Int)≤(m:Int):=by omega
 have q3:(m:Int)<(il:Int):=by omega
 rw [HVV.out] at c0 tv e0;unfold pv;rw [Hv.out,HVV.out];unfold b8 at HR hci;clear hrt hp hs hw hb hn hwI hbk hcv hSI hv d0 d2 d3 f3 f2;go_enter Tryz.func123,Tryz.ntmps123
 go_upto_region 2 with fail
 refine wp_region_held_drew (S:=fun w'=>w'.cell? ⟨x,1,none⟩=some (.slice (some ⟨ib,io,none⟩) il ic)∧w'.cell? ⟨pb,0,none⟩=some (.int .i64 VV)∧w'.cell? ⟨ib,io+m,none⟩=some (.int .u8 (bW vb))) (by kernel_rfl) ⟨d1,c0,hci⟩ (fun hHeld=>?_)
 refine wpT 0 ?_;(try simp only [y_,z_]);refine wpT 1 ?_;(try simp only [y_,z_]);refine wpT 2 ?_;(try simp only [y_,z_]);refine wpT 3 ?_;(try simp only [y_,z_]);refine wpT 4 ?_;(try simp only [y_,z_]);refine wpT 5 ?_;(try simp only [y_,z_]);refine wpT 6 ?_;(try simp only [y_,z_]);refine wpT 7 ?_;(try simp only [y_,z_]);refine wpT 8 ?_;(try simp only [y_,z_]);refine wpT 9 ?_;(try simp only [y_,z_]);refine aD_ (by kernel_rfl) ?_ _;go_wp2_with fail
 go_ret;exact HR.out
set_option maxRecDepth 100000 in
set_option maxHeartbeats 16000000 in
theorem rBit_const (k:Nat) (hk:k<64) (p:Pt) (hv:¬0<p.v) (ho:p.op=1):BitC 123 k p:=by
 intro w F x ins old now NA nc KA kc hrt hp hs hw hb hn hil;have hwI:=(WfP.iff ins.length p).1 hw;obtain ⟨W,HW⟩:=nm (w.alloc (.cells #[.int .i64 p.v,.int .i64 p.op,.int .i64 p.imm,.int .i64 p.iv,.slice KA p.kids.length kc] 24));have hU:Upd Non w W:=by rw [←HW.out];exact Upd.refl.alloc _
 have e0:=HW.out;have hbk:Blk W w.heap.size 24 #[.int .i64 p.v,.int .i64 p.op,.int .i64 p.imm,.int .i64 p.iv,.slice KA p.kids.length kc]:=by rw [←HW.out];exact Blk.new _ _ _
 have HB0:=h_ (hrt.non hU).bs;have HPT:=h_ (PtK.upd hU (fun _ _ _ f=>f) _ _ _ hp);have HUW:=h_ hU;have HFAR:Hid (∀i,F i→i≠x∧¬At NA i):=fun i q=>(hrt.far i q).2
 have HXL:Hid (x<w.heap.size):=hrt.lt;have HNL:Hid (∀i,At NA i→i<w.heap.size):=fun i q=>hrt.own.lt q
 have HPB:Hid (∀w',Upd (fun i=>i=x∨At NA i) W w'→Blk w' w.heap.size 24 #[.int .i64 p.v,.int .i64 p.op,.int .i64 p.imm,.int .i64 p.iv,.slice KA p.kids.length kc]):=fun w' u=>hbk.upd u (fun q=>by
  rcases q with q | q
  ·have:=HXL.out;omega
  ·have:=HNL.out _ q;omega)
 obtain ⟨pb,hpb⟩:∃b,w.heap.size=b:=⟨_,rfl⟩;rw [hpb] at HPB;have c0:W.cell? ⟨pb,0,none⟩=some (.int .i64 p.v):=(HPB.out W Upd.refl).cell 0;have c1:W.cell? ⟨pb,1,none⟩=some (.int .i64 p.op):=(HPB.out W Upd.refl).cell 1;have tv:decide (p.v > 0)=false:=dF_ (by omega);have HPE:=h_ (fun (r:List Bool×List Bool×List Bool) (hr:bitL k (insF ins) p.kids (old.drop (ownN p.op p.kids))=r)=>bitP_op hv k (insF ins) old (r:=r) hr)
 have har:=hwI.2.2.1 (by have:=hwI.1;omega);rw [supF_op hv,Bool.and_eq_true] at hs;have HSK:=h_ hs.2;have HWK:=h_ hwI.2.2.2;have hbn:bN p=ownN p.op p.kids+bL p.kids:=by rw [bN_iff,if_neg hv]
 obtain ⟨n,Hn⟩:=nm now.length;obtain ⟨ol,Hol⟩:=nm old.length;rw [Hn.out] at hn;rw [Hol.out] at hb;have HIL:Hid (ins.length≤1000):=hil;rw [ho] at har HPE c1 e0 HPB;have hk0:p.kids=[]:=List.length_eq_zero_iff.1 har
 have HR:Hid (BitR w F x k ins now NA (bitP k (insF ins) p old) (.returned (b8 (bI p.imm k))) W.drew):=by
  show BitR _ _ _ _ _ _ _ _ _ _;rw [HPE.out ([],old,[]) (by rw [hk0];rfl)];exact BitR.back HUW.out (BS.done (r:=(bI p.imm k,old,[])) (HB0.out.non Upd.refl.drew) rfl (by rw [List.append_nil]))
 have c2:W.cell? ⟨pb,2,none⟩=some (.int .i64 p.imm):=(HPB.out W Upd.refl).cell 2;obtain ⟨IA,ic,OA,oc,d0,d1,d2,d3,f3,f2,_,_,_,_⟩:=HB0.out.cells;have CB:=h_ (fun w'=>rBitOf_c p.imm k hk w');obtain ⟨vb,Hvb⟩:=nm (bI p.imm k);rw [Hvb.out] at HR CB;unfold pv;rw [ho];unfold b8 at HR CB;clear hrt hp hs hw hb hn hwI hbk har hbn d1 d2 d3 f3 f2 ho hk0;go_enter Tryz.func123,Tryz.ntmps123
 go_upto_region 5 with fail
 refine wp_region_held_drew (S:=fun w'=>w'.cell? ⟨x,0,none⟩=some (.int .i64 (k:Int))∧w'.cell? ⟨pb,2,none⟩=some (.int .i64 p.imm)) (by kernel_rfl) ⟨d0,c2⟩ (fun hHeld=>?_)
 refine wpT 0 ?_;(try simp only [y_,z_]);refine wpT 1 ?_;(try simp only [y_,z_]);refine wpT 2 ?_;(try simp only [y_,z_]);refine wpT 3 ?_;(try simp only [y_,z_]);refine wpT 4 ?_;(try simp only [y_,z_]);refine wpT 5 ?_;(try simp only [y_,z_]);refine aR_ (rs:=[6]) (by kernel_rfl) (by simp) ?_;refine aC_ rfl (fun K hK=>?_) aN_;go_simp;refine (CB.out _).mono ?_;rintro e w1 ⟨rfl,hw1⟩;subst hw1;go_wp2_with fail
 refine hK.out _ _ ?_ (fun hHeld=>?_)
 ·exact hHeld
 clear hK K;(try simp only [y_,z_]);refine wpT 7 ?_;(try simp only [y_,z_]);refine aD_ (by kernel_rfl) ?_ _;go_wp2_with fail
 go_ret;exact HR.out
set_option maxRecDepth 100000 in
set_option maxHeartbeats 16000000 in
theorem rBit_not (k:Nat) (p:Pt) (hv:¬0<p.v) (ho:p.op=21) (IH:∀q∈p.kids,BitC 123 k q):BitC 123 k p:=by
 intro w F x ins old now NA nc KA kc hrt hp hs hw hb hn hil;have hwI:=(WfP.iff ins.length p).1 hw;obtain ⟨W,HW⟩:=nm (w.alloc (.cells #[.int .i64 p.v,.int .i64 p.op,.int .i64 p.imm,.int .i64 p.iv,.slice KA p.kids.length kc] 24));have hU:Upd Non w W:=by rw [←HW.out];exact Upd.refl.alloc _
 have e0:=HW.out;have hbk:Blk W w.heap.size 24 #[.int .i64 p.v,.int .i64 p.op,.int .i64 p.imm,.int .i64 p.iv,.slice KA p.kids.length kc]:=by rw [←HW.out];exact Blk.new _ _ _
 have HB0:=h_ (hrt.non hU).bs;have HPT:=h_ (PtK.upd hU (fun _ _ _ f=>f) _ _ _ hp);have HUW:=h_ hU;have HFAR:Hid (∀i,F i→i≠x∧¬At NA i):=fun i q=>(hrt.far i q).2
 have HXL:Hid (x<w.heap.size):=hrt.lt;have HNL:Hid (∀i,At NA i→i<w.heap.size):=fun i q=>hrt.own.lt q
 have HPB:Hid (∀w',Upd (fun i=>i=x∨At NA i) W w'→Blk w' w.heap.size 24 #[.int .i64 p.v,.int .i64 p.op,.int .i64 p.imm,.int .i64 p.iv,.slice KA p.kids.length kc]):=fun w' u=>hbk.upd u (fun q=>by
  rcases q with q | q
  ·have:=HXL.out;omega
  ·have:=HNL.out _ q;omega)
 obtain ⟨pb,hpb⟩:∃b,w.heap.size=b:=⟨_,rfl⟩;rw [hpb] at HPB;have c0:W.cell? ⟨pb,0,none⟩=some (.int .i64 p.v):=(HPB.out W Upd.refl).cell 0;have c1:W.cell? ⟨pb,1,none⟩=some (.int .i64 p.op):=(HPB.out W Upd.refl).cell 1;have tv:decide (p.v > 0)=false:=dF_ (by omega);have HPE:=h_ (fun (r:List Bool×List Bool×List Bool) (hr:bitL k (insF ins) p.kids (old.drop (ownN p.op p.kids))=r)=>bitP_op hv k (insF ins) old (r:=r) hr)
 have har:=hwI.2.2.1 (by have:=hwI.1;omega);rw [supF_op hv,Bool.and_eq_true] at hs;have HSK:=h_ hs.2;have HWK:=h_ hwI.2.2.2;have hbn:bN p=ownN p.op p.kids+bL p.kids:=by rw [bN_iff,if_neg hv]
 obtain ⟨n,Hn⟩:=nm now.length;obtain ⟨ol,Hol⟩:=nm old.length;rw [Hn.out] at hn;rw [Hol.out] at hb;have HIL:Hid (ins.length≤1000):=hil;have hown:ownN p.op p.kids=0:=by rw [ho];rfl
 rw [hown] at hbn;rw [ho] at har HPE c1 e0 HPB
 obtain ⟨q0,hk1⟩:∃q0,p.kids=[q0]:=by
  match p.kids,har with
  | [a],_=>exact ⟨a,rfl⟩
 have hbl:bL p.kids=bN q0:=by rw [hk1];simp [bL]
 obtain ⟨r0,Hr0⟩:=nm (bitP k (insF ins) q0 old);obtain ⟨kn,Hkn⟩:=nm p.kids.length;have hkn1:kn=1:=by rw [←Hkn.out,hk1];rfl
 have hkn0:(0:Int)<(kn:Int):=by omega
 have c4:W.cell? ⟨pb,4,none⟩=some (.slice KA p.kids.length kc):=(HPB.out W Upd.refl).cell 4;rw [Hkn.out] at HPB e0 c4;obtain ⟨eb,eo,KB,kd,rfl,m0,m1,m2,m3,m4,C1⟩:=HB0.out.kid HFAR.out HPT.out (i:=0) (q:=q0) (by rw [hk1];exact Nat.succ_pos 0) (by simp [hk1]) (IH q0 (by rw [hk1];simp)) (List.all_eq_true.1 HSK.out q0 (by rw [hk1];simp)) (HWK.out q0 (by rw [hk1];simp)) (by rw [Hol.out];omega) (by rw [Hn.out];omega) hil Hr0.out
 simp only [Nat.zero_mul,Nat.add_zero] at m0 m1 m2 m3 m4;obtain ⟨a0,rest0,add0⟩:=r0;simp only at C1
 have HRX:Hid (bitP k (insF ins) p old=(!a0,rest0,add0)):=by
  show _=_;rw [HPE.out ([a0],rest0,add0) (by rw [show ownN 21 p.kids=0 from rfl,List.drop_zero,hk1,bitL_one,Hr0.out])];rfl
 unfold pv;rw [Hkn.out,ho];unfold b8 at C1;clear hrt hp hs hw hb hn hwI hbk har hbn ho hk1 hbl hown HPE hkn1;go_enter Tryz.func123,Tryz.ntmps123;go_wp2_with fail
 refine C1.out.mono ?_;rintro e w1 ⟨A1,k1,rfl,hB1⟩
 have HFIN:Hid (BitR w F x k ins now NA (bitP k (insF ins) p old) (.returned (b8 (!a0))) w1):=by
  show BitR _ _ _ _ _ _ _ _ _ _;rw [HRX.out];exact BitR.back HUW.out (BS.done (r:=(!a0,rest0,add0)) hB1 rfl rfl)
 clear hB1 C1 HRX;cases a0
 all_goals
  unfold b8 bW at HFIN;unfold bW;go_wp2_with fail
  go_ret;exact HFIN.out
set_option maxRecDepth 100000 in
set_option maxHeartbeats 16000000 in
theorem rBit_carry (k:Nat) (p:Pt) (hv:¬0<p.v) (ho:p.op=4∨p.op=5∨p.op=20) (IH:∀q∈p.kids,BitC 123 k q):BitC 123 k p:=by
 intro w F x ins old now NA nc KA kc hrt hp hs hw hb hn hil;have hwI:=(WfP.iff ins.length p).1 hw;obtain ⟨W,HW⟩:=nm (w.alloc (.cells #[.int .i64 p.v,.int .i64 p.op,.int .i64 p.imm,.int .i64 p.iv,.slice KA p.kids.length kc] 24));have hU:Upd Non w W:=by rw [←HW.out];exact Upd.refl.alloc _
 have e0:=HW.out;have hbk:Blk W w.heap.size 24 #[.int .i64 p.v,.int .i64 p.op,.int .i64 p.imm,.int .i64 p.iv,.slice KA p.kids.length kc]:=by rw [←HW.out];exact Blk.new _ _ _
 have HB0:=h_ (hrt.non hU).bs;have HPT:=h_ (PtK.upd hU (fun _ _ _ f=>f) _ _ _ hp);have HUW:=h_ hU;have HFAR:Hid (∀i,F i→i≠x∧¬At NA i):=fun i q=>(hrt.far i q).2
 have HXL:Hid (x<w.heap.size):=hrt.lt;have HNL:Hid (∀i,At NA i→i<w.heap.size):=fun i q=>hrt.own.lt q
 have HPB:Hid (∀w',Upd (fun i=>i=x∨At NA i) W w'→Blk w' w.heap.size 24 #[.int .i64 p.v,.int .i64 p.op,.int .i64 p.imm,.int .i64 p.iv,.slice KA p.kids.length kc]):=fun w' u=>hbk.upd u (fun q=>by
  rcases q with q | q
  ·have:=HXL.out;omega
  ·have:=HNL.out _ q;omega)
 obtain ⟨pb,hpb⟩:∃b,w.heap.size=b:=⟨_,rfl⟩;rw [hpb] at HPB;have hz:Blk W pb 24 #[.int .i64 p.v,.int .i64 p.op,.int .i64 p.imm,.int .i64 p.iv,.slice KA p.kids.length kc]:=HPB.out W Upd.refl;have c0:W.cell? ⟨pb,0,none⟩=some (.int .i64 p.v):=hz.cell 0;have c1:W.cell? ⟨pb,1,none⟩=some (.int .i64 p.op):=hz.cell 1;have c2:W.cell? ⟨pb,2,none⟩=some (.int .i64 p.imm):=hz.cell 2;have c3:W.cell? ⟨pb,3,none⟩=some (.int .i64 p.iv):=hz.cell 3;have c4:W.cell? ⟨pb,4,none⟩=some (.slice KA p.kids.length kc):=hz.cell 4;have tv:decide (p.v > 0)=false:=dF_ (by omega);have CC:=h_ (rCarry_c k p ho hv IH W F x ins old now NA nc KA kc HB0.out.rt HPT.out hs hw hb hn hil);unfold pv at CC ⊢;obtain ⟨op,Hop⟩:=nm p.op;rw [Hop.out] at ho c1 e0 CC HPB;rw [Hop.out];clear hrt hp hs hw hb hn hwI hbk hz;rcases ho with e | e | e <;>
 ·subst e;go_enter Tryz.func123,Tryz.ntmps123;go_wp2_with fail
  refine CC.out.mono ?_;rintro e w1 hr;obtain ⟨A1,k1,rfl,h1,h2,h3⟩:=hr;have HFIN:Hid (BitR w F x k ins now NA (bitP k (insF ins) p old) (.returned (b8 (bitP k (insF ins) p old).1)) w1):=BitR.back HUW.out ⟨A1,k1,rfl,h1,h2,h3⟩
  clear h1 h2 h3 CC;obtain ⟨vb,Hvb⟩:=nm (bitP k (insF ins) p old).1;rw [Hvb.out] at HFIN ⊢;unfold b8 at HFIN ⊢;go_wp2_with fail
  go_ret;exact HFIN.out
set_option maxRecDepth 100000 in
set_option maxHeartbeats 16000000 in
theorem rBit_shift (k:Nat) (p:Pt) (hv:¬0<p.v) (ho:p.op=12) (IH:∀q∈p.kids,BitC 123 k q):BitC 123 k p:=by
 intro w F x ins old now NA nc KA kc hrt hp hs hw hb hn hil;have hwI:=(WfP.iff ins.length p).1 hw;obtain ⟨W,HW⟩:=nm (w.alloc (.cells #[.int .i64 p.v,.int .i64 p.op,.int .i64 p.imm,.int .i64 p.iv,.slice KA p.kids.length kc] 24));have hU:Upd Non w W:=by rw [←HW.out];exact Upd.refl.alloc _
 have e0:=HW.out;have hbk:Blk W w.heap.size 24 #[.int .i64 p.v,.int .i64 p.op,.int .i64 p.imm,.int .i64 p.iv,.slice KA p.kids.length kc]:=by rw [←HW.out];exact Blk.new _ _ _
 have HB0:=h_ (hrt.non hU).bs;have HPT:=h_ (PtK.upd hU (fun _ _ _ f=>f) _ _ _ hp);have HUW:=h_ hU;have HFAR:Hid (∀i,F i→i≠x∧¬At NA i):=fun i q=>(hrt.far i q).2
 have HXL:Hid (x<w.heap.size):=hrt.lt;have HNL:Hid (∀i,At NA i→i<w.heap.size):=fun i q=>hrt.own.lt q
 have HPB:Hid (∀w',Upd (fun i=>i=x∨At NA i) W w'→Blk w' w.heap.size 24 #[.int .i64 p.v,.int .i64 p.op,.int .i64 p.imm,.int .i64 p.iv,.slice KA p.kids.length kc]):=fun w' u=>hbk.upd u (fun q=>by
  rcases q with q | q
  ·have:=HXL.out;omega
  ·have:=HNL.out _ q;omega)
 obtain ⟨pb,hpb⟩:∃b,w.heap.size=b:=⟨_,rfl⟩;rw [hpb] at HPB;have hz:Blk W pb 24 #[.int .i64 p.v,.int .i64 p.op,.int .i64 p.imm,.int .i64 p.iv,.slice KA p.kids.length kc]:=HPB.out W Upd.refl;have c0:W.cell? ⟨pb,0,none⟩=some (.int .i64 p.v):=hz.cell 0;have c1:W.cell? ⟨pb,1,none⟩=some (.int .i64 p.op):=hz.cell 1;have c2:W.cell? ⟨pb,2,none⟩=some (.int .i64 p.imm):=hz.cell 2;have c3:W.cell? ⟨pb,3,none⟩=some (.int .i64 p.iv):=hz.cell 3;have c4:W.cell? ⟨pb,4,none⟩=some (.slice KA p.kids.length kc):=hz.cell 4;have tv:decide (p.v > 0)=false:=dF_ (by omega);have CC:=h_ (rShift_c k p ho hv IH W F x ins old now NA nc KA kc HB0.out.rt HPT.out hs hw hb hn hil);unfold pv at CC ⊢;rw [ho] at c1 e0 CC HPB;rw [ho];clear hrt hp hs hw hb hn hwI hbk hz ho;go_enter Tryz.func123,Tryz.ntmps123;go_wp2_with fail
 refine CC.out.mono ?_;rintro e w1 hr;obtain ⟨A1,k1,rfl,h1,h2,h3⟩:=hr;have HFIN:Hid (BitR w F x k ins now NA (bitP k (insF ins) p old) (.returned (b8 (bitP k (insF ins) p old).1)) w1):=BitR.back HUW.out ⟨A1,k1,rfl,h1,h2,h3⟩
 clear h1 h2 h3 CC;obtain ⟨vb,Hvb⟩:=nm (bitP k (insF ins) p old).1;rw [Hvb.out] at HFIN ⊢;unfold b8 at HFIN ⊢;go_wp2_with fail
 go_ret;exact HFIN.out
set_option maxRecDepth 100000 in
set_option maxHeartbeats 16000000 in
theorem rBit_two (k:Nat) (p:Pt) (hv:¬0<p.v) (ho:p.op=9∨p.op=10∨p.op=11) (IH:∀q∈p.kids,BitC 123 k q):BitC 123 k p:=by
 intro w F x ins old now NA nc KA kc hrt hp hs hw hb hn hil;have hwI:=(WfP.iff ins.length p).1 hw;obtain ⟨W,HW⟩:=nm (w.alloc (.cells #[.int .i64 p.v,.int .i64 p.op,.int .i64 p.imm,.int .i64 p.iv,.slice KA p.kids.length kc] 24));have hU:Upd Non w W:=by rw [←HW.out];exact Upd.refl.alloc _
 have e0:=HW.out;have hbk:Blk W w.heap.size 24 #[.int .i64 p.v,.int .i64 p.op,.int .i64 p.imm,.int .i64 p.iv,.slice KA p.kids.length kc]:=by rw [←HW.out];exact Blk.new _ _ _
 have HB0:=h_ (hrt.non hU).bs;have HPT:=h_ (PtK.upd hU (fun _ _ _ f=>f) _ _ _ hp);have HUW:=h_ hU;have HFAR:Hid (∀i,F i→i≠x∧¬At NA i):=fun i q=>(hrt.far i q).2
 have HXL:Hid (x<w.heap.size):=hrt.lt;have HNL:Hid (∀i,At NA i→i<w.heap.size):=fun i q=>hrt.own.lt q
 have HPB:Hid (∀w',Upd (fun i=>i=x∨At NA i) W w'→Blk w' w.heap.size 24 #[.int .i64 p.v,.int .i64 p.op,.int .i64 p.imm,.int .i64 p.iv,.slice KA p.kids.length kc]):=fun w' u=>hbk.upd u (fun q=>by
  rcases q with q | q
  ·have:=HXL.out;omega
  ·have:=HNL.out _ q;omega)
 obtain ⟨pb,hpb⟩:∃b,w.heap.size=b:=⟨_,rfl⟩;rw [hpb] at HPB;have c0:W.cell? ⟨pb,0,none⟩=some (.int .i64 p.v):=(HPB.out W Upd.refl).cell 0;have c1:W.cell? ⟨pb,1,none⟩=some (.int .i64 p.op):=(HPB.out W Upd.refl).cell 1;have tv:decide (p.v > 0)=false:=dF_ (by omega);have HPE:=h_ (fun (r:List Bool×List Bool×List Bool) (hr:bitL k (insF ins) p.kids (old.drop (ownN p.op p.kids))=r)=>bitP_op hv k (insF ins) old (r:=r) hr)
 have har:=hwI.2.2.1 (by have:=hwI.1;omega);rw [supF_op hv,Bool.and_eq_true] at hs;have HSK:=h_ hs.2;have HWK:=h_ hwI.2.2.2;have hbn:bN p=ownN p.op p.kids+bL p.kids:=by rw [bN_iff,if_neg hv]
 obtain ⟨n,Hn⟩:=nm now.length;obtain ⟨ol,Hol⟩:=nm old.length;rw [Hn.out] at hn;rw [Hol.out] at hb;have HIL:Hid (ins.length≤1000):=hil;have hown:ownN p.op p.kids=0:=by rcases ho with e | e | e <;> rw [e] <;> rfl
 rw [hown] at hbn HPE;have hl2:p.kids.length=2:=by rw [har];rcases ho with e | e | e <;> rw [e] <;> rfl
 obtain ⟨q0,q1,hk1⟩:∃q0 q1,p.kids=[q0,q1]:=by
  match p.kids,hl2 with
  | [a,b],_=>exact ⟨a,b,rfl⟩
 have hbl:bL p.kids=bN q0+bN q1:=by rw [hk1];simp [bL]
 obtain ⟨r0,Hr0⟩:=nm (bitP k (insF ins) q0 old);obtain ⟨kn,Hkn⟩:=nm p.kids.length;rw [Hkn.out] at hl2;have hkn0:(0:Int)<(kn:Int):=by omega
 have hkn1:(1:Int)<(kn:Int):=by omega
 rw [Hkn.out] at HPB e0;have c4:W.cell? ⟨pb,4,none⟩=some (.slice KA kn kc):=(HPB.out W Upd.refl).cell 4;have hs0:=List.all_eq_true.1 HSK.out q0 (by rw [hk1];simp);have hs1:=List.all_eq_true.1 HSK.out q1 (by rw [hk1];simp);have hre:=bitP_rest (k:=k) (f:=insF ins) hs0 (old:=old) (by rw [Hol.out];omega);rw [Hr0.out] at hre;obtain ⟨eb,eo,KB,kd,rfl,m0,m1,m2,m3,m4,C1⟩:=HB0.out.kid HFAR.out HPT.out (i:=0) (q:=q0) (by rw [hk1];exact Nat.succ_pos 1) (by simp [hk1]) (IH q0 (by rw [hk1];simp)) hs0 (HWK.out q0 (by rw [hk1];simp)) (by rw [Hol.out];omega) (by rw [Hn.out];omega) hil Hr0.out
 simp only [Nat.zero_mul,Nat.add_zero] at m0 m1 m2 m3 m4;obtain ⟨a0,rest0,add0⟩:=r0;simp only at C1 hre;obtain ⟨r1,Hr1⟩:=nm (bitP k (insF ins) q1 rest0);have hr0l:rest0.length=ol - bN q0:=by rw [hre.1,List.length_drop,Hol.out]
 have HK1:=h_ (fun (w1:World) (A1:Option Addr) (k1:Nat) (hB1:BS W NA w1 F x k ins rest0 (now++add0) A1 k1)=>hB1.kid HFAR.out HPT.out (i:=1) (q:=q1) (by rw [hk1];exact Nat.lt_succ_self 1) (by simp [hk1]) (IH q1 (by rw [hk1];simp)) hs1 (HWK.out q1 (by rw [hk1];simp)) (by rw [hr0l];omega) (by rw [List.length_append,Hn.out,hre.2];omega) hil Hr1.out)
 obtain ⟨a1,rest1,add1⟩:=r1;simp only at HK1;have HPE2:=HPE.out ([a0,a1],rest1,add0++add1) (by rw [List.drop_zero,hk1,bitL_two,Hr0.out];simp only [Hr1.out])
 have HRX:Hid (bitP k (insF ins) p old=((opBit k p.op p.imm [] [a0,a1]).1,rest1,add0++add1)):=by
  show _=_;rw [HPE2,List.take_zero];rcases ho with e | e | e <;> rw [e] <;> rfl
 obtain ⟨op,Hop⟩:=nm p.op;rw [Hop.out] at c1 e0 HRX ho HPB;unfold pv;rw [Hkn.out,Hop.out];unfold b8 at C1;clear hrt hp hs hw hb hn hwI hbk har hbn hk1 hbl hown HPE HPE2 hl2 hre hr0l hs0 hs1;rcases ho with e | e | e
 ·subst e;go_enter Tryz.func123,Tryz.ntmps123;go_wp2_with fail
  refine C1.out.mono ?_;rintro e w1 ⟨A1,k1,rfl,hB1⟩;have y1:w1.cell? ⟨pb,1,none⟩=some (.int .i64 9):=(HPB.out w1 hB1.upd).cell 1;have y4:w1.cell? ⟨pb,4,none⟩=some (.slice (some ⟨eb,eo,none⟩) kn kc):=(HPB.out w1 hB1.upd).cell 4;obtain ⟨eb2,eo2,KB2,kd2,eK,m0,m1,m2,m3,m4,C2⟩:=HK1.out w1 A1 k1 hB1;injection eK with eK
  injection eK with eK1 eK2
  subst eK1 eK2;simp only [Nat.one_mul] at m0 m1 m2 m3 m4;unfold b8 at C2;clear C1 c0 c1 c4 hB1 HK1;go_wp2_with fail
  refine C2.out.mono ?_;rintro e w2 ⟨A2,k2,rfl,hB2⟩;rw [List.append_assoc] at hB2;have y1:w2.cell? ⟨pb,1,none⟩=some (.int .i64 9):=(HPB.out w2 hB2.upd).cell 1
  have HFIN:Hid (BitR w F x k ins now NA (bitP k (insF ins) p old) (.returned (b8 (opBit k 9 p.imm [] [a0,a1]).1)) w2):=by
   show BitR _ _ _ _ _ _ _ _ _ _;rw [HRX.out];exact BitR.back HUW.out (BS.done (r:=(_,rest1,add0++add1)) hB2 rfl rfl)
  clear hB2 C2 m0 m1 m2 m3 m4 HRX;have hb1:=b8_and a0 a1;have hb2:=b8_or a0 a1;have hb3:=b8_xor a0 a1;go_wp2_with fail
  go_ret;exact HFIN.out
 ·subst e;go_enter Tryz.func123,Tryz.ntmps123;go_wp2_with fail
  refine C1.out.mono ?_;rintro e w1 ⟨A1,k1,rfl,hB1⟩;have y1:w1.cell? ⟨pb,1,none⟩=some (.int .i64 10):=(HPB.out w1 hB1.upd).cell 1;have y4:w1.cell? ⟨pb,4,none⟩=some (.slice (some ⟨eb,eo,none⟩) kn kc):=(HPB.out w1 hB1.upd).cell 4;obtain ⟨eb2,eo2,KB2,kd2,eK,m0,m1,m2,m3,m4,C2⟩:=HK1.out w1 A1 k1 hB1;injection eK with eK
  injection eK with eK1 eK2
  subst eK1 eK2;simp only [Nat.one_mul] at m0 m1 m2 m3 m4;unfold b8 at C2;clear C1 c0 c1 c4 hB1 HK1;go_wp2_with fail
  refine C2.out.mono ?_;rintro e w2 ⟨A2,k2,rfl,hB2⟩;rw [List.append_assoc] at hB2;have y1:w2.cell? ⟨pb,1,none⟩=some (.int .i64 10):=(HPB.out w2 hB2.upd).cell 1
  have HFIN:Hid (BitR w F x k ins now NA (bitP k (insF ins) p old) (.returned (b8 (opBit k 10 p.imm [] [a0,a1]).1)) w2):=by
   show BitR _ _ _ _ _ _ _ _ _ _;rw [HRX.out];exact BitR.back HUW.out (BS.done (r:=(_,rest1,add0++add1)) hB2 rfl rfl)
  clear hB2 C2 m0 m1 m2 m3 m4 HRX;have hb1:=b8_and a0 a1;have hb2:=b8_or a0 a1;have hb3:=b8_xor a0 a1;go_wp2_with fail
  go_ret;exact HFIN.out
 ·subst e;go_enter Tryz.func123,Tryz.ntmps123;go_wp2_with fail
  refine C1.out.mono ?_;rintro e w1 ⟨A1,k1,rfl,hB1⟩;have y1:w1.cell? ⟨pb,1,none⟩=some (.int .i64 11):=(HPB.out w1 hB1.upd).cell 1;have y4:w1.cell? ⟨pb,4,none⟩=some (.slice (some ⟨eb,eo,none⟩) kn kc):=(HPB.out w1 hB1.upd).cell 4;obtain ⟨eb2,eo2,KB2,kd2,eK,m0,m1,m2,m3,m4,C2⟩:=HK1.out w1 A1 k1 hB1;injection eK with eK
  injection eK with eK1 eK2
  subst eK1 eK2;simp only [Nat.one_mul] at m0 m1 m2 m3 m4;unfold b8 at C2;clear C1 c0 c1 c4 hB1 HK1;go_wp2_with fail
  refine C2.out.mono ?_;rintro e w2 ⟨A2,k2,rfl,hB2⟩;rw [List.append_assoc] at hB2;have y1:w2.cell? ⟨pb,1,none⟩=some (.int .i64 11):=(HPB.out w2 hB2.upd).cell 1
  have HFIN:Hid (BitR w F x k ins now NA (bitP k (insF ins) p old) (.returned (b8 (opBit k 11 p.imm [] [a0,a1]).1)) w2):=by
   show BitR _ _ _ _ _ _ _ _ _ _;rw [HRX.out];exact BitR.back HUW.out (BS.done (r:=(_,rest1,add0++add1)) hB2 rfl rfl)
  clear hB2 C2 m0 m1 m2 m3 m4 HRX;have hb1:=b8_and a0 a1;have hb2:=b8_or a0 a1;have hb3:=b8_xor a0 a1;go_wp2_with fail
  go_ret;exact HFIN.out
theorem set_mid2 (l adds:List Bool) (g z b:Bool):((l++[g,z])++adds).set (l.length+1) b=l++([g,b]++adds):=by
 rw [List.append_assoc,List.set_append_right _ _ (by omega),Nat.add_sub_cancel_left];rfl
set_option maxRecDepth 100000 in
set_option maxHeartbeats 16000000 in
theorem rBit_cmp (k:Nat) (hk:k<64) (p:Pt) (hv:¬0<p.v) (ho:15≤p.op∧p.op≤19) (IH:∀q∈p.kids,BitC 123 k q):BitC 123 k p:=by
 intro w F x ins old now NA nc KA kc hrt hp hs hw hb hn hil;have hwI:=(WfP.iff ins.length p).1 hw;obtain ⟨W,HW⟩:=nm (w.alloc (.cells #[.int .i64 p.v,.int .i64 p.op,.int .i64 p.imm,.int .i64 p.iv,.slice KA p.kids.length kc] 24));have hU:Upd Non w W:=by rw [←HW.out];exact Upd.refl.alloc _
 have e0:=HW.out;have hbk:Blk W w.heap.size 24 #[.int .i64 p.v,.int .i64 p.op,.int .i64 p.imm,.int .i64 p.iv,.slice KA p.kids.length kc]:=by rw [←HW.out];exact Blk.new _ _ _
 have HB0:=h_ (hrt.non hU).bs;have HPT:=h_ (PtK.upd hU (fun _ _ _ f=>f) _ _ _ hp);have HUW:=h_ hU;have HFAR:Hid (∀i,F i→i≠x∧¬At NA i):=fun i q=>(hrt.far i q).2
 have HXL:Hid (x<w.heap.size):=hrt.lt;have HNL:Hid (∀i,At NA i→i<w.heap.size):=fun i q=>hrt.own.lt q
 have HPB:Hid (∀w',Upd (fun i=>i=x∨At NA i) W w'→Blk w' w.heap.size 24 #[.int .i64 p.v,.int .i64 p.op,.int .i64 p.imm,.int .i64 p.iv,.slice KA p.kids.length kc]):=fun w' u=>hbk.upd u (fun q=>by
  rcases q with q | q
  ·have:=HXL.out;omega
  ·have:=HNL.out _ q;omega)
 obtain ⟨pb,hpb⟩:∃b,w.heap.size=b:=⟨_,rfl⟩;rw [hpb] at HPB;have c0:W.cell? ⟨pb,0,none⟩=some (.int .i64 p.v):=(HPB.out W Upd.refl).cell 0;have c1:W.cell? ⟨pb,1,none⟩=some (.int .i64 p.op):=(HPB.out W Upd.refl).cell 1;have tv:decide (p.v > 0)=false:=dF_ (by omega);have HPE:=h_ (fun (r:List Bool×List Bool×List Bool) (hr:bitL k (insF ins) p.kids (old.drop (ownN p.op p.kids))=r)=>bitP_op hv k (insF ins) old (r:=r) hr)
 have har:=hwI.2.2.1 (by have:=hwI.1;omega);rw [supF_op hv,Bool.and_eq_true] at hs;have HSK:=h_ hs.2;have HWK:=h_ hwI.2.2.2;have hbn:bN p=ownN p.op p.kids+bL p.kids:=by rw [bN_iff,if_neg hv]
 obtain ⟨n,Hn⟩:=nm now.length;obtain ⟨ol,Hol⟩:=nm old.length;rw [Hn.out] at hn;rw [Hol.out] at hb;have HIL:Hid (ins.length≤1000):=hil;have hop5:p.op=15∨p.op=16∨p.op=17∨p.op=18∨p.op=19:=by omega
 have hown:ownN p.op p.kids=2:=by rcases hop5 with e | e | e | e | e <;> rw [e] <;> rfl
 rw [hown] at hbn HPE;have hl2:p.kids.length=2:=by rw [har];rcases hop5 with e | e | e | e | e <;> rw [e] <;> rfl
 obtain ⟨q0,q1,hk1⟩:∃q0 q1,p.kids=[q0,q1]:=by
  match p.kids,hl2 with
  | [a,b],_=>exact ⟨a,b,rfl⟩
 have hbl:bL p.kids=bN q0+bN q1:=by rw [hk1];simp [bL]
 obtain ⟨g,m,rest,rfl⟩:∃g m rest,old=g::m::rest:=by
  match old,Hol.out,hb with
  | [],e,h=>rw [←e,List.length_nil] at h;omega
  | [a],e,h=>rw [←e,List.length_singleton] at h;omega
  | g::m::r,_,_=>exact ⟨g,m,r,rfl⟩
 have hrl:rest.length+2=ol:=by rw [←Hol.out];rfl
 obtain ⟨kn,Hkn⟩:=nm p.kids.length;rw [Hkn.out] at hl2 HPB e0;have hkn0:(0:Int)<(kn:Int):=by omega
 have hkn1:(1:Int)<(kn:Int):=by omega
 have hs0:=List.all_eq_true.1 HSK.out q0 (by rw [hk1];simp);have hs1:=List.all_eq_true.1 HSK.out q1 (by rw [hk1];simp);have hre:=bitP_rest (k:=k) (f:=insF ins) hs0 (old:=rest) (by omega);obtain ⟨r0,Hr0⟩:=nm (bitP k (insF ins) q0 rest);rw [Hr0.out] at hre;have HK0:=h_ (fun (w1:World) (A1:Option Addr) (k1:Nat) (hB1:BS W NA w1 F x k ins rest (now++[g,false]) A1 k1)=>hB1.kid HFAR.out HPT.out (i:=0) (q:=q0) (by rw [hk1];exact Nat.succ_pos 1) (by simp [hk1]) (IH q0 (by rw [hk1];simp)) hs0 (HWK.out q0 (by rw [hk1];simp)) (by omega) (by rw [List.length_append,Hn.out];simp;omega) hil Hr0.out)
 obtain ⟨a0,rest0,add0⟩:=r0;simp only at HK0 hre;obtain ⟨r1,Hr1⟩:=nm (bitP k (insF ins) q1 rest0);have hr0l:rest0.length=rest.length - bN q0:=by rw [hre.1,List.length_drop]
 have HK1:=h_ (fun (w1:World) (A1:Option Addr) (k1:Nat) (hB1:BS W NA w1 F x k ins rest0 ((now++[g,false])++add0) A1 k1)=>hB1.kid HFAR.out HPT.out (i:=1) (q:=q1) (by rw [hk1];exact Nat.lt_succ_self 1) (by simp [hk1]) (IH q1 (by rw [hk1];simp)) hs1 (HWK.out q1 (by rw [hk1];simp)) (by rw [hr0l];omega) (by rw [List.length_append,List.length_append,Hn.out,hre.2];simp;omega) hil Hr1.out)
 obtain ⟨a1,rest1,add1⟩:=r1;simp only at HK1;have HPE2:=HPE.out ([a0,a1],rest1,add0++add1) (by show bitL k (insF ins) p.kids rest=_;rw [hk1,bitL_two,Hr0.out];simp only [Hr1.out])
 have HRX:Hid (bitP k (insF ins) p (g::m::rest)=(decide (k=0)&&g,rest1,[g,cfF p.op k m a0 a1]++(add0++add1))):=by
  show _=_;rw [HPE2];rcases hop5 with e | e | e | e | e <;> rw [e] <;> rfl
 obtain ⟨op,Hop⟩:=nm p.op;rw [Hop.out] at c1 e0 HRX hop5 HPB ho;have CF:=h_ (fun w'=>rCompareFlag_c op ho k m a0 a1 w');obtain ⟨cf,Hcf⟩:=nm (cfF op k m a0 a1);rw [Hcf.out] at HRX CF;have CT:=HB0.out.takeC;unfold pv;rw [Hkn.out,Hop.out];unfold b8 at CT CF;have hn2:n+2≤1000000:=by omega
 have c4:W.cell? ⟨pb,4,none⟩=some (.slice KA kn kc):=(HPB.out W Upd.refl).cell 4;clear hrt hp hs hw hb hn hwI hbk har hbn hk1 hbl hown HPE HPE2 hl2 hre hr0l hs0 hs1 ho hrl c4;rcases hop5 with e | e | e | e | e
 ·subst e;go_enter Tryz.func123,Tryz.ntmps123;go_wp2_with fail
  refine CT.out.mono ?_;rintro e w1 ⟨rfl,hB1⟩;have CT2:=hB1.takeC;unfold b8 at CT2;clear CT hB1;go_wp2_with fail
  refine CT2.out.mono ?_;rintro e w2 ⟨rfl,hB2⟩;obtain ⟨IA,ic,OA,oc,d0,d1,d2,d3,f3,f2,_,_,_,_⟩:=hB2.cells;have HB2:=h_ hB2;have hO2:=hB2.rt.own;rw [Hn.out] at d3 hO2;clear hB2 CT2
  go_wp2_with (at_builtin;refine wpList_app rfl rfl T_u8s rfl (hO2.alloc _) rfl (Sl.new _ _ _) rfl (by simp [Value.oneCell']) (by simp only [maxLen];omega) (by omega) ?_)
  intro A3 c3 w3 ho3 hu3 hat3;have hx2:=HB2.out.rt.ne;have hp3:=HB2.out.push (z:=[g,false]) (m:=2) (Upd.refl.alloc _) (by rw [Hn.out];exact ho3) rfl hu3 (fun i q=>(hat3 i q).imp id (fun z=>by rw [z];simp))
  rw [Hn.out] at hp3;have g3:=u_ d3 ((Upd.refl (S:=Non)).alloc (.cells #[.int .u8 (bW g),.int .u8 0] 5)) (fun f=>f);have g3':=u_ g3 hu3 hx2
  have hfz:w3.frozen? ⟨x,3,none⟩=false:=by
   obtain ⟨_,_,_,_,h1,_⟩:=(HB2.out.non ((Upd.refl (S:=Non)).alloc (.cells #[.int .u8 (bW g),.int .u8 0] 5))).rt.blk;exact (h1.upd hu3 hx2).frozen 3
  obtain ⟨W3,HW3⟩:=nm (w3.setCell ⟨x,3,none⟩ (.slice A3 (n+2) c3));rw [HW3.out] at hp3;have y4:W3.cell? ⟨pb,4,none⟩=some (.slice KA kn kc):=(HPB.out W3 hp3.upd).cell 4;obtain ⟨eb,eo,KB,kd,rfl,m0,m1,m2,m3,m4,C1⟩:=HK0.out W3 A3 c3 hp3;simp only [Nat.zero_mul,Nat.add_zero] at m0 m1 m2 m3 m4;unfold b8 at C1;clear hp3 ho3 hu3 hat3 g3 hO2 hx2 d0 d1 d2 d3 f3 f2 HK0
  go_upto_region 40 with fail
  rw [HW3.out];clear g3' hfz;go_wp2_with fail
  refine C1.out.mono ?_;rintro e w4 ⟨A4,k4,rfl,hB4⟩;have y4:w4.cell? ⟨pb,4,none⟩=some (.slice (some ⟨eb,eo,none⟩) kn kc):=(HPB.out w4 hB4.upd).cell 4;obtain ⟨eb2,eo2,KB2,kd2,eK,m0,m1,m2,m3,m4,C2⟩:=HK1.out w4 A4 k4 hB4;injection eK with eK
  injection eK with eK1 eK2
  subst eK1 eK2;simp only [Nat.one_mul] at m0 m1 m2 m3 m4;unfold b8 at C2;clear hB4 C1 HK1;go_wp2_with fail
  refine C2.out.mono ?_;rintro e w5 ⟨A5,k5,rfl,hB5⟩;rw [List.append_assoc (now++[g,false])] at hB5;obtain ⟨addx,hax⟩:∃z,add0++add1=z:=⟨_,rfl⟩;rw [hax] at hB5 HRX;have hxx:=hB5.rt.lt;obtain ⟨nb,rfl⟩:=hB5.rt.own.some_ (by rw [List.length_append,List.length_append];simp;omega);have y1:w5.cell? ⟨pb,1,none⟩=some (.int .i64 15):=(HPB.out w5 hB5.upd).cell 1;have hpl:pb<w5.heap.size:=(HPB.out w5 hB5.upd).lt;have hpn:¬pb=nb:=fun e=>hB5.rt.own.ne_blk (HPB.out w5 hB5.upd) (by decide) (At.some_.2 e)
  obtain ⟨IA,ic,OA,oc,d0,d1,d2,d3,f3,f2,_,_,_,_⟩:=hB5.cells;obtain ⟨L,HL⟩:=nm ((now++[g,false])++addx).length;have hnL:n+1<L:=by rw [←HL.out,List.length_append,List.length_append,Hn.out];simp;omega
  obtain ⟨vc,hcn⟩:∃v,w5.cell? ⟨nb,n+1,none⟩=some v:=⟨_,hB5.rt.own.cell_ (i:=n+1) (by rw [b8s_len,HL.out];exact hnL)⟩;have hfn:=hB5.rt.own.frozen_ (n+1);have hxn:¬x=nb:=fun e=>hB5.rt.ne (At.some_.2 e)
  rw [HL.out] at d3;have hst:=(hB5.non (Upd.refl (S:=Non) (w:=w5)).drew).set (n+1) cf;rw [←Hn.out,set_mid2,Hn.out] at hst
  have HFIN:Hid (BitR w F x k ins now NA (bitP k (insF ins) p (g::m::rest)) (.returned (b8 (decide (k=0)&&g))) (w5.drew.setCell ⟨nb,n+1,none⟩ (b8 cf))):=by
   show BitR _ _ _ _ _ _ _ _ _ _;rw [HRX.out];exact BitR.back HUW.out (BS.done (r:=(_,rest1,[g,cf]++addx)) hst rfl rfl)
  have q1:IntKind.i64.wrap ((n:Int)+1)=((n+1:Nat):Int):=by rw [i64w_of (by unfold I64;omega)];omega
  have q3:(0:Int)≤((n+1:Nat):Int):=by omega
  have q4:((n+1:Nat):Int)<(L:Int):=by omega
  obtain ⟨n1,Hn1⟩:=nm (n+1);rw [Hn1.out] at q1 q3 q4 hcn hfn HFIN
  have HS1:Hid ((w5.drew.setCell ⟨nb,n1,none⟩ (.int .u8 (bW cf))).cell? ⟨x,3,none⟩=some (.slice (some ⟨nb,0,none⟩) L k5)∧(w5.drew.setCell ⟨nb,n1,none⟩ (.int .u8 (bW cf))).cell? ⟨x,0,none⟩=some (.int .i64 (k:Int))∧(w5.drew.setCell ⟨nb,n1,none⟩ (.int .u8 (bW cf))).cell? ⟨pb,1,none⟩=some (.int .i64 15)):=by
   have u:=updCell w5.drew nb n1 (.int .u8 (bW cf));exact ⟨by rw [World.cell?_of_block (w:=w5.drew) (u.block x hxx hxn)];exact d3,by rw [World.cell?_of_block (w:=w5.drew) (u.block x hxx hxn)];exact d0,by rw [World.cell?_of_block (w:=w5.drew) (u.block pb hpl hpn)];exact y1⟩
  unfold b8 at HFIN;clear hB5 hst C2 m0 m1 m2 m3 m4 d1 d2 f3 f2 hnL hax
  go_upto_region 42 with fail
  refine wp_region_held_drew (S:=fun w'=>w'.cell? ⟨x,3,none⟩=some (.slice (some ⟨nb,0,none⟩) L k5)∧w'.cell? ⟨x,0,none⟩=some (.int .i64 (k:Int))∧w'.cell? ⟨pb,1,none⟩=some (.int .i64 15)) (by kernel_rfl) ⟨d3,d0,y1⟩ (fun hHeld=>?_)
  refine wpT 0 ?_;(try simp only [y_,z_]);refine wpT 1 ?_;(try simp only [y_,z_]);refine wpT 2 ?_;(try simp only [y_,z_]);refine wpT 3 ?_;(try simp only [y_,z_]);refine wpT 4 ?_;(try simp only [y_,z_]);refine wpT 5 ?_;(try simp only [y_,z_]);refine wpT 6 ?_;(try simp only [y_,z_]);refine wpT 7 ?_;(try simp only [y_,z_]);refine wpT 8 ?_;(try simp only [y_,z_]);refine wpT 9 ?_;(try simp only [y_,z_]);refine wpT 10 ?_;(try simp only [y_,z_]);refine wpT 11 ?_;(try simp only [y_,z_]);refine wpT 12 ?_;(try simp only [y_,z_]);refine wpT 13 ?_;(try simp only [y_,z_]);refine wpT 14 ?_;(try simp only [y_,z_]);refine aR_ (rs:=[15]) (by kernel_rfl) (by simp) ?_;refine aC_ rfl (fun K hK=>?_) aN_;go_simp;refine (CF.out _).mono ?_;rintro e w9 ⟨rfl,hw9⟩;subst hw9;go_wp2_with fail
  refine hK.out _ _ ?_ (fun hHeld=>?_)
  ·exact hHeld
  clear hK K;(try simp only [y_,z_]);refine wpT 16 ?_;(try simp only [y_,z_]);refine aR_ (rs:=[17]) (by kernel_rfl) (by simp) ?_;refine aC_ rfl (fun K hK=>?_) aN_;go_simp;refine hK.out _ _ ?_ (fun hHeld=>?_)
  ·exact HS1.out
  clear hK K;(try simp only [y_,z_]);refine aD_ (by kernel_rfl) ?_ _;clear hHeld d3 y1 hcn hfn;by_cases hk0:k=0
  ·have tk:((k:Int)==0)=true:=by rw [hk0];rfl
   rw [dT_ hk0,Bool.true_and] at HFIN;subst hk0;go_wp2_with fail
   go_ret;exact HFIN.out
  ·have tk:((k:Int)==0)=false:=by simp;omega
   rw [dF_ hk0,Bool.false_and] at HFIN;have tk2:(k==0)=false:=by simp;omega
   go_wp2_with fail
   go_ret;exact HFIN.out
 ·subst e;go_enter Tryz.func123,Tryz.ntmps123;go_wp2_with fail
  refine CT.out.mono ?_;rintro e w1 ⟨rfl,hB1⟩;have CT2:=hB1.takeC;unfold b8 at CT2;clear CT hB1;go_wp2_with fail
  refine CT2.out.mono ?_;rintro e w2 ⟨rfl,hB2⟩;obtain ⟨IA,ic,OA,oc,d0,d1,d2,d3,f3,f2,_,_,_,_⟩:=hB2.cells;have HB2:=h_ hB2;have hO2:=hB2.rt.own;rw [Hn.out] at d3 hO2;clear hB2 CT2
  go_wp2_with (at_builtin;refine wpList_app rfl rfl T_u8s rfl (hO2.alloc _) rfl (Sl.new _ _ _) rfl (by simp [Value.oneCell']) (by simp only [maxLen];omega) (by omega) ?_)
  intro A3 c3 w3 ho3 hu3 hat3;have hx2:=HB2.out.rt.ne;have hp3:=HB2.out.push (z:=[g,false]) (m:=2) (Upd.refl.alloc _) (by rw [Hn.out];exact ho3) rfl hu3 (fun i q=>(hat3 i q).imp id (fun z=>by rw [z];simp))
  rw [Hn.out] at hp3;have g3:=u_ d3 ((Upd.refl (S:=Non)).alloc (.cells #[.int .u8 (bW g),.int .u8 0] 5)) (fun f=>f);have g3':=u_ g3 hu3 hx2
  have hfz:w3.frozen? ⟨x,3,none⟩=false:=by
   obtain ⟨_,_,_,_,h1,_⟩:=(HB2.out.non ((Upd.refl (S:=Non)).alloc (.cells #[.int .u8 (bW g),.int .u8 0] 5))).rt.blk;exact (h1.upd hu3 hx2).frozen 3
  obtain ⟨W3,HW3⟩:=nm (w3.setCell ⟨x,3,none⟩ (.slice A3 (n+2) c3));rw [HW3.out] at hp3;have y4:W3.cell? ⟨pb,4,none⟩=some (.slice KA kn kc):=(HPB.out W3 hp3.upd).cell 4;obtain ⟨eb,eo,KB,kd,rfl,m0,m1,m2,m3,m4,C1⟩:=HK0.out W3 A3 c3 hp3;simp only [Nat.zero_mul,Nat.add_zero] at m0 m1 m2 m3 m4;unfold b8 at C1;clear hp3 ho3 hu3 hat3 g3 hO2 hx2 d0 d1 d2 d3 f3 f2 HK0
  go_upto_region 40 with fail
  rw [HW3.out];clear g3' hfz;go_wp2_with fail
  refine C1.out.mono ?_;rintro e w4 ⟨A4,k4,rfl,hB4⟩;have y4:w4.cell? ⟨pb,4,none⟩=some (.slice (some ⟨eb,eo,none⟩) kn kc):=(HPB.out w4 hB4.upd).cell 4;obtain ⟨eb2,eo2,KB2,kd2,eK,m0,m1,m2,m3,m4,C2⟩:=HK1.out w4 A4 k4 hB4;injection eK with eK
  injection eK with eK1 eK2
  subst eK1 eK2;simp only [Nat.one_mul] at m0 m1 m2 m3 m4;unfold b8 at C2;clear hB4 C1 HK1;go_wp2_with fail
  refine C2.out.mono ?_;rintro e w5 ⟨A5,k5,rfl,hB5⟩;rw [List.append_assoc (now++[g,false])] at hB5;obtain ⟨addx,hax⟩:∃z,add0++add1=z:=⟨_,rfl⟩;rw [hax] at hB5 HRX;have hxx:=hB5.rt.lt;obtain ⟨nb,rfl⟩:=hB5.rt.own.some_ (by rw [List.length_append,List.length_append];simp;omega);have y1:w5.cell? ⟨pb,1,none⟩=some (.int .i64 16):=(HPB.out w5 hB5.upd).cell 1;have hpl:pb<w5.heap.size:=(HPB.out w5 hB5.upd).lt;have hpn:¬pb=nb:=fun e=>hB5.rt.own.ne_blk (HPB.out w5 hB5.upd) (by decide) (At.some_.2 e)
  obtain ⟨IA,ic,OA,oc,d0,d1,d2,d3,f3,f2,_,_,_,_⟩:=hB5.cells;obtain ⟨L,HL⟩:=nm ((now++[g,false])++addx).length;have hnL:n+1<L:=by rw [←HL.out,List.length_append,List.length_append,Hn.out];simp;omega
  obtain ⟨vc,hcn⟩:∃v,w5.cell? ⟨nb,n+1,none⟩=some v:=⟨_,hB5.rt.own.cell_ (i:=n+1) (by rw [b8s_len,HL.out];exact hnL)⟩;have hfn:=hB5.rt.own.frozen_ (n+1);have hxn:¬x=nb:=fun e=>hB5.rt.ne (At.some_.2 e)
  rw [HL.out] at d3;have hst:=(hB5.non (Upd.refl (S:=Non) (w:=w5)).drew).set (n+1) cf;rw [←Hn.out,set_mid2,Hn.out] at hst
  have HFIN:Hid (BitR w F x k ins now NA (bitP k (insF ins) p (g::m::rest)) (.returned (b8 (decide (k=0)&&g))) (w5.drew.setCell ⟨nb,n+1,none⟩ (b8 cf))):=by
   show BitR _ _ _ _ _ _ _ _ _ _;rw [HRX.out];exact BitR.back HUW.out (BS.done (r:=(_,rest1,[g,cf]++addx)) hst rfl rfl)
  have q1:IntKind.i64.wrap ((n:Int)+1)=((n+1:Nat):Int):=by rw [i64w_of (by unfold I64;omega)];omega
  have q3:(0:Int)≤((n+1:Nat):Int):=by omega
  have q4:((n+1:Nat):Int)<(L:Int):=by omega
  obtain ⟨n1,Hn1⟩:=nm (n+1);rw [Hn1.out] at q1 q3 q4 hcn hfn HFIN
  have HS1:Hid ((w5.drew.setCell ⟨nb,n1,none⟩ (.int .u8 (bW cf))).cell? ⟨x,3,none⟩=some (.slice (some ⟨nb,0,none⟩) L k5)∧(w5.drew.setCell ⟨nb,n1,none⟩ (.int .u8 (bW cf))).cell? ⟨x,0,none⟩=some (.int .i64 (k:Int))∧(w5.drew.setCell ⟨nb,n1,none⟩ (.int .u8 (bW cf))).cell? ⟨pb,1,none⟩=some (.int .i64 16)):=by
   have u:=updCell w5.drew nb n1 (.int .u8 (bW cf));exact ⟨by rw [World.cell?_of_block (w:=w5.drew) (u.block x hxx hxn)];exact d3,by rw [World.cell?_of_block (w:=w5.drew) (u.block x hxx hxn)];exact d0,by rw [World.cell?_of_block (w:=w5.drew) (u.block pb hpl hpn)];exact y1⟩
  unfold b8 at HFIN;clear hB5 hst C2 m0 m1 m2 m3 m4 d1 d2 f3 f2 hnL hax
  go_upto_region 42 with fail
  refine wp_region_held_drew (S:=fun w'=>w'.cell? ⟨x,3,none⟩=some (.slice (some ⟨nb,0,none⟩) L k5)∧w'.cell? ⟨x,0,none⟩=some (.int .i64 (k:Int))∧w'.cell? ⟨pb,1,none⟩=some (.int .i64 16)) (by kernel_rfl) ⟨d3,d0,y1⟩ (fun hHeld=>?_)
  refine wpT 0 ?_;(try simp only [y_,z_]);refine wpT 1 ?_;(try simp only [y_,z_]);refine wpT 2 ?_;(try simp only [y_,z_]);refine wpT 3 ?_;(try simp only [y_,z_]);refine wpT 4 ?_;(try simp only [y_,z_]);refine wpT 5 ?_;(try simp only [y_,z_]);refine wpT 6 ?_;(try simp only [y_,z_]);refine wpT 7 ?_;(try simp only [y_,z_]);refine wpT 8 ?_;(try simp only [y_,z_]);refine wpT 9 ?_;(try simp only [y_,z_]);refine wpT 10 ?_;(try simp only [y_,z_]);refine wpT 11 ?_;(try simp only [y_,z_]);refine wpT 12 ?_;(try simp only [y_,z_]);refine wpT 13 ?_;(try simp only [y_,z_]);refine wpT 14 ?_;(try simp only [y_,z_]);refine aR_ (rs:=[15]) (by kernel_rfl) (by simp) ?_;refine aC_ rfl (fun K hK=>?_) aN_;go_simp;refine (CF.out _).mono ?_;rintro e w9 ⟨rfl,hw9⟩;subst hw9;go_wp2_with fail
  refine hK.out _ _ ?_ (fun hHeld=>?_)
  ·exact hHeld
  clear hK K;(try simp only [y_,z_]);refine wpT 16 ?_;(try simp only [y_,z_]);refine aR_ (rs:=[17]) (by kernel_rfl) (by simp) ?_;refine aC_ rfl (fun K hK=>?_) aN_;go_simp;refine hK.out _ _ ?_ (fun hHeld=>?_)
  ·exact HS1.out
  clear hK K;(try simp only [y_,z_]);refine aD_ (by kernel_rfl) ?_ _;clear hHeld d3 y1 hcn hfn;by_cases hk0:k=0
  ·have tk:((k:Int)==0)=true:=by rw [hk0];rfl
   rw [dT_ hk0,Bool.true_and] at HFIN;subst hk0;go_wp2_with fail
   go_ret;exact HFIN.out
  ·have tk:((k:Int)==0)=false:=by simp;omega
   rw [dF_ hk0,Bool.false_and] at HFIN;have tk2:(k==0)=false:=by simp;omega
   go_wp2_with fail
   go_ret;exact HFIN.out
 ·subst e;go_enter Tryz.func123,Tryz.ntmps123;go_wp2_with fail
  refine CT.out.mono ?_;rintro e w1 ⟨rfl,hB1⟩;have CT2:=hB1.takeC;unfold b8 at CT2;clear CT hB1;go_wp2_with fail
  refine CT2.out.mono ?_;rintro e w2 ⟨rfl,hB2⟩;obtain ⟨IA,ic,OA,oc,d0,d1,d2,d3,f3,f2,_,_,_,_⟩:=hB2.cells;have HB2:=h_ hB2;have hO2:=hB2.rt.own;rw [Hn.out] at d3 hO2;clear hB2 CT2
  go_wp2_with (at_builtin;refine wpList_app rfl rfl T_u8s rfl (hO2.alloc _) rfl (Sl.new _ _ _) rfl (by simp [Value.oneCell']) (by simp only [maxLen];omega) (by omega) ?_)
  intro A3 c3 w3 ho3 hu3 hat3;have hx2:=HB2.out.rt.ne;have hp3:=HB2.out.push (z:=[g,false]) (m:=2) (Upd.refl.alloc _) (by rw [Hn.out];exact ho3) rfl hu3 (fun i q=>(hat3 i q).imp id (fun z=>by rw [z];simp))
  rw [Hn.out] at hp3;have g3:=u_ d3 ((Upd.refl (S:=Non)).alloc (.cells #[.int .u8 (bW g),.int .u8 0] 5)) (fun f=>f);have g3':=u_ g3 hu3 hx2
  have hfz:w3.frozen? ⟨x,3,none⟩=false:=by
   obtain ⟨_,_,_,_,h1,_⟩:=(HB2.out.non ((Upd.refl (S:=Non)).alloc (.cells #[.int .u8 (bW g),.int .u8 0] 5))).rt.blk;exact (h1.upd hu3 hx2).frozen 3
  obtain ⟨W3,HW3⟩:=nm (w3.setCell ⟨x,3,none⟩ (.slice A3 (n+2) c3));rw [HW3.out] at hp3;have y4:W3.cell? ⟨pb,4,none⟩=some (.slice KA kn kc):=(HPB.out W3 hp3.upd).cell 4;obtain ⟨eb,eo,KB,kd,rfl,m0,m1,m2,m3,m4,C1⟩:=HK0.out W3 A3 c3 hp3;simp only [Nat.zero_mul,Nat.add_zero] at m0 m1 m2 m3 m4;unfold b8 at C1;clear hp3 ho3 hu3 hat3 g3 hO2 hx2 d0 d1 d2 d3 f3 f2 HK0
  go_upto_region 40 with fail
  rw [HW3.out];clear g3' hfz;go_wp2_with fail
  refine C1.out.mono ?_;rintro e w4 ⟨A4,k4,rfl,hB4⟩;have y4:w4.cell? ⟨pb,4,none⟩=some (.slice (some ⟨eb,eo,none⟩) kn kc):=(HPB.out w4 hB4.upd).cell 4;obtain ⟨eb2,eo2,KB2,kd2,eK,m0,m1,m2,m3,m4,C2⟩:=HK1.out w4 A4 k4 hB4;injection eK with eK
  injection eK with eK1 eK2
  subst eK1 eK2;simp only [Nat.one_mul] at m0 m1 m2 m3 m4;unfold b8 at C2;clear hB4 C1 HK1;go_wp2_with fail
  refine C2.out.mono ?_;rintro e w5 ⟨A5,k5,rfl,hB5⟩;rw [List.append_assoc (now++[g,false])] at hB5;obtain ⟨addx,hax⟩:∃z,add0++add1=z:=⟨_,rfl⟩;rw [hax] at hB5 HRX;have hxx:=hB5.rt.lt;obtain ⟨nb,rfl⟩:=hB5.rt.own.some_ (by rw [List.length_append,List.length_append];simp;omega);have y1:w5.cell? ⟨pb,1,none⟩=some (.int .i64 17):=(HPB.out w5 hB5.upd).cell 1;have hpl:pb<w5.heap.size:=(HPB.out w5 hB5.upd).lt;have hpn:¬pb=nb:=fun e=>hB5.rt.own.ne_blk (HPB.out w5 hB5.upd) (by decide) (At.some_.2 e)
  obtain ⟨IA,ic,OA,oc,d0,d1,d2,d3,f3,f2,_,_,_,_⟩:=hB5.cells;obtain ⟨L,HL⟩:=nm ((now++[g,false])++addx).length;have hnL:n+1<L:=by rw [←HL.out,List.length_append,List.length_append,Hn.out];simp;omega
  obtain ⟨vc,hcn⟩:∃v,w5.cell? ⟨nb,n+1,none⟩=some v:=⟨_,hB5.rt.own.cell_ (i:=n+1) (by rw [b8s_len,HL.out];exact hnL)⟩;have hfn:=hB5.rt.own.frozen_ (n+1);have hxn:¬x=nb:=fun e=>hB5.rt.ne (At.some_.2 e)
  rw [HL.out] at d3;have hst:=(hB5.non (Upd.refl (S:=Non) (w:=w5)).drew).set (n+1) cf;rw [←Hn.out,set_mid2,Hn.out] at hst
  have HFIN:Hid (BitR w F x k ins now NA (bitP k (insF ins) p (g::m::rest)) (.returned (b8 (decide (k=0)&&g))) (w5.drew.setCell ⟨nb,n+1,none⟩ (b8 cf))):=by
   show BitR _ _ _ _ _ _ _ _ _ _;rw [HRX.out];exact BitR.back HUW.out (BS.done (r:=(_,rest1,[g,cf]++addx)) hst rfl rfl)
  have q1:IntKind.i64.wrap ((n:Int)+1)=((n+1:Nat):Int):=by rw [i64w_of (by unfold I64;omega)];omega
  have q3:(0:Int)≤((n+1:Nat):Int):=by omega
  have q4:((n+1:Nat):Int)<(L:Int):=by omega
  obtain ⟨n1,Hn1⟩:=nm (n+1);rw [Hn1.out] at q1 q3 q4 hcn hfn HFIN
  have HS1:Hid ((w5.drew.setCell ⟨nb,n1,none⟩ (.int .u8 (bW cf))).cell? ⟨x,3,none⟩=some (.slice (some ⟨nb,0,none⟩) L k5)∧(w5.drew.setCell ⟨nb,n1,none⟩ (.int .u8 (bW cf))).cell? ⟨x,0,none⟩=some (.int .i64 (k:Int))∧(w5.drew.setCell ⟨nb,n1,none⟩ (.int .u8 (bW cf))).cell? ⟨pb,1,none⟩=some (.int .i64 17)):=by
   have u:=updCell w5.drew nb n1 (.int .u8 (bW cf));exact ⟨by rw [World.cell?_of_block (w:=w5.drew) (u.block x hxx hxn)];exact d3,by rw [World.cell?_of_block (w:=w5.drew) (u.block x hxx hxn)];exact d0,by rw [World.cell?_of_block (w:=w5.drew) (u.block pb hpl hpn)];exact y1⟩
  unfold b8 at HFIN;clear hB5 hst C2 m0 m1 m2 m3 m4 d1 d2 f3 f2 hnL hax
  go_upto_region 42 with fail
  refine wp_region_held_drew (S:=fun w'=>w'.cell? ⟨x,3,none⟩=some (.slice (some ⟨nb,0,none⟩) L k5)∧w'.cell? ⟨x,0,none⟩=some (.int .i64 (k:Int))∧w'.cell? ⟨pb,1,none⟩=some (.int .i64 17)) (by kernel_rfl) ⟨d3,d0,y1⟩ (fun hHeld=>?_)
  refine wpT 0 ?_;(try simp only [y_,z_]);refine wpT 1 ?_;(try simp only [y_,z_]);refine wpT 2 ?_;(try simp only [y_,z_]);refine wpT 3 ?_;(try simp only [y_,z_]);refine wpT 4 ?_;(try simp only [y_,z_]);refine wpT 5 ?_;(try simp only [y_,z_]);refine wpT 6 ?_;(try simp only [y_,z_]);refine wpT 7 ?_;(try simp only [y_,z_]);refine wpT 8 ?_;(try simp only [y_,z_]);refine wpT 9 ?_;(try simp only [y_,z_]);refine wpT 10 ?_;(try simp only [y_,z_]);refine wpT 11 ?_;(try simp only [y_,z_]);refine wpT 12 ?_;(try simp only [y_,z_]);refine wpT 13 ?_;(try simp only [y_,z_]);refine wpT 14 ?_;(try simp only [y_,z_]);refine aR_ (rs:=[15]) (by kernel_rfl) (by simp) ?_;refine aC_ rfl (fun K hK=>?_) aN_;go_simp;refine (CF.out _).mono ?_;rintro e w9 ⟨rfl,hw9⟩;subst hw9;go_wp2_with fail
  refine hK.out _ _ ?_ (fun hHeld=>?_)
  ·exact hHeld
  clear hK K;(try simp only [y_,z_]);refine wpT 16 ?_;(try simp only [y_,z_]);refine aR_ (rs:=[17]) (by kernel_rfl) (by simp) ?_;refine aC_ rfl (fun K hK=>?_) aN_;go_simp;refine hK.out _ _ ?_ (fun hHeld=>?_)
  ·exact HS1.out
  clear hK K;(try simp only [y_,z_]);refine aD_ (by kernel_rfl) ?_ _;clear hHeld d3 y1 hcn hfn;by_cases hk0:k=0
  ·have tk:((k:Int)==0)=true:=by rw [hk0];rfl
   rw [dT_ hk0,Bool.true_and] at HFIN;subst hk0;go_wp2_with fail
   go_ret;exact HFIN.out
  ·have tk:((k:Int)==0)=false:=by simp;omega
   rw [dF_ hk0,Bool.false_and] at HFIN;have tk2:(k==0)=false:=by simp;omega
   go_wp2_with fail
   go_ret;exact HFIN.out
 ·subst e;go_enter Tryz.func123,Tryz.ntmps123;go_wp2_with fail
  refine CT.out.mono ?_;rintro e w1 ⟨rfl,hB1⟩;have CT2:=hB1.takeC;unfold b8 at CT2;clear CT hB1;go_wp2_with fail
  refine CT2.out.mono ?_;rintro e w2 ⟨rfl,hB2⟩;obtain ⟨IA,ic,OA,oc,d0,d1,d2,d3,f3,f2,_,_,_,_⟩:=hB2.cells;have HB2:=h_ hB2;have hO2:=hB2.rt.own;rw [Hn.out] at d3 hO2;clear hB2 CT2
  go_wp2_with (at_builtin;refine wpList_app rfl rfl T_u8s rfl (hO2.alloc _) rfl (Sl.new _ _ _) rfl (by simp [Value.oneCell']) (by simp only [maxLen];omega) (by omega) ?_)
  intro A3 c3 w3 ho3 hu3 hat3;have hx2:=HB2.out.rt.ne;have hp3:=HB2.out.push (z:=[g,false]) (m:=2) (Upd.refl.alloc _) (by rw [Hn.out];exact ho3) rfl hu3 (fun i q=>(hat3 i q).imp id (fun z=>by rw [z];simp))
  rw [Hn.out] at hp3;have g3:=u_ d3 ((Upd.refl (S:=Non)).alloc (.cells #[.int .u8 (bW g),.int .u8 0] 5)) (fun f=>f);have g3':=u_ g3 hu3 hx2
  have hfz:w3.frozen? ⟨x,3,none⟩=false:=by
   obtain ⟨_,_,_,_,h1,_⟩:=(HB2.out.non ((Upd.refl (S:=Non)).alloc (.cells #[.int .u8 (bW g),.int .u8 0] 5))).rt.blk;exact (h1.upd hu3 hx2).frozen 3
  obtain ⟨W3,HW3⟩:=nm (w3.setCell ⟨x,3,none⟩ (.slice A3 (n+2) c3));rw [HW3.out] at hp3;have y4:W3.cell? ⟨pb,4,none⟩=some (.slice KA kn kc):=(HPB.out W3 hp3.upd).cell 4;obtain ⟨eb,eo,KB,kd,rfl,m0,m1,m2,m3,m4,C1⟩:=HK0.out W3 A3 c3 hp3;simp only [Nat.zero_mul,Nat.add_zero] at m0 m1 m2 m3 m4;unfold b8 at C1;clear hp3 ho3 hu3 hat3 g3 hO2 hx2 d0 d1 d2 d3 f3 f2 HK0
  go_upto_region 40 with fail
  rw [HW3.out];clear g3' hfz;go_wp2_with fail
  refine C1.out.mono ?_;rintro e w4 ⟨A4,k4,rfl,hB4⟩;have y4:w4.cell? ⟨pb,4,none⟩=some (.slice (some ⟨eb,eo,none⟩) kn kc):=(HPB.out w4 hB4.upd).cell 4;obtain ⟨eb2,eo2,KB2,kd2,eK,m0,m1,m2,m3,m4,C2⟩:=HK1.out w4 A4 k4 hB4;injection eK with eK
  injection eK with eK1 eK2
  subst eK1 eK2;simp only [Nat.one_mul] at m0 m1 m2 m3 m4;unfold b8 at C2;clear hB4 C1 HK1;go_wp2_with fail
  refine C2.out.mono ?_;rintro e w5 ⟨A5,k5,rfl,hB5⟩;rw [List.append_assoc (now++[g,false])] at hB5;obtain ⟨addx,hax⟩:∃z,add0++add1=z:=⟨_,rfl⟩;rw [hax] at hB5 HRX;have hxx:=hB5.rt.lt;obtain ⟨nb,rfl⟩:=hB5.rt.own.some_ (by rw [List.length_append,List.length_append];simp;omega);have y1:w5.cell? ⟨pb,1,none⟩=some (.int .i64 18):=(HPB.out w5 hB5.upd).cell 1;have hpl:pb<w5.heap.size:=(HPB.out w5 hB5.upd).lt;have hpn:¬pb=nb:=fun e=>hB5.rt.own.ne_blk (HPB.out w5 hB5.upd) (by decide) (At.some_.2 e)
  obtain ⟨IA,ic,OA,oc,d0,d1,d2,d3,f3,f2,_,_,_,_⟩:=hB5.cells;obtain ⟨L,HL⟩:=nm ((now++[g,false])++addx).length;have hnL:n+1<L:=by rw [←HL.out,List.length_append,List.length_append,Hn.out];simp;omega
  obtain ⟨vc,hcn⟩:∃v,w5.cell? ⟨nb,n+1,none⟩=some v:=⟨_,hB5.rt.own.cell_ (i:=n+1) (by rw [b8s_len,HL.out];exact hnL)⟩;have hfn:=hB5.rt.own.frozen_ (n+1);have hxn:¬x=nb:=fun e=>hB5.rt.ne (At.some_.2 e)
  rw [HL.out] at d3;have hst:=(hB5.non (Upd.refl (S:=Non) (w:=w5)).drew).set (n+1) cf;rw [←Hn.out,set_mid2,Hn.out] at hst
  have HFIN:Hid (BitR w F x k ins now NA (bitP k (insF ins) p (g::m::rest)) (.returned (b8 (decide (k=0)&&g))) (w5.drew.setCell ⟨nb,n+1,none⟩ (b8 cf))):=by
   show BitR _ _ _ _ _ _ _ _ _ _;rw [HRX.out];exact BitR.back HUW.out (BS.done (r:=(_,rest1,[g,cf]++addx)) hst rfl rfl)
  have q1:IntKind.i64.wrap ((n:Int)+1)=((n+1:Nat):Int):=by rw [i64w_of (by unfold I64;omega)];omega
  have q3:(0:Int)≤((n+1:Nat):Int):=by omega
  have q4:((n+1:Nat):Int)<(L:Int):=by omega
  obtain ⟨n1,Hn1⟩:=nm (n+1);rw [Hn1.out] at q1 q3 q4 hcn hfn HFIN
  have HS1:Hid ((w5.drew.setCell ⟨nb,n1,none⟩ (.int .u8 (bW cf))).cell? ⟨x,3,none⟩=some (.slice (some ⟨nb,0,none⟩) L k5)∧(w5.drew.setCell ⟨nb,n1,none⟩ (.int .u8 (bW cf))).cell? ⟨x,0,none⟩=some (.int .i64 (k:Int))∧(w5.drew.setCell ⟨nb,n1,none⟩ (.int .u8 (bW cf))).cell? ⟨pb,1,none⟩=some (.int .i64 18)):=by
   have u:=updCell w5.drew nb n1 (.int .u8 (bW cf));exact ⟨by rw [World.cell?_of_block (w:=w5.drew) (u.block x hxx hxn)];exact d3,by rw [World.cell?_of_block (w:=w5.drew) (u.block x hxx hxn)];exact d0,by rw [World.cell?_of_block (w:=w5.drew) (u.block pb hpl hpn)];exact y1⟩
  unfold b8 at HFIN;clear hB5 hst C2 m0 m1 m2 m3 m4 d1 d2 f3 f2 hnL hax
  go_upto_region 42 with fail
  refine wp_region_held_drew (S:=fun w'=>w'.cell? ⟨x,3,none⟩=some (.slice (some ⟨nb,0,none⟩) L k5)∧w'.cell? ⟨x,0,none⟩=some (.int .i64 (k:Int))∧w'.cell? ⟨pb,1,none⟩=some (.int .i64 18)) (by kernel_rfl) ⟨d3,d0,y1⟩ (fun hHeld=>?_)
  refine wpT 0 ?_;(try simp only [y_,z_]);refine wpT 1 ?_;(try simp only [y_,z_]);refine wpT 2 ?_;(try simp only [y_,z_]);refine wpT 3 ?_;(try simp only [y_,z_]);refine wpT 4 ?_;(try simp only [y_,z_]);refine wpT 5 ?_;(try simp only [y_,z_]);refine wpT 6 ?_;(try simp only [y_,z_]);refine wpT 7 ?_;(try simp only [y_,z_]);refine wpT 8 ?_;(try simp only [y_,z_]);refine wpT 9 ?_;(try simp only [y_,z_]);refine wpT 10 ?_;(try simp only [y_,z_]);refine wpT 11 ?_;(try simp only [y_,z_]);refine wpT 12 ?_;(try simp only [y_,z_]);refine wpT 13 ?_;(try simp only [y_,z_]);refine wpT 14 ?_;(try simp only [y_,z_]);refine aR_ (rs:=[15]) (by kernel_rfl) (by simp) ?_;refine aC_ rfl (fun K hK=>?_) aN_;go_simp;refine (CF.out _).mono ?_;rintro e w9 ⟨rfl,hw9⟩;subst hw9;go_wp2_with fail
  refine hK.out _ _ ?_ (fun hHeld=>?_)
  ·exact hHeld
  clear hK K;(try simp only [y_,z_]);refine wpT 16 ?_;(try simp only [y_,z_]);refine aR_ (rs:=[17]) (by kernel_rfl) (by simp) ?_;refine aC_ rfl (fun K hK=>?_) aN_;go_simp;refine hK.out _ _ ?_ (fun hHeld=>?_)
  ·exact HS1.out
  clear hK K;(try simp only [y_,z_]);refine aD_ (by kernel_rfl) ?_ _;clear hHeld d3 y1 hcn hfn;by_cases hk0:k=0
  ·have tk:((k:Int)==0)=true:=by rw [hk0];rfl
   rw [dT_ hk0,Bool.true_and] at HFIN;subst hk0;go_wp2_with fail
   go_ret;exact HFIN.out
  ·have tk:((k:Int)==0)=false:=by simp;omega
   rw [dF_ hk0,Bool.false_and] at HFIN;have tk2:(k==0)=false:=by simp;omega
   go_wp2_with fail
   go_ret;exact HFIN.out
 ·subst e;go_enter Tryz.func123,Tryz.ntmps123;go_wp2_with fail
  refine CT.out.mono ?_;rintro e w1 ⟨rfl,hB1⟩;have CT2:=hB1.takeC;unfold b8 at CT2;clear CT hB1;go_wp2_with fail
  refine CT2.out.mono ?_;rintro e w2 ⟨rfl,hB2⟩;obtain ⟨IA,ic,OA,oc,d0,d1,d2,d3,f3,f2,_,_,_,_⟩:=hB2.cells;have HB2:=h_ hB2;have hO2:=hB2.rt.own;rw [Hn.out] at d3 hO2;clear hB2 CT2
  go_wp2_with (at_builtin;refine wpList_app rfl rfl T_u8s rfl (hO2.alloc _) rfl (Sl.new _ _ _) rfl (by simp [Value.oneCell']) (by simp only [maxLen];omega) (by omega) ?_)
  intro A3 c3 w3 ho3 hu3 hat3;have hx2:=HB2.out.rt.ne;have hp3:=HB2.out.push (z:=[g,false]) (m:=2) (Upd.refl.alloc _) (by rw [Hn.out];exact ho3) rfl hu3 (fun i q=>(hat3 i q).imp id (fun z=>by rw [z];simp))
  rw [Hn.out] at hp3;have g3:=u_ d3 ((Upd.refl (S:=Non)).alloc (.cells #[.int .u8 (bW g),.int .u8 0] 5)) (fun f=>f);have g3':=u_ g3 hu3 hx2
  have hfz:w3.frozen? ⟨x,3,none⟩=false:=by
   obtain ⟨_,_,_,_,h1,_⟩:=(HB2.out.non ((Upd.refl (S:=Non)).alloc (.cells #[.int .u8 (bW g),.int .u8 0] 5))).rt.blk;exact (h1.upd hu3 hx2).frozen 3
  obtain ⟨W3,HW3⟩:=nm (w3.setCell ⟨x,3,none⟩ (.slice A3 (n+2) c3));rw [HW3.out] at hp3;have y4:W3.cell? ⟨pb,4,none⟩=some (.slice KA kn kc):=(HPB.out W3 hp3.upd).cell 4;obtain ⟨eb,eo,KB,kd,rfl,m0,m1,m2,m3,m4,C1⟩:=HK0.out W3 A3 c3 hp3;simp only [Nat.zero_mul,Nat.add_zero] at m0 m1 m2 m3 m4;unfold b8 at C1;clear hp3 ho3 hu3 hat3 g3 hO2 hx2 d0 d1 d2 d3 f3 f2 HK0
  go_upto_region 40 with fail
  rw [HW3.out];clear g3' hfz;go_wp2_with fail
  refine C1.out.mono ?_;rintro e w4 ⟨A4,k4,rfl,hB4⟩;have y4:w4.cell? ⟨pb,4,none⟩=some (.slice (some ⟨eb,eo,none⟩) kn kc):=(HPB.out w4 hB4.upd).cell 4;obtain ⟨eb2,eo2,KB2,kd2,eK,m0,m1,m2,m3,m4,C2⟩:=HK1.out w4 A4 k4 hB4;injection eK with eK
  injection eK with eK1 eK2
  subst eK1 eK2;simp only [Nat.one_mul] at m0 m1 m2 m3 m4;unfold b8 at C2;clear hB4 C1 HK1;go_wp2_with fail
  refine C2.out.mono ?_;rintro e w5 ⟨A5,k5,rfl,hB5⟩;rw [List.append_assoc (now++[g,false])] at hB5;obtain ⟨addx,hax⟩:∃z,add0++add1=z:=⟨_,rfl⟩;rw [hax] at hB5 HRX;have hxx:=hB5.rt.lt;obtain ⟨nb,rfl⟩:=hB5.rt.own.some_ (by rw [List.length_append,List.length_append];simp;omega);have y1:w5.cell? ⟨pb,1,none⟩=some (.int .i64 19):=(HPB.out w5 hB5.upd).cell 1;have hpl:pb<w5.heap.size:=(HPB.out w5 hB5.upd).lt;have hpn:¬pb=nb:=fun e=>hB5.rt.own.ne_blk (HPB.out w5 hB5.upd) (by decide) (At.some_.2 e)
  obtain ⟨IA,ic,OA,oc,d0,d1,d2,d3,f3,f2,_,_,_,_⟩:=hB5.cells;obtain ⟨L,HL⟩:=nm ((now++[g,false])++addx).length;have hnL:n+1<L:=by rw [←HL.out,List.length_append,List.length_append,Hn.out];simp;omega
  obtain ⟨vc,hcn⟩:∃v,w5.cell? ⟨nb,n+1,none⟩=some v:=⟨_,hB5.rt.own.cell_ (i:=n+1) (by rw [b8s_len,HL.out];exact hnL)⟩;have hfn:=hB5.rt.own.frozen_ (n+1);have hxn:¬x=nb:=fun e=>hB5.rt.ne (At.some_.2 e)
  rw [HL.out] at d3;have hst:=(hB5.non (Upd.refl (S:=Non) (w:=w5)).drew).set (n+1) cf;rw [←Hn.out,set_mid2,Hn.out] at hst
  have HFIN:Hid (BitR w F x k ins now NA (bitP k (insF ins) p (g::m::rest)) (.returned (b8 (decide (k=0)&&g))) (w5.drew.setCell ⟨nb,n+1,none⟩ (b8 cf))):=by
   show BitR _ _ _ _ _ _ _ _ _ _;rw [HRX.out];exact BitR.back HUW.out (BS.done (r:=(_,rest1,[g,cf]++addx)) hst rfl rfl)
  have q1:IntKind.i64.wrap ((n:Int)+1)=((n+1:Nat):Int):=by rw [i64w_of (by unfold I64;omega)];omega
  have q3:(0:Int)≤((n+1:Nat):Int):=by omega
  have q4:((n+1:Nat):Int)<(L:Int):=by omega
  obtain ⟨n1,Hn1⟩:=nm (n+1);rw [Hn1.out] at q1 q3 q4 hcn hfn HFIN
  have HS1:Hid ((w5.drew.setCell ⟨nb,n1,none⟩ (.int .u8 (bW cf))).cell? ⟨x,3,none⟩=some (.slice (some ⟨nb,0,none⟩) L k5)∧(w5.drew.setCell ⟨nb,n1,none⟩ (.int .u8 (bW cf))).cell? ⟨x,0,none⟩=some (.int .i64 (k:Int))∧(w5.drew.setCell ⟨nb,n1,none⟩ (.int .u8 (bW cf))).cell? ⟨pb,1,none⟩=some (.int .i64 19)):=by
   have u:=updCell w5.drew nb n1 (.int .u8 (bW cf));exact ⟨by rw [World.cell?_of_block (w:=w5.drew) (u.block x hxx hxn)];exact d3,by rw [World.cell?_of_block (w:=w5.drew) (u.block x hxx hxn)];exact d0,by rw [World.cell?_of_block (w:=w5.drew) (u.block pb hpl hpn)];exact y1⟩
  unfold b8 at HFIN;clear hB5 hst C2 m0 m1 m2 m3 m4 d1 d2 f3 f2 hnL hax
  go_upto_region 42 with fail
  refine wp_region_held_drew (S:=fun w'=>w'.cell? ⟨x,3,none⟩=some (.slice (some ⟨nb,0,none⟩) L k5)∧w'.cell? ⟨x,0,none⟩=some (.int .i64 (k:Int))∧w'.cell? ⟨pb,1,none⟩=some (.int .i64 19)) (by kernel_rfl) ⟨d3,d0,y1⟩ (fun hHeld=>?_)
  refine wpT 0 ?_;(try simp only [y_,z_]);refine wpT 1 ?_;(try simp only [y_,z_]);refine wpT 2 ?_;(try simp only [y_,z_]);refine wpT 3 ?_;(try simp only [y_,z_]);refine wpT 4 ?_;(try simp only [y_,z_]);refine wpT 5 ?_;(try simp only [y_,z_]);refine wpT 6 ?_;(try simp only [y_,z_]);refine wpT 7 ?_;(try simp only [y_,z_]);refine wpT 8 ?_;(try simp only [y_,z_]);refine wpT 9 ?_;(try simp only [y_,z_]);refine wpT 10 ?_;(try simp only [y_,z_]);refine wpT 11 ?_;(try simp only [y_,z_]);refine wpT 12 ?_;(try simp only [y_,z_]);refine wpT 13 ?_;(try simp only [y_,z_]);refine wpT 14 ?_;(try simp only [y_,z_]);refine aR_ (rs:=[15]) (by kernel_rfl) (by simp) ?_;refine aC_ rfl (fun K hK=>?_) aN_;go_simp;refine (CF.out _).mono ?_;rintro e w9 ⟨rfl,hw9⟩;subst hw9;go_wp2_with fail
  refine hK.out _ _ ?_ (fun hHeld=>?_)
  ·exact hHeld
  clear hK K;(try simp only [y_,z_]);refine wpT 16 ?_;(try simp only [y_,z_]);refine aR_ (rs:=[17]) (by kernel_rfl) (by simp) ?_;refine aC_ rfl (fun K hK=>?_) aN_;go_simp;refine hK.out _ _ ?_ (fun hHeld=>?_)
  ·exact HS1.out
  clear hK K;(try simp only [y_,z_]);refine aD_ (by kernel_rfl) ?_ _;clear hHeld d3 y1 hcn hfn;by_cases hk0:k=0
  ·have tk:((k:Int)==0)=true:=by rw [hk0];rfl
   rw [dT_ hk0,Bool.true_and] at HFIN;subst hk0;go_wp2_with fail
   go_ret;exact HFIN.out
  ·have tk:((k:Int)==0)=false:=by simp;omega
   rw [dF_ hk0,Bool.false_and] at HFIN;have tk2:(k==0)=false:=by simp;omega
   go_wp2_with fail
   go_ret;exact HFIN.out
set_option maxRecDepth 100000 in
set_option maxHeartbeats 16000000 in
theorem rBit_sel (k:Nat) (p:Pt) (hv:¬0<p.v) (ho:p.op=22) (IH:∀q∈p.kids,BitC 123 k q):BitC 123 k p:=by
 intro w F x ins old now NA nc KA kc hrt hp hs hw hb hn hil;have hwI:=(WfP.iff ins.length p).1 hw;obtain ⟨W,HW⟩:=nm (w.alloc (.cells #[.int .i64 p.v,.int .i64 p.op,.int .i64 p.imm,.int .i64 p.iv,.slice KA p.kids.length kc] 24));have hU:Upd Non w W:=by rw [←HW.out];exact Upd.refl.alloc _
 have e0:=HW.out;have hbk:Blk W w.heap.size 24 #[.int .i64 p.v,.int .i64 p.op,.int .i64 p.imm,.int .i64 p.iv,.slice KA p.kids.length kc]:=by rw [←HW.out];exact Blk.new _ _ _
 have HB0:=h_ (hrt.non hU).bs;have HPT:=h_ (PtK.upd hU (fun _ _ _ f=>f) _ _ _ hp);have HUW:=h_ hU;have HFAR:Hid (∀i,F i→i≠x∧¬At NA i):=fun i q=>(hrt.far i q).2
 have HXL:Hid (x<w.heap.size):=hrt.lt;have HNL:Hid (∀i,At NA i→i<w.heap.size):=fun i q=>hrt.own.lt q
 have HPB:Hid (∀w',Upd (fun i=>i=x∨At NA i) W w'→Blk w' w.heap.size 24 #[.int .i64 p.v,.int .i64 p.op,.int .i64 p.imm,.int .i64 p.iv,.slice KA p.kids.length kc]):=fun w' u=>hbk.upd u (fun q=>by
  rcases q with q | q
  ·have:=HXL.out;omega
  ·have:=HNL.out _ q;omega)
 obtain ⟨pb,hpb⟩:∃b,w.heap.size=b:=⟨_,rfl⟩;rw [hpb] at HPB;have c0:W.cell? ⟨pb,0,none⟩=some (.int .i64 p.v):=(HPB.out W Upd.refl).cell 0;have c1:W.cell? ⟨pb,1,none⟩=some (.int .i64 p.op):=(HPB.out W Upd.refl).cell 1;have tv:decide (p.v > 0)=false:=dF_ (by omega);have HPE:=h_ (fun (r:List Bool×List Bool×List Bool) (hr:bitL k (insF ins) p.kids (old.drop (ownN p.op p.kids))=r)=>bitP_op hv k (insF ins) old (r:=r) hr)
 have har:=hwI.2.2.1 (by have:=hwI.1;omega);rw [supF_op hv,Bool.and_eq_true] at hs;have HSK:=h_ hs.2;have HWK:=h_ hwI.2.2.2;have hbn:bN p=ownN p.op p.kids+bL p.kids:=by rw [bN_iff,if_neg hv]
 obtain ⟨n,Hn⟩:=nm now.length;obtain ⟨ol,Hol⟩:=nm old.length;rw [Hn.out] at hn;rw [Hol.out] at hb;have HIL:Hid (ins.length≤1000):=hil;have hown:ownN p.op p.kids=2:=by rw [ho];rfl
 rw [hown] at hbn HPE;have hl2:p.kids.length=3:=by rw [har,ho];rfl
 obtain ⟨q0,q1,q2,hk1⟩:∃q0 q1 q2,p.kids=[q0,q1,q2]:=by
  match p.kids,hl2 with
  | [a,b,c],_=>exact ⟨a,b,c,rfl⟩
 have hbl:bL p.kids=bN q0+(bN q1+bN q2):=by rw [hk1];simp [bL]
 obtain ⟨g,m,rest,rfl⟩:∃g m rest,old=g::m::rest:=by
  match old,Hol.out,hb with
  | [],e,h=>rw [←e,List.length_nil] at h;omega
  | [a],e,h=>rw [←e,List.length_singleton] at h;omega
  | g::m::r,_,_=>exact ⟨g,m,r,rfl⟩
 have hrl:rest.length+2=ol:=by rw [←Hol.out];rfl
 obtain ⟨kn,Hkn⟩:=nm p.kids.length;rw [Hkn.out] at hl2 HPB e0;have hkn0:(0:Int)<(kn:Int):=by omega
 have hkn1:(1:Int)<(kn:Int):=by omega
 have hkn2:(2:Int)<(kn:Int):=by omega
 have hs0:=List.all_eq_true.1 HSK.out q0 (by rw [hk1];simp);have hs1:=List.all_eq_true.1 HSK.out q1 (by rw [hk1];simp);have hs2:=List.all_eq_true.1 HSK.out q2 (by rw [hk1];simp);have hre:=bitP_rest (k:=k) (f:=insF ins) hs0 (old:=rest) (by omega);obtain ⟨r0,Hr0⟩:=nm (bitP k (insF ins) q0 rest);rw [Hr0.out] at hre;have HK0:=h_ (fun (w1:World) (A1:Option Addr) (k1:Nat) (hB1:BS W NA w1 F x k ins rest (now++[g,false]) A1 k1)=>hB1.kid HFAR.out HPT.out (i:=0) (q:=q0) (by rw [hk1];exact Nat.succ_pos 2) (by simp [hk1]) (IH q0 (by rw [hk1];simp)) hs0 (HWK.out q0 (by rw [hk1];simp)) (by omega) (by rw [List.length_append,Hn.out];simp;omega) hil Hr0.out)
 obtain ⟨a0,rest0,add0⟩:=r0;simp only at HK0 hre;have hr0l:rest0.length=rest.length - bN q0:=by rw [hre.1,List.length_drop]
 have hre1:=bitP_rest (k:=k) (f:=insF ins) hs1 (old:=rest0) (by rw [hr0l];omega);obtain ⟨r1,Hr1⟩:=nm (bitP k (insF ins) q1 rest0);rw [Hr1.out] at hre1;have HK1:=h_ (fun (w1:World) (A1:Option Addr) (k1:Nat) (hB1:BS W NA w1 F x k ins rest0 ((now++[g,false])++add0) A1 k1)=>hB1.kid HFAR.out HPT.out (i:=1) (q:=q1) (by rw [hk1];exact Nat.succ_lt_succ (Nat.succ_pos 1)) (by simp [hk1]) (IH q1 (by rw [hk1];simp)) hs1 (HWK.out q1 (by rw [hk1];simp)) (by rw [hr0l];omega) (by rw [List.length_append,List.length_append,Hn.out,hre.2];simp;omega) hil Hr1.out)
 obtain ⟨a1,rest1,add1⟩:=r1;simp only at HK1 hre1;have hr1l:rest1.length=rest0.length - bN q1:=by rw [hre1.1,List.length_drop]
 obtain ⟨r2,Hr2⟩:=nm (bitP k (insF ins) q2 rest1);have HK2:=h_ (fun (w1:World) (A1:Option Addr) (k1:Nat) (hB1:BS W NA w1 F x k ins rest1 (((now++[g,false])++add0)++add1) A1 k1)=>hB1.kid HFAR.out HPT.out (i:=2) (q:=q2) (by rw [hk1];exact Nat.lt_succ_self 2) (by simp [hk1]) (IH q2 (by rw [hk1];simp)) hs2 (HWK.out q2 (by rw [hk1];simp)) (by rw [hr1l,hr0l];omega) (by rw [List.length_append,List.length_append,List.length_append,Hn.out,hre.2,hre1.2];simp;omega) hil Hr2.out)
 obtain ⟨a2,rest2,add2⟩:=r2;simp only at HK2;have HPE2:=HPE.out ([a0,a1,a2],rest2,add0++(add1++add2)) (by show bitL k (insF ins) p.kids rest=_;rw [hk1,bitL_three,Hr0.out];simp only [Hr1.out,Hr2.out])
 obtain ⟨cf,hcf⟩:∃b,(m || a0)=b:=⟨_,rfl⟩
 have HRX:Hid (bitP k (insF ins) p (g::m::rest)=((if g then a1 else a2),rest2,[g,cf]++(add0++(add1++add2)))):=by
  show _=_;rw [HPE2,ho,←hcf];rfl
 have hor:=b8_or m a0;rw [hcf] at hor;rw [ho] at c1 e0 HPB;have CT:=HB0.out.takeC;unfold pv;rw [Hkn.out,ho];unfold b8 at CT;have hn2:n+2≤1000000:=by omega
 have c4:W.cell? ⟨pb,4,none⟩=some (.slice KA kn kc):=(HPB.out W Upd.refl).cell 4;clear hrt hp hs hw hb hn hwI hbk har hbn hk1 hbl hown HPE HPE2 hl2 hre hr0l hs0 hs1 hs2 ho hrl c4 hre1 hr1l hcf;go_enter Tryz.func123,Tryz.ntmps123;go_wp2_with fail
 refine CT.out.mono ?_;rintro e w1 ⟨rfl,hB1⟩;have CT2:=hB1.takeC;unfold b8 at CT2;clear CT hB1;go_wp2_with fail
 refine CT2.out.mono ?_;rintro e w2 ⟨rfl,hB2⟩;obtain ⟨IA,ic,OA,oc,d0,d1,d2,d3,f3,f2,_,_,_,_⟩:=hB2.cells;have HB2:=h_ hB2;have hO2:=hB2.rt.own;rw [Hn.out] at d3 hO2;clear hB2 CT2
 go_wp2_with (at_builtin;refine wpList_app rfl rfl T_u8s rfl (hO2.alloc _) rfl (Sl.new _ _ _) rfl (by simp [Value.oneCell']) (by simp only [maxLen];omega) (by omega) ?_)
 intro A3 c3 w3 ho3 hu3 hat3;have hx2:=HB2.out.rt.ne;have hp3:=HB2.out.push (z:=[g,false]) (m:=2) (Upd.refl.alloc _) (by rw [Hn.out];exact ho3) rfl hu3 (fun i q=>(hat3 i q).imp id (fun z=>by rw [z];simp))
 rw [Hn.out] at hp3;have g3:=u_ d3 ((Upd.refl (S:=Non)).alloc (.cells #[.int .u8 (bW g),.int .u8 0] 5)) (fun f=>f);have g3':=u_ g3 hu3 hx2
 have hfz:w3.frozen? ⟨x,3,none⟩=false:=by
  obtain ⟨_,_,_,_,h1,_⟩:=(HB2.out.non ((Upd.refl (S:=Non)).alloc (.cells #[.int .u8 (bW g),.int .u8 0] 5))).rt.blk;exact (h1.upd hu3 hx2).frozen 3
 obtain ⟨W3,HW3⟩:=nm (w3.setCell ⟨x,3,none⟩ (.slice A3 (n+2) c3));rw [HW3.out] at hp3;have y4:W3.cell? ⟨pb,4,none⟩=some (.slice KA kn kc):=(HPB.out W3 hp3.upd).cell 4;obtain ⟨eb,eo,KB,kd,rfl,m0,m1,m2,m3,m4,C1⟩:=HK0.out W3 A3 c3 hp3;simp only [Nat.zero_mul,Nat.add_zero] at m0 m1 m2 m3 m4;unfold b8 at C1;clear hp3 ho3 hu3 hat3 g3 hO2 hx2 d0 d1 d2 d3 f3 f2 HK0
 go_upto_region 29 with fail
 rw [HW3.out];clear g3' hfz;go_wp2_with fail
 refine C1.out.mono ?_;rintro e w4 ⟨A4,k4,rfl,hB4⟩;have y4:w4.cell? ⟨pb,4,none⟩=some (.slice (some ⟨eb,eo,none⟩) kn kc):=(HPB.out w4 hB4.upd).cell 4;obtain ⟨eb2,eo2,KB2,kd2,eK,m0,m1,m2,m3,m4,C2⟩:=HK1.out w4 A4 k4 hB4;injection eK with eK
 injection eK with eK1 eK2
 subst eK1 eK2;simp only [Nat.one_mul] at m0 m1 m2 m3 m4;unfold b8 at C2;clear hB4 C1 HK1;go_wp2_with fail
 refine C2.out.mono ?_;rintro e w5 ⟨A5,k5,rfl,hB5⟩;have y4:w5.cell? ⟨pb,4,none⟩=some (.slice (some ⟨eb,eo,none⟩) kn kc):=(HPB.out w5 hB5.upd).cell 4;obtain ⟨eb3,eo3,KB3,kd3,eK,m0,m1,m2,m3,m4,C3⟩:=HK2.out w5 A5 k5 hB5;injection eK with eK
 injection eK with eK1 eK2
 subst eK1 eK2;unfold b8 at C3;clear hB5 C2 HK2;go_wp2_with fail
 refine C3.out.mono ?_;rintro e w6 ⟨A6,k6,rfl,hB6⟩;rw [List.append_assoc ((now++[g,false])++add0),List.append_assoc (now++[g,false])] at hB6;obtain ⟨addx,hax⟩:∃z,add0++(add1++add2)=z:=⟨_,rfl⟩;rw [hax] at hB6 HRX;obtain ⟨nb,rfl⟩:=hB6.rt.own.some_ (by rw [List.length_append,List.length_append];simp;omega);obtain ⟨IA,ic,OA,oc,d0,d1,d2,d3,f3,f2,_,_,_,_⟩:=hB6.cells;obtain ⟨L,HL⟩:=nm ((now++[g,false])++addx).length;have hnL:n+1<L:=by rw [←HL.out,List.length_append,List.length_append,Hn.out];simp;omega
 obtain ⟨vc,hcn⟩:∃v,w6.cell? ⟨nb,n+1,none⟩=some v:=⟨_,hB6.rt.own.cell_ (i:=n+1) (by rw [b8s_len,HL.out];exact hnL)⟩;have hfn:=hB6.rt.own.frozen_ (n+1);rw [HL.out] at d3;have hst:=hB6.set (n+1) cf;rw [←Hn.out,set_mid2,Hn.out] at hst
 have HFIN:Hid (BitR w F x k ins now NA (bitP k (insF ins) p (g::m::rest)) (.returned (b8 (if g then a1 else a2))) (w6.setCell ⟨nb,n+1,none⟩ (b8 cf))):=by
  show BitR _ _ _ _ _ _ _ _ _ _;rw [HRX.out];exact BitR.back HUW.out (BS.done (r:=(_,rest2,[g,cf]++addx)) hst rfl rfl)
 unfold b8 at HFIN;have q4:(n:Int)+1<(L:Int):=by omega
 have q0':(0:Int)≤(n:Int)+1:=by omega
 clear hB6 hst C3 m0 m1 m2 m3 m4 d0 d1 d2 f3 f2 hax hnL y4;cases g
 all_goals
  go_wp2_with fail
  go_ret;exact HFIN.out
theorem rBit_c (k:Nat) (hk:k<64) (p:Pt):BitC 123 k p:=by
 induction p using Pt.ind with
 | h p ih =>
  by_cases hv:0<p.v
  ·exact rBit_var k p hv
  ·intro w F x ins old now NA nc KA kc hrt hp hs hw hb hn hil;have hso:=hs;rw [supF_op hv,Bool.and_eq_true] at hso
   have h:BitC 123 k p:=by
    rcases supO_ops hso.1 with e | e | e | e | e | e | e | e | e | e | e | e | e | e | e
    ·exact rBit_const k hk p hv e
    ·exact rBit_carry k p hv (by omega) ih
    ·exact rBit_carry k p hv (by omega) ih
    ·exact rBit_two k p hv (by omega) ih
    ·exact rBit_two k p hv (by omega) ih
    ·exact rBit_two k p hv (by omega) ih
    ·exact rBit_shift k p hv e ih
    ·exact rBit_cmp k hk p hv (by omega) ih
    ·exact rBit_cmp k hk p hv (by omega) ih
    ·exact rBit_cmp k hk p hv (by omega) ih
    ·exact rBit_cmp k hk p hv (by omega) ih
    ·exact rBit_cmp k hk p hv (by omega) ih
    ·exact rBit_carry k p hv (by omega) ih
    ·exact rBit_not k p hv e ih
    ·exact rBit_sel k p hv e ih
   exact h w F x ins old now NA nc KA kc hrt hp hs hw hb hn hil
end Go.Proofs.YtdbjgihnngigeaaGreat
