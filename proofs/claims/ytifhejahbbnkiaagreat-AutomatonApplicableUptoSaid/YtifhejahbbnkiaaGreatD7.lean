/-
  Lemmas and walks that the claim rests on, part 7 (packed by a program).
-/
import Derived.Test.YtifhejahbbnkiaaGreatD1
import Derived.Test.YtifhejahbbnkiaaGreatD6
import Derived.Test.YtifhejahbbnkiaaGreatD5
import Derived.Test.YtifhejahbbnkiaaGreatD3
import Derived.Test.YtifhejahbbnkiaaGreatD2
namespace Go.Proofs.YtifhejahbbnkiaaGreat
open Go.RowKit
abbrev Mon:=List UInt8
abbrev PL:=List (Mon×Int)
def scale (a:Int) (l:PL):PL:=l.map fun t=>(t.1,a * t.2)
def madd (a b:Mon):Mon:=List.zipWith (·+·) a b
def shiftP (j:Mon) (c:Int) (l:PL):PL:=l.map fun t=>(madd j t.1,c * t.2)
def pairs (a b:PL):PL:=a.flatMap fun s=>shiftP s.1 s.2 b
def zeroM (n:Nat):Mon:=List.replicate n 0
def unitM (n k:Nat):Mon:=(List.replicate n 0).set k 1
def combine (n:Nat) (op:Int) (l:List PL):Option PL :=
 if op=4 then some (l.getD 0 []++l.getD 1 [])
 else if op=5 then some (l.getD 0 []++scale (-1) (l.getD 1 []))
 else if op=6 then some (pairs (l.getD 0 []) (l.getD 1 []))
 else if op=20 then some (scale (-1) (l.getD 0 []))
 else if op=21 then some ((zeroM n,-1)::scale (-1) (l.getD 0 []))
 else none
def allSome:List (Option PL)→Option (List PL)
 | []=>some []
 | none::_=>none
 | some x::l=>match allSome l with
  | none=>none
  | some r=>some (x::r)
mutual
def tm (n:Nat):Pt→Option PL
 | .mk v op imm _ kids =>
  if 0<v then some [(unitM n (v - 1).toNat,1)]
  else if op=1 then some [(zeroM n,imm)]
  else if op=12 then
   match (tmL n kids).getD 0 none with
   | none=>none
   | some l=>if (kids.map (·.op)).getD 1 0=1 then some (scale (2 ^ shF ((kids.map (·.imm)).getD 1 0)) l) else none
  else match allSome (tmL n kids) with
   | none=>none
   | some l=>combine n op l
def tmL (n:Nat):List Pt→List (Option PL)
 | []=>[]
 | k::ks=>tm n k::tmL n ks
end
theorem tmL_eq (n:Nat):∀l:List Pt,tmL n l=l.map (tm n)
 | []=>by simp only [tmL,List.map_nil]
 | k::ks=>by simp only [tmL,tmL_eq n ks,List.map_cons]
mutual
def WfP (n:Nat):Pt→Prop
 | .mk v op _ _ kids=>0≤v∧v≤n∧(v=0→kids.length=(oSortsF op).1.length)∧WfL n kids
def WfL (n:Nat):List Pt→Prop
 | []=>True
 | k::ks=>WfP n k∧WfL n ks
end
theorem WfL.iff (n:Nat):∀l:List Pt,WfL n l↔∀k∈l,WfP n k
 | []=>by simp [WfL]
 | k::ks=>by simp [WfL,WfL.iff n ks]
theorem WfP.iff (n:Nat) (p:Pt):WfP n p↔0≤p.v∧p.v≤n∧(p.v=0→p.kids.length=(oSortsF p.op).1.length)∧∀k∈p.kids,WfP n k:=by
 obtain ⟨v,op,imm,iv,kids⟩:=p;rw [WfP,WfL.iff];rfl
theorem wf_of_vPt (p:Pt):∀(s m:Int) (vs:List Int),(vPt p s m vs).1=true→WfP vs.length p:=by
 induction p using Pt.ind with
 | h p ih =>
  intro s m vs h;rw [WfP.iff];by_cases hv:p.v=0
  ·rw [vPt_op hv] at h
   split at h
   ·rename_i hc;refine ⟨by omega,by omega,fun _=>hc.2.1,?_⟩
    suffices ∀(ks:List Pt) (ss:List Int) (us:List Int),us.length=vs.length→(∀k∈ks,k∈p.kids)→(vKids ks ss m us).1=true→∀k∈ks,WfP vs.length k from this _ _ _ rfl (fun k hk=>hk) h
    intro ks
    induction ks with
    | nil=>intro ss us _ _ _ k hk;simp at hk
    | cons k ks ihk =>
     intro ss us hu hm hk;simp only [vKids] at hk
     split at hk
     ·rename_i hk1;intro k' hk';rcases List.mem_cons.1 hk' with rfl | hk'
      ·have:=ih _ (hm _ (by simp)) _ _ _ hk1
       rwa [hu] at this
      ·exact ihk _ _ (by rw [vPt_len];exact hu) (fun x hx=>hm x (by simp [hx])) hk k' hk'
     ·exact absurd hk (by simp)
   ·simp at h
  ·rw [vPt_var hv] at h
   split at h
   ·simp at h
   ·rename_i hc;refine ⟨by omega,by omega,fun e=>absurd e hv,?_⟩;intro k hk;have : 0<p.kids.length:=List.length_pos_of_mem hk;omega
theorem I64_wrap' (x:Int):I64 (wrap64 x):=by unfold I64 wrap64;omega
theorem i64_wrapk (x:Int):I64 (IntKind.i64.wrap x):=by rw [IntWalk.i64_left];exact I64_wrap' x
theorem i64_bW (b:Bool):I64 (bW b):=by cases b <;> (unfold I64 bW;simp)
theorem supO_ops {op:Int} {kids:List Pt} (h:supO op kids=true):op=1∨op=4∨op=5∨op=9∨op=10∨op=11∨op=12∨op=15∨op=16∨op=17∨op=18∨op=19∨op=20∨op=21∨op=22:=by
 unfold supO at h;have h:=of_decide_eq_true h;omega
theorem ltB_irrefl:∀a:List Bool,ltB a a=false
 | []=>rfl
 | a::xs=>by rw [ltB,if_pos rfl,ltB_irrefl xs]
theorem ltB_trans:∀{a b c:List Bool},ltB a b=true→ltB b c=true→ltB a c=true
 | [],[],_,h,_=>by cases h
 | [],_::_,[],_,h=>by cases h
 | [],_::_,_::_,_,_=>rfl
 | _::_,[],_,h,_=>by cases h
 | _::_,_::_,[],_,h=>by cases h
 | a::xs,b::ys,c::zs,h1,h2=>by
  rw [ltB] at h1 h2 ⊢;have:=@ltB_trans xs ys zs;cases a <;> cases b <;> cases c <;> simp at h1 h2 ⊢ <;> exact this h1 h2
theorem ltB_total:∀(a b:List Bool),ltB a b=true∨a=b∨ltB b a=true
 | [],[]=>.inr (.inl rfl)
 | [],_::_=>.inl rfl
 | _::_,[]=>.inr (.inr rfl)
 | a::xs,b::ys=>by
  rw [ltB,ltB];have:=ltB_total xs ys;cases a <;> cases b <;> simp <;> exact this
def SrtB (l:List (List Bool)):Prop:=l.Pairwise fun a b=>ltB a b=true
theorem mem_insB {x y:List Bool}:∀{l:List (List Bool)},y∈insB x l↔y=x∨y∈l
 | []=>by simp [insB]
 | z::l=>by
  rw [insB]
  split
  ·rw [List.mem_cons,mem_insB,List.mem_cons];constructor
   ·rintro (h | h | h) <;> simp [h]
   ·rintro (h | h | h) <;> simp [h]
  ·split
   ·rename_i h;subst h;simp
   ·simp
theorem srt_insB {x:List Bool}:∀{l:List (List Bool)},SrtB l→SrtB (insB x l)
 | [],_=>List.pairwise_singleton _ _
 | z::l,h=>by
  have h1:=List.pairwise_cons.1 h;rw [insB]
  split
  ·rename_i hz;refine List.pairwise_cons.2 ⟨fun y hy=>?_,srt_insB h1.2⟩;rcases mem_insB.1 hy with rfl | hy
   ·exact hz
   ·exact h1.1 y hy
  ·split
   ·exact h
   ·rename_i h2 h3
    have hxz:ltB x z=true:=by
     rcases ltB_total x z with q | q | q
     ·exact q
     ·exact absurd q.symm h3
     ·exact absurd q h2
    refine List.pairwise_cons.2 ⟨fun y hy=>?_,h⟩;rcases List.mem_cons.1 hy with rfl | hy
    ·exact hxz
    ·exact ltB_trans hxz (h1.1 y hy)
theorem srt_fold:∀(l a:List (List Bool)),SrtB a→SrtB (l.foldl (fun a x=>insB x a) a)
 | [],_,h=>h
 | _::l,_,h=>srt_fold l _ (srt_insB h)
theorem mem_fold {y:List Bool}:∀(l a:List (List Bool)),y∈l.foldl (fun a x=>insB x a) a↔y∈l∨y∈a
 | [],a=>by simp
 | x::l,a=>by
  rw [List.foldl_cons,mem_fold l,mem_insB,List.mem_cons];constructor
  ·rintro (h | h | h) <;> simp [h]
  ·rintro ((h | h) | h) <;> simp [h]
theorem srt_sortB (l:List (List Bool)):SrtB (sortB l):=srt_fold l [] List.Pairwise.nil
theorem mem_sortB {y:List Bool} {l:List (List Bool)}:y∈sortB l↔y∈l:=by unfold sortB;rw [mem_fold];simp
theorem srt_ext:∀{a b:List (List Bool)},SrtB a→SrtB b→(∀x,x∈a↔x∈b)→a=b
 | [],[],_,_,_=>rfl
 | [],y::b,_,_,h=>absurd ((h y).2 (by simp)) (by simp)
 | x::a,[],_,_,h=>absurd ((h x).1 (by simp)) (by simp)
 | x::a,y::b,ha,hb,h=>by
  have ha1:=List.pairwise_cons.1 ha;have hb1:=List.pairwise_cons.1 hb
  have hxy:x=y:=by
   rcases List.mem_cons.1 ((h x).1 (by simp)) with q | q
   ·exact q
   ·rcases List.mem_cons.1 ((h y).2 (by simp)) with q' | q'
    ·exact q'.symm
    ·have:=ltB_trans (ha1.1 y q') (hb1.1 x q);rw [ltB_irrefl] at this;cases this
  subst hxy
  have nx:∀{l:List (List Bool)},(∀z∈l,ltB x z=true)→x ∉ l:=fun hl hm=>by
   have:=hl x hm;rw [ltB_irrefl] at this;cases this
  rw [srt_ext ha1.2 hb1.2 fun z=>?_];constructor
  ·intro hz;rcases List.mem_cons.1 ((h z).1 (by simp [hz])) with q | q
   ·subst q;exact absurd hz (nx ha1.1)
   ·exact q
  ·intro hz;rcases List.mem_cons.1 ((h z).2 (by simp [hz])) with q | q
   ·subst q;exact absurd hz (nx hb1.1)
   ·exact q
theorem srt_nodup {l:List (List Bool)} (h:SrtB l):l.Nodup:=List.Pairwise.imp (fun {a b} hab e=>by subst e;rw [ltB_irrefl] at hab;cases hab) h
theorem lvl_srt (r:Rl):∀k,SrtB (lvl r k)
 | 0=>srt_sortB _
 | _+1=>srt_sortB _
theorem lvl_init {r:Rl} {b:List Bool}:b∈lvl r 0↔b∈initsF r:=mem_sortB
theorem lvl_succ {r:Rl} {k:Nat} {b:List Bool}:b∈lvl r (k+1)↔∃a∈lvl r k,b∈succsF r k a:=by
 show b∈sortB _↔_;rw [mem_sortB,List.mem_flatMap]
theorem lvl_len {r:Rl} (hl:supF r.l=true) (hr:supF r.r=true):∀k b,b∈lvl r k→b.length=stN r
 | 0,b,h=>by
  obtain ⟨x,_,rfl⟩:=List.mem_map.1 (lvl_init.1 h);exact initF_len _ _
 | k+1,b,h=>by
  obtain ⟨a,ha,hb⟩:=lvl_succ.1 h;obtain ⟨x,_,rfl⟩:=List.mem_map.1 hb;exact succF_len hl hr k _ (lvl_len hl hr k a ha)
theorem lvl_ne (r:Rl):∀k,lvl r k≠[]
 | 0,h=>by
  have : initF (Nat.testBit 0) r∈lvl r 0:=lvl_init.2 (List.mem_map.2 ⟨0,List.mem_range.2 (Nat.two_pow_pos _),rfl⟩);rw [h] at this;cases this
 | k+1,h=>by
  obtain ⟨a,ha⟩:=List.exists_mem_of_ne_nil _ (lvl_ne r k);have : succF k (Nat.testBit 0) r a∈lvl r (k+1):=lvl_succ.2 ⟨a,ha,List.mem_map.2 ⟨0,List.mem_range.2 (Nat.two_pow_pos _),rfl⟩⟩;rw [h] at this;cases this
theorem mem_lvls {r:Rl} {n k:Nat} {b:List Bool}:(k,b)∈lvls r n↔k<n∧b∈lvl r k:=by
 unfold lvls;simp only [List.mem_flatMap,List.mem_range,List.mem_map,Prod.mk.injEq];constructor
 ·rintro ⟨k',h1,b',h2,rfl,rfl⟩;exact ⟨h1,h2⟩
 ·rintro ⟨h1,h2⟩;exact ⟨k,h1,b,h2,rfl,rfl⟩
theorem lvls_succ (r:Rl) (n:Nat):lvls r (n+1)=lvls r n++(lvl r n).map fun b=>(n,b):=by unfold lvls;rw [List.range_succ,List.flatMap_append];simp
theorem lvls_mono (r:Rl) {m n:Nat} (h:m≤n):(lvls r m).length≤(lvls r n).length:=by
 induction n with
 | zero =>
  have : m=0:=by omega
  subst this;exact Nat.le_refl _
 | succ n ih =>
  rcases Nat.lt_or_ge n m with q | q
  ·have : m=n+1:=by omega
   subst this;exact Nat.le_refl _
  ·have:=ih q;rw [lvls_succ,List.length_append];omega
structure AS where
 at_:Int
 bits:Bs
deriving DecidableEq
def bbit (b:Bool):UInt8:=if b then 1 else 0
def ubit (x:UInt8):Bool:=x==1
theorem ubit_bbit (b:Bool):ubit (bbit b)=b:=by cases b <;> rfl
theorem bbit_ubit {x:UInt8} (h:x.toNat≤1):bbit (ubit x)=x:=by
 have : x=0∨x=1:=by
  have : x.toNat=0∨x.toNat=1:=by omega
  rcases this with h | h
  ·exact .inl (UInt8.toNat_inj.1 h)
  ·exact .inr (UInt8.toNat_inj.1 h)
 rcases this with h | h <;> subst h <;> rfl
def bbs (l:List Bool):Bs:=l.map bbit
def ubs (l:Bs):List Bool:=l.map ubit
theorem ubs_bbs (l:List Bool):ubs (bbs l)=l:=by unfold ubs bbs;rw [List.map_map];exact (List.map_congr_left fun x _=>ubit_bbit x).trans (List.map_id l)
theorem bbs_inj {a b:List Bool} (h:bbs a=bbs b):a=b:=by rw [←ubs_bbs a,h,ubs_bbs]
theorem bbs_ubs {l:Bs} (h:∀x∈l,x.toNat≤1):bbs (ubs l)=l:=by unfold ubs bbs;rw [List.map_map];exact (List.map_congr_left fun x hx=>bbit_ubit (h x hx)).trans (List.map_id l)
def asE (x:Nat×List Bool):AS:=⟨x.1,bbs x.2⟩
def okS (r:Rl) (s:AS):Bool:=decide (0≤s.at_∧s.at_≤64∧s.bits.length=stN r)&&s.bits.all fun x=>decide (x.toNat≤1)
def nextS (r:Rl) (L:List AS) (s:AS):Bool:=if s.at_=64 then safeF r (ubs s.bits) else (succsF r s.at_.toNat (ubs s.bits)).all fun b=>decide (⟨s.at_+1,bbs b⟩∈L)
def chF (r:Rl) (L:List AS):Bool:=applF r&&decide (L.length≤4096)&&L.all (okS r)&&((initsF r).all fun b=>decide (⟨0,bbs b⟩∈L))&&L.all (nextS r L)
theorem chF_iff {r:Rl} {L:List AS}:chF r L=true↔applF r=true∧L.length≤4096∧(∀s∈L,okS r s=true)∧(∀b∈initsF r,(⟨0,bbs b⟩:AS)∈L)∧∀s∈L,nextS r L s=true:=by
 unfold chF;simp only [Bool.and_eq_true,decide_eq_true_eq,List.all_eq_true];constructor
 ·rintro ⟨⟨⟨⟨h1,h2⟩,h3⟩,h4⟩,h5⟩;exact ⟨h1,h2,h3,h4,h5⟩
 ·rintro ⟨h1,h2,h3,h4,h5⟩;exact ⟨⟨⟨⟨h1,h2⟩,h3⟩,h4⟩,h5⟩
theorem nextS_lt {r:Rl} {L:List AS} {k:Nat} (hk:k<64) {b:List Bool}:nextS r L ⟨k,bbs b⟩=true↔∀b'∈succsF r k b,(⟨(k:Int)+1,bbs b'⟩:AS)∈L:=by
 unfold nextS;rw [if_neg (by show ¬(k:Int)=64;omega),List.all_eq_true];simp only [decide_eq_true_eq,ubs_bbs,Int.toNat_natCast]
theorem nextS_end {r:Rl} {L:List AS} {b:List Bool}:nextS r L ⟨64,bbs b⟩=safeF r b:=by
 unfold nextS;rw [if_pos rfl,ubs_bbs]
theorem autF_some {r:Rl} {l:List (Nat×List Bool)}:autF r=some l↔applF r=true∧(lvls r 65).length≤4096∧(∀b∈lvl r 64,safeF r b=true)∧l=lvls r 65:=by
 unfold autF;rw [←List.all_eq_true];constructor
 ·intro h
  split at h
  ·rename_i hc;injection h with h
   exact ⟨hc.1,hc.2.1,hc.2.2,h.symm⟩
  ·cases h
 ·rintro ⟨h1,h2,h3,rfl⟩;rw [if_pos ⟨h1,h2,h3⟩]
theorem applF_sup {r:Rl} (h:applF r=true):supF r.l=true∧supF r.r=true:=by
 unfold applF at h;simp only [Bool.and_eq_true,decide_eq_true_eq] at h;exact ⟨h.1.1.1.2,h.1.1.2⟩
theorem ch_aut {r:Rl} {l:List (Nat×List Bool)} (h:autF r=some l) {M:List (Nat×List Bool)} (hM:∀x,x∈M↔x∈l) (hlen:M.length≤4096):chF r (M.map asE)=true:=by
 obtain ⟨h1,_,h3,rfl⟩:=autF_some.1 h;obtain ⟨s1,s2⟩:=applF_sup h1;have hin:∀k b,k<65→b∈lvl r k→(⟨(k:Int),bbs b⟩:AS)∈M.map asE:=fun k b hk hb=>List.mem_map.2 ⟨(k,b),(hM _).2 (mem_lvls.2 ⟨hk,hb⟩),rfl⟩
 have hout:∀s∈M.map asE,∃k b,k<65∧b∈lvl r k∧s=⟨(k:Int),bbs b⟩:=fun s hs=>by
  obtain ⟨⟨k,b⟩,hx,rfl⟩:=List.mem_map.1 hs;obtain ⟨q1,q2⟩:=mem_lvls.1 ((hM _).1 hx);exact ⟨k,b,q1,q2,rfl⟩
 refine chF_iff.2 ⟨h1,by rw [List.length_map];exact hlen,fun s hs=>?_,fun b hb=>hin 0 b (by decide) (lvl_init.2 hb),fun s hs=>?_⟩
 ·obtain ⟨k,b,hk,hb,rfl⟩:=hout s hs;unfold okS;rw [Bool.and_eq_true,decide_eq_true_iff,List.all_eq_true];refine ⟨⟨by show (0:Int)≤k;omega,by show (k:Int)≤64;omega,by show (bbs b).length=_;unfold bbs;rw [List.length_map];exact lvl_len s1 s2 k b hb⟩,fun x hx=>?_⟩
  obtain ⟨y,_,rfl⟩:=List.mem_map.1 hx;cases y <;> rfl
 ·obtain ⟨k,b,hk,hb,rfl⟩:=hout s hs;rcases Nat.lt_or_ge k 64 with hk2 | hk2
  ·exact (nextS_lt hk2).2 fun b' hb'=>hin (k+1) b' (by omega) (lvl_succ.2 ⟨b,hb,hb'⟩)
  ·obtain rfl:k=64:=by omega
   exact nextS_end.trans (h3 b hb)
theorem aIsGuess_c (op:Int) (w:World):Calls Tryz.prog 172 #[.int .i64 op] w fun e w'=>e=.returned (.bool (isG op))∧w'=w:=by
 go_enter Tryz.func172,Tryz.ntmps172
 go_wp2
 all_goals
  go_ret;refine ⟨?_,rfl⟩;show Ending.returned (Value.bool _)=_
  congr 2
  unfold isG
  (try simp only [beq_iff_eq,beq_eq_false_iff_ne,ne_eq] at *)
  rw [Bool.eq_iff_iff];simp;omega
theorem bit_u8 (n:Int) (k:Nat) (hk:k<64):bits .and .i64 (n / 2 ^ k) 1 % 256=bW (bI n k):=by
 have h1:bits .and .i64 (n / 2 ^ k) 1=bW (bI n k):=by
  refine word_ext (i64_wrapk _) (i64_bW _) fun j hj=>?_
  rw [bb_and,bI_bool];have e1:bI 1 j=decide (j=0):=by have:=bI_bool true j;rw [Bool.and_true] at this;exact this
  rw [e1];by_cases h0:j=0
  ·subst h0;rw [Bool.and_comm]
   congr 1
   rw [bI_eq,bI_eq];have a:=uW_eq (n / 2 ^ k);have b:=uW_eq n;rw [Nat.testBit_zero,Nat.testBit_eq_decide_div_mod_eq]
   congr 1
   apply propext
   have hq:(uW n:Int) / 2 ^ k % 2=n / 2 ^ k % 2:=by
    rw [b]
    have hp:(18446744073709551616:Int)=2 ^ k * (2 * 2 ^ (63 - k)):=by
     rw [show (18446744073709551616:Int)=2 ^ 64 from rfl,←Int.mul_assoc,Int.mul_comm (2 ^ k) 2,Int.mul_assoc,←Int.pow_add,←Int.pow_succ']
     congr 1
     omega
    have hpos:(2:Int) ^ k≠0:=Int.pow_ne_zero (by decide);have hn:=Int.emod_add_mul_ediv n 18446744073709551616;rw [hp] at hn ⊢;generalize n % (2 ^ k * (2 * 2 ^ (63 - k)))=r at *;generalize n / (2 ^ k * (2 * 2 ^ (63 - k)))=q at *;rw [←hn,Int.mul_assoc,Int.mul_assoc,Int.add_mul_ediv_left _ _ hpos];omega
   have c:((uW n / 2 ^ k:Nat):Int)=(uW n:Int) / 2 ^ k:=by rw [Int.natCast_ediv,Int.natCast_pow];rfl
   omega
  ·rw [dF_ h0];simp
 rw [h1];cases bI n k <;> rfl
theorem aBit_c (n:Int) (k:Nat) (hk:k<64) (w:World):Calls Tryz.prog 135 #[.int .i64 n,.int .i64 k] w fun e w'=>e=.returned (.int .u8 (bW (bI n k)))∧w'=w:=by
 have hb:=bit_u8 n k hk;have HB:=h_ hb;clear hb;go_enter Tryz.func135,Tryz.ntmps135
 go_wp2
 go_ret;exact ⟨by rw [←HB.out];rfl,rfl⟩
theorem aOrderFlag_c (m a b:Bool) (sign:Bool) (w:World):Calls Tryz.prog 134 #[.int .u8 (bW m),.int .u8 (bW a),.int .u8 (bW b),.bool sign] w fun e w'=>e=.returned (.int .u8 (bW (ordB m a b sign)))∧w'=w:=by
 cases m <;> cases a <;> cases b <;> cases sign
 all_goals
  go_enter Tryz.func134,Tryz.ntmps134;unfold bW
  go_wp2
  go_ret;exact ⟨rfl,rfl⟩
theorem and63 (x:Int):bits .and .i64 x 63=((x % 64).toNat:Int):=by
 have h1:uW (bits .and .i64 x 63)=uW x % 64:=by
  refine Nat.eq_of_testBit_eq fun i=>?_
  rw [←bI_eq,bb_and,bI_eq,bI_eq,show (64:Nat)=2 ^ 6 from rfl,Nat.testBit_mod_two_pow,show uW 63=2 ^ 6 - 1 from by decide,Nat.testBit_two_pow_sub_one]
  cases (uW x).testBit i <;> simp
 refine uW_inj (i64_wrapk _) (by unfold I64;omega) ?_;have a:=uW_eq x;have b:=uW_eq ((x % 64).toNat:Int);omega
theorem supF_var {p:Pt} (h:0<p.v):supF p=true:=by rw [supF_iff,if_pos h]
theorem supF_op {p:Pt} (h:¬0<p.v):supF p=(supO p.op p.kids&&p.kids.all supF):=by rw [supF_iff,if_neg h]
set_option maxRecDepth 100000 in
set_option maxHeartbeats 16000000 in
theorem aSupported_c (m:Nat) (p:Pt):∀(w:World) (F:Nat→Prop) (KA:Option Addr) (kc:Nat),PtK w F p KA kc→WfP m p→p.size≤1000000000000 →
  Calls Tryz.prog 121 #[pv p KA kc] w fun e w'=>e=.returned (.bool (supF p))∧Upd Non w w':=by
 induction p using Pt.ind with
 | h p ih =>
  intro w F KA kc hp hw hs;rw [WfP.iff] at hw;have hle:=Pt.len_le p.kids;have hse:=Pt.size_eq p;have hn12:p.kids.length≤1000000000000:=by omega
  have HI:=h_ ih;obtain ⟨W,HW⟩:=nm (w.alloc (.cells #[.int .i64 p.v,.int .i64 p.op,.int .i64 p.imm,.int .i64 p.iv,.slice KA p.kids.length kc] 38));have hU:Upd Non w W:=by rw [←HW.out];exact Upd.refl.alloc _
  have hb:Blk W w.heap.size 38 #[.int .i64 p.v,.int .i64 p.op,.int .i64 p.imm,.int .i64 p.iv,.slice KA p.kids.length kc]:=by rw [←HW.out];exact Blk.new _ _ _
  have e0:=HW.out;have c0:=hb.cell 0;have c1:=hb.cell 1;have c4:=hb.cell 4;have hpW:=PtK.upd hU (fun _ _ _ f=>f) p KA kc hp;have HS:=h_ hse;have HWF:=h_ hw.2.2.2;have HAR:=h_ hw.2.2.1;have hv0:=hw.1;unfold pv;clear ih hse hp hw hle;by_cases hv:0<p.v
  ·have t0:decide (p.v > 0)=true:=dT_ hv;have HR:Hid (supF p=true):=supF_var hv;go_enter Tryz.func121,Tryz.ntmps121;go_wp2_with fail
   go_ret;exact ⟨by rw [HR.out];rfl,hU⟩
  ·have t0:decide (p.v > 0)=false:=dF_ hv;have HR:Hid (supF p=(supO p.op p.kids&&p.kids.all supF)):=supF_op hv;have har:Hid (p.kids.length=(oSortsF p.op).1.length):=HAR.out (by omega);clear HAR hv;by_cases hop:p.op=1∨p.op=4∨p.op=5∨p.op=9∨p.op=10∨p.op=11∨p.op=20∨p.op=21∨p.op=15∨p.op=16∨p.op=17∨p.op=18∨p.op=19∨p.op=22
   ·have HR:Hid (supF p=p.kids.all supF):=by
     show _=_;rw [HR.out,show supO p.op p.kids=true by unfold supO;exact dT_ (by omega)];rfl
    obtain ⟨n,Hn⟩:=nm p.kids.length;rw [Hn.out] at c4 e0 hn12;obtain ⟨op,Hop⟩:=nm p.op;rw [Hop.out] at c1 e0 hop;rw [Hn.out,Hop.out];clear har Hop;rcases hop with h | h | h | h | h | h | h | h | h | h | h | h | h | h
    all_goals
     subst h;go_enter Tryz.func121,Tryz.ntmps121;go_wp2_with fail
     go_loopg [4,52] n (fun g _ i wr=>∃k:Nat,Hid (g=n - k)∧k≤n∧i=.int .i64 k∧Hid ((p.kids.take k).all supF=true)∧Upd Non W wr)
     case atStart=>exact ⟨0,rfl,by omega,rfl,rfl,Upd.refl⟩
     case round =>
      obtain ⟨k,Hg,hk,rfl,HT,hu⟩:=hrel;by_cases hlt:k<n
      ·have hkl:k<p.kids.length:=by rw [Hn.out];exact hlt
       obtain ⟨b,o,rfl,hF,hbw,KB,kd,h0,h1,h2,h3,h4,h5⟩:=(PtK.upd hu (fun _ _ _ f=>f) p KA kc hpW).at_ hkl;have hks:p.kids[k].size≤1000000000000:=by have:=Pt.kids_lt (List.getElem_mem hkl);omega
       have hmem:=List.getElem_mem hkl;have HT2:Hid (supF p.kids[k]=true→(p.kids.take (k+1)).all supF=true):=fun e=>by rw [List.take_succ_eq_append_getElem hkl,List.all_append,HT.out];simp [e]
       have HF2:Hid (supF p.kids[k]=false→p.kids.all supF=false):=fun e=>by
        rw [Bool.eq_false_iff];intro q;rw [List.all_eq_true] at q;rw [q _ hmem] at e;cases e
       generalize p.kids[k]=q at *;obtain ⟨W3,HW3⟩:=nm (wr.alloc (.cells #[.int .i64 q.v,.int .i64 q.op,.int .i64 q.imm,.int .i64 q.iv,.slice KB q.kids.length kd] 38));have hq:=PtK.upd (Upd.refl.alloc (S:=Non) (.cells #[.int .i64 q.v,.int .i64 q.op,.int .i64 q.imm,.int .i64 q.iv,.slice KB q.kids.length kd] 38)) (fun _ _ _ f=>f) q KB kd h5
       have C1:=h_ (HI.out q hmem _ F KB kd hq (HWF.out q hmem) hks);unfold pv at C1;clear h5 hq hmem
       cases hsq:supF q with
       | false =>
        rw [hsq] at C1;have HF3:=h_ (HF2.out hsq);clear hsq HT2 HF2;go_wp2_with fail
        refine C1.out.mono ?_;rintro e w4 ⟨rfl,hu4⟩;go_wp2_with fail
        go_ret;exact ⟨by rw [HR.out,HF3.out];rfl,hU.then_non ((hu.alloc _).then_non hu4)⟩
       | true =>
        rw [hsq] at C1;have HT3:=h_ (HT2.out hsq);clear hsq HT2 HF2;go_wp2_with fail
        refine C1.out.mono ?_;rintro e w4 ⟨rfl,hu4⟩;go_wp2_with fail
        go_roundg (n - (k+1))
        case measure=>rw [Hg.out];omega
        case rel=>exact ⟨k+1,rfl,by omega,by go_num,HT3.out,(hu.alloc _).then_non hu4⟩
      ·obtain rfl:n=k:=by omega
       have HA:Hid (p.kids.all supF=true):=by have:=HT.out;rw [List.take_of_length_le (by rw [Hn.out];omega)] at this;exact this
       go_wp2_with fail
       go_ret;exact ⟨by rw [HR.out,HA.out];rfl,hU.then_non hu⟩
   ·by_cases h12:p.op=12
    ·have hlen:Hid (p.kids.length=2):=by have:=har.out;rw [h12] at this;exact this
     obtain ⟨k0,k1,ek⟩:∃k0 k1,p.kids=[k0,k1]:=by
      match p.kids,hlen.out with
      | [x,y],_=>exact ⟨x,y,rfl⟩
     have HR:Hid (supF p=(decide (k1.op=1)&&(decide ((k1.imm % 64).toNat≤8)&&supF k0))):=by
      show _=_;rw [HR.out,ek,h12];have w1:=HWF.out k1 (by rw [ek];simp);rw [WfP.iff] at w1
      have e1:supO 12 [k0,k1]=(decide (k1.op=1)&&decide ((k1.imm % 64).toNat≤8)):=by
       unfold supO;rw [Bool.eq_iff_iff];simp [kid]
      have e2:k1.op=1→supF k1=true:=fun e=>by
       by_cases hv1:0<k1.v
       ·exact supF_var hv1
       ·have : k1.kids=[]:=List.length_eq_zero_iff.1 (by rw [w1.2.2.1 (by omega),e];rfl);rw [supF_op hv1,this,e];rfl
      rw [e1];by_cases h1:k1.op=1
      ·rw [dT_ h1,List.all_cons,List.all_cons,e2 h1];simp
      ·rw [dF_ h1];rfl
     have hA:=hpW.at_ (i:=1) (by rw [hlen.out];decide);obtain ⟨b,o,rfl,hF,hbw,KB,kd,h0,h1,h2,h3,h4,h5⟩:=hpW.at_ (i:=0) (by rw [hlen.out];decide);obtain ⟨b',o',eb,_,_,KB',kd',g0,g1,g2,g3,g4,g5⟩:=hA;injection eb with eb
     injection eb with eb1 eb2
     subst eb1 eb2;have q0:p.kids[0]'(by rw [hlen.out];decide)=k0:=by simp [ek]
     have q1:p.kids[1]'(by rw [hlen.out];decide)=k1:=by simp [ek]
     rw [q0] at h0 h1 h2 h3 h4 h5;simp only [Nat.zero_mul,Nat.add_zero] at h0 h1 h2 h3 h4;rw [q1] at g0 g1 g2 g3 g4 g5;have hm0:k0∈p.kids:=by rw [ek];simp
     have hks:k0.size≤1000000000000:=by have:=Pt.kids_lt hm0;omega
     have C1:=h_ (HI.out k0 hm0 W F KB kd h5 (HWF.out k0 hm0) hks);unfold pv at C1;rw [hlen.out] at c4 e0;rw [h12] at c1 e0;rw [hlen.out,h12];clear h5 g5 hm0 hks har ek q0 q1 hn12 hop g3 g4;have ha:=and63 k1.imm;obtain ⟨m,Hm⟩:=nm (k1.imm % 64).toNat;rw [Hm.out] at ha HR;clear Hm;by_cases h1:k1.op=1
     ·have t1:(k1.op==1)=true:=by simpa using h1
      by_cases h8:m≤8
      ·have t8:decide ((m:Int)≤8)=true:=dT_ (by omega);have HR2:Hid (supF p=supF k0):=by show _=_;rw [HR.out,dT_ h1,dT_ h8];rfl
       clear h1;go_enter Tryz.func121,Tryz.ntmps121;go_wp2_with fail
       refine C1.out.mono ?_;rintro e w4 ⟨rfl,hu4⟩;go_wp2_with fail
       go_ret;exact ⟨by rw [HR2.out];rfl,hU.then_non hu4⟩
      ·have t8:decide ((m:Int)≤8)=false:=dF_ (by omega);have HR2:Hid (supF p=false):=by show _=_;rw [HR.out,dT_ h1,dF_ h8];rfl
       clear h1;go_enter Tryz.func121,Tryz.ntmps121;go_wp2_with fail
       go_ret;exact ⟨by rw [HR2.out];rfl,hU⟩
     ·have t1:(k1.op==1)=false:=by simpa using h1
      have HR2:Hid (supF p=false):=by show _=_;rw [HR.out,dF_ h1];rfl
      clear h1;go_enter Tryz.func121,Tryz.ntmps121;go_wp2_with fail
      go_ret;exact ⟨by rw [HR2.out];rfl,hU⟩
    ·have HR:Hid (supF p=false):=by
      show _=_;rw [HR.out,show supO p.op p.kids=false by unfold supO;exact dF_ (by omega)];rfl
     clear har hn12;obtain ⟨op,Hop⟩:=nm p.op;rw [Hop.out] at c1 e0 hop h12;rw [Hop.out];clear Hop;obtain ⟨a1,a2,a3,a4,a5,a6,a7,a8,a9,a10,a11,a12,a13,a14⟩:(op==1)=false∧(op==4)=false∧(op==5)=false∧(op==9)=false∧(op==10)=false∧(op==11)=false∧(op==20)=false∧(op==21)=false∧(op==15)=false∧(op==16)=false∧(op==17)=false∧(op==18)=false∧(op==19)=false∧(op==22)=false:=by simp;omega
     have a15:(op==12)=false:=by simpa using h12
     clear hop h12;go_enter Tryz.func121,Tryz.ntmps121;go_wp2_with fail
     go_ret;exact ⟨by rw [HR.out];rfl,hU⟩
structure ElOk {α:Type} (El:World→(Nat→Prop)→List Value→α→Prop) (k:Nat):Prop where
 len:∀{w:World} {K:Nat→Prop} {cs:List Value} {x:α},El w K cs x→cs.length=k
 upd:∀{w w':World} {K K' S:Nat→Prop} {cs:List Value} {x:α},El w K cs x→Upd S w w'→(∀i,i<w.heap.size→K i→¬S i)→(∀i,i<w.heap.size→K i→K' i)→El w' K' cs x
section
variable {α:Type} {El:World→(Nat→Prop)→List Value→α→Prop} {k:Nat} {w w':World} {F G G' K K' S:Nat→Prop} {A:Option Addr} {L:List α} {n c:Nat} {e:TypeId} {cs:List Value}
def ElCells (El:World→(Nat→Prop)→List Value→α→Prop) (k:Nat) (w:World) (K:Nat→Prop) (cs:List Value) (L:List α):Prop :=
 cs.length=k * L.length∧∀i (h:i<L.length),El w K ((cs.drop (k * i)).take k) L[i]
theorem ElCells.nil:ElCells El k w K [] ([]:List α):=⟨rfl,fun _ h=>absurd h (Nat.not_lt_zero _)⟩
theorem ElCells.mono (O:ElOk El k) (h:ElCells El k w K cs L) (u:Upd S w w') (d:∀i,i<w.heap.size→K i→¬S i) (hK:∀i,i<w.heap.size→K i→K' i):ElCells El k w' K' cs L :=
 ⟨h.1,fun i hi=>O.upd (h.2 i hi) u d hK⟩
theorem ElCells.snoc (O:ElOk El k) (h:ElCells El k w K cs L) {x:α} {new:List Value} (hx:El w K new x):ElCells El k w K (cs++new) (L++[x]):=by
 have hl:=h.1;have hn:=O.len hx;refine ⟨by rw [List.length_append,List.length_append,hl,hn,List.length_singleton,Nat.mul_add,Nat.mul_one],fun i hi=>?_⟩;by_cases hlt:i<L.length
 ·have h1:=h.2 i hlt;have h2:k * (i+1)≤k * L.length:=Nat.mul_le_mul_left k hlt;rw [Nat.mul_add,Nat.mul_one] at h2;rw [List.getElem_append_left hlt,List.drop_append_of_le_length (by omega),List.take_append_of_le_length (by rw [List.length_drop];omega)];exact h1
 ·have he:i=L.length:=by simp at hi;omega
  subst he;have : (L++[x])[L.length]=x:=by simp
  rw [this,←hl,List.drop_append_of_le_length (by omega),List.drop_length,List.nil_append,List.take_of_length_le (by omega)];exact hx
theorem ElCells.get (h:ElCells El k w K cs L) {i:Nat} (hi:i<L.length):∃el,(∀j,j<k→cs[k * i+j]?=el[j]?)∧El w K el L[i] :=
 ⟨_,fun j hj=>by rw [List.getElem?_take,if_pos hj,List.getElem?_drop],h.2 i hi⟩
def ElV (El:World→(Nat→Prop)→List Value→α→Prop) (k:Nat) (w:World) (F:Nat→Prop) (A:Option Addr) (L:List α):Prop:=∃cs,Sl w F A cs∧ElCells El k w F cs L
theorem ElV.nil:ElV El k w F A ([]:List α):=⟨[],Sl.nil,ElCells.nil⟩
theorem ElV.upd (O:ElOk El k) (h:ElV El k w F A L) (u:Upd S w w') (d:∀i,i<w.heap.size→F i→¬S i):ElV El k w' F A L:=by
 obtain ⟨cs,h1,h2⟩:=h;exact ⟨cs,h1.upd u d,h2.mono O u d (fun _ _ h=>h)⟩
theorem ElV.mono (O:ElOk El k) (h:ElV El k w F A L) (d:∀i,i<w.heap.size→F i→G i):ElV El k w G A L:=by
 obtain ⟨cs,h1,h2⟩:=h;exact ⟨cs,h1.mono d,h2.mono O (Upd.refl (S:=Non)) (fun _ _ _ f=>f) d⟩
theorem ElV.at_ (hk:0<k) (h:ElV El k w F A L) {i:Nat} (hi:i<L.length):∃b off el,A=some ⟨b,off,none⟩∧F b∧b<w.heap.size∧(∀j,j<k→w.cell? ⟨b,off+(i * k+j),none⟩=el[j]?)∧El w F el L[i]:=by
 obtain ⟨cs,h1,h2⟩:=h;obtain ⟨el,he,hx⟩:=h2.get hi;have hl:=h2.1;have hle:k * (i+1)≤k * L.length:=Nat.mul_le_mul_left k hi;rw [Nat.mul_add,Nat.mul_one] at hle;obtain ⟨b,off,hA,hF,hb,_⟩:=h1.at_ (k:=k * i) (by omega);refine ⟨b,off,el,hA,hF,hb,fun j hj=>?_,hx⟩;obtain ⟨b',off',hA',_,_,hc⟩:=h1.at_ (k:=k * i+j) (by omega);rw [hA] at hA';injection hA' with hA'
 injection hA' with e1 e2
 subst e1 e2;rw [←he j hj,Nat.mul_comm i k,List.getElem?_eq_getElem (by omega)];exact hc
def ElO (El:World→(Nat→Prop)→List Value→α→Prop) (k:Nat) (e:TypeId) (w:World) (G:Nat→Prop) (A:Option Addr) (n c:Nat) (L:List α):Prop :=
 n=L.length∧∃cs,Own w e k A n c cs∧ElCells El k w (fun i=>G i∧¬At A i) cs L
theorem ElO.none_:ElO El k e w G none 0 0 ([]:List α):=⟨rfl,[],Own.none_,ElCells.nil⟩
theorem ElO.upd (O:ElOk El k) (h:ElO El k e w G A n c L) (u:Upd S w w') (dA:∀i,At A i→¬S i) (dG:∀i,i<w.heap.size→G i→¬S i):ElO El k e w' G A n c L:=by
 obtain ⟨h1,cs,h2,h3⟩:=h;exact ⟨h1,cs,h2.upd u dA,h3.mono O u (fun i hi hg=>dG i hi hg.1) (fun _ _ h=>h)⟩
theorem ElO.mono (O:ElOk El k) (h:ElO El k e w G A n c L) (hG:∀i,i<w.heap.size→G i→G' i):ElO El k e w G' A n c L:=by
 obtain ⟨h1,cs,h2,h3⟩:=h;exact ⟨h1,cs,h2,h3.mono O (Upd.refl (S:=Non)) (fun _ _ _ f=>f) (fun i hi hg=>⟨hG i hi hg.1,hg.2⟩)⟩
theorem ElO.view (O:ElOk El k) (h:ElO El k e w G A n c L) (hA:∀i,At A i→F i) (hG:∀i,i<w.heap.size→G i→F i):ElV El k w F A L:=by
 obtain ⟨_,cs,h2,h3⟩:=h;exact ⟨cs,h2.sl.mono fun i _ hi=>hA i hi,h3.mono O (Upd.refl (S:=Non)) (fun _ _ _ f=>f) (fun i hi hg=>hG i hi hg.1)⟩
theorem ElO.snoc (O:ElOk El k) {A':Option Addr} {c' m:Nat} {x:α} {new:List Value} (hL:n=L.length) (h:ElCells El k w (fun i=>G i∧¬At A i) cs L) (hx:El w (fun i=>G i∧¬At A i) new x) (ho:Own w' e k A' m c' (cs++new)) (hm:m=n+1)
  (u:Upd (At A) w w') (hA:∀i,At A' i→At A i∨w.heap.size≤i) (hG:∀i,i<w.heap.size→G i→G' i):ElO El k e w' G' A' m c' (L++[x]):=by
 refine ⟨by rw [hm,hL,List.length_append,List.length_singleton],_,ho,(h.snoc O hx).mono O u (fun i _ hg=>hg.2) (fun i hi hg=>⟨hG i hi hg.1,fun q=>?_⟩)⟩
 rcases hA i q with q | q
 ·exact hg.2 q
 ·omega
end
def ElRow (w:World) (K:Nat→Prop) (cs:List Value) (x:List UInt8):Prop:=∃RA rc,cs=[.slice RA x.length rc]∧x.length≤rc∧Sl w K RA (u8s x)
theorem elRow:ElOk ElRow 1 where
 len:=fun ⟨_,_,h,_⟩=>by rw [h];rfl
 upd:=fun ⟨RA,rc,h1,h2,h3⟩ u d hK=>⟨RA,rc,h1,h2,(h3.mono (G:=fun i=>_∧_) (fun i hi h=>⟨hK i hi h,d i hi h⟩)).upd u (fun _ _ h=>h.2) |>.mono (fun _ _ h=>h.1)⟩
def b8 (b:Bool):Value:=.int .u8 (bW b)
def b8s (l:List Bool):List Value:=l.map b8
theorem b8_u8 (b:Bool):b8 b=.int .u8 ((bbit b).toNat:Int):=by cases b <;> rfl
theorem b8s_u8s (l:List Bool):b8s l=u8s (bbs l):=by unfold b8s u8s bbs;rw [List.map_map];exact List.map_congr_left fun b _=>b8_u8 b
theorem b8s_len (l:List Bool):(b8s l).length=l.length:=List.length_map _
theorem b8s_get {l:List Bool} {i:Nat} (h:i<l.length):(b8s l)[i]?=some (b8 (l.getD i false)):=by
 unfold b8s;rw [List.getElem?_map,List.getElem?_eq_getElem h,List.getD_eq_getElem?_getD,List.getElem?_eq_getElem h];rfl
theorem b8s_set (l:List Bool) (i:Nat) (b:Bool):(b8s l).set i (b8 b)=b8s (l.set i b):=by unfold b8s;rw [List.map_set]
def spl (N:List Bool) (a:Nat) (m:List Bool):List Bool:=N.take a++(m++N.drop (a+m.length))
theorem spl_len {N:List Bool} {a:Nat} {m:List Bool} (h:a+m.length≤N.length):(spl N a m).length=N.length:=by
 unfold spl;simp only [List.length_append,List.length_take,List.length_drop];omega
theorem spl_nil (N:List Bool) (a:Nat):spl N a []=N:=by unfold spl;rw [List.nil_append,List.length_nil,Nat.add_zero,List.take_append_drop]
theorem spl_get {N:List Bool} {a:Nat} {m:List Bool} (h:a+m.length≤N.length) (i:Nat):(spl N a m)[i]?=if a≤i∧i<a+m.length then m[i - a]? else N[i]?:=by
 unfold spl;by_cases h1:i<a
 ·rw [List.getElem?_append_left (by rw [List.length_take];omega),if_neg (by omega),List.getElem?_take,if_pos h1]
 ·rw [List.getElem?_append_right (by rw [List.length_take];omega),List.length_take,Nat.min_eq_left (by omega)];by_cases h2:i<a+m.length
  ·rw [List.getElem?_append_left (by omega),if_pos (by omega)]
  ·rw [List.getElem?_append_right (by omega),if_neg (by omega),List.getElem?_drop]
   congr 1
   omega
theorem spl_spl {N:List Bool} {a:Nat} {m1 m2:List Bool} (h:a+m1.length+m2.length≤N.length):spl (spl N a m1) (a+m1.length) m2=spl N a (m1++m2):=by
 refine List.ext_getElem? fun i=>?_
 have l1:=spl_len (N:=N) (a:=a) (m:=m1) (by omega);rw [spl_get (by rw [l1];omega),spl_get (by omega),spl_get (by rw [List.length_append];omega),List.length_append];by_cases h1:a+m1.length≤i∧i<a+m1.length+m2.length
 ·rw [if_pos h1,if_pos (by omega),List.getElem?_append_right (by omega)]
  congr 1
  omega
 ·rw [if_neg h1];by_cases h2:a≤i∧i<a+m1.length
  ·rw [if_pos h2,if_pos (by omega),List.getElem?_append_left (by omega)]
  ·rw [if_neg h2,if_neg (by omega)]
theorem spl_pre {N:List Bool} {a:Nat} {m1 m2:List Bool} (h:a+m1.length+m2.length≤N.length):spl (spl N (a+m1.length) m2) a m1=spl N a (m1++m2):=by
 refine List.ext_getElem? fun i=>?_
 have l1:=spl_len (N:=N) (a:=a+m1.length) (m:=m2) (by omega);rw [spl_get (by rw [l1];omega),spl_get (by omega),spl_get (by rw [List.length_append];omega),List.length_append];by_cases h1:a+m1.length≤i∧i<a+m1.length+m2.length
 ·rw [if_neg (by omega),if_pos h1,if_pos (by omega),List.getElem?_append_right (by omega)]
  congr 1
  omega
 ·by_cases h2:a≤i∧i<a+m1.length
  ·rw [if_pos h2,if_pos (by omega),List.getElem?_append_left (by omega)]
  ·rw [if_neg h2,if_neg h1,if_neg (by omega)]
theorem spl_one {N:List Bool} {a:Nat} (b:Bool) (h:a<N.length):N.set a b=spl N a [b]:=by
 refine List.ext_getElem? fun i=>?_
 rw [spl_get (by simp;omega),List.getElem?_set];by_cases h1:a=i
 ·subst h1;rw [if_pos rfl,if_pos h,if_pos (by simp),Nat.sub_self];rfl
 ·rw [if_neg h1,if_neg (by simp;omega)]
theorem spl_at {N:List Bool} {a:Nat} {m:List Bool} (h:a+m.length≤N.length) {i:Nat} (hi:i<a∨a+m.length≤i):(spl N a m).getD i false=N.getD i false:=by
 rw [List.getD_eq_getElem?_getD,List.getD_eq_getElem?_getD,spl_get h,if_neg (by omega)]
def vP (k:Nat) (ins:Nat→Bool) (O:List Bool) (p:Pt) (a:Nat):Bool:=(bitP k ins p (O.drop a)).1
def nP (k:Nat) (ins:Nat→Bool) (O:List Bool) (p:Pt) (a:Nat):List Bool:=(bitP k ins p (O.drop a)).2.2
def vL (k:Nat) (ins:Nat→Bool) (O:List Bool):List Pt→Nat→List Bool
 | [],_=>[]
 | q::qs,a=>vP k ins O q a::vL k ins O qs (a+bN q)
def nL (k:Nat) (ins:Nat→Bool) (O:List Bool):List Pt→Nat→List Bool
 | [],_=>[]
 | q::qs,a=>nP k ins O q a++nL k ins O qs (a+bN q)
theorem bitP_pos {k:Nat} {ins:Nat→Bool} {O:List Bool} {p:Pt} (hs:supF p=true) {a:Nat} (h:a+bN p≤O.length):bitP k ins p (O.drop a)=(vP k ins O p a,O.drop (a+bN p),nP k ins O p a)∧(nP k ins O p a).length=bN p:=by
 obtain ⟨b,now,hn,hb⟩:=bitP_app k ins p hs ((O.drop a).take (bN p)) (by rw [List.length_take,List.length_drop];omega);have h1:=hb ((O.drop a).drop (bN p));rw [List.take_append_drop,List.drop_drop] at h1;unfold vP nP;rw [h1];exact ⟨rfl,hn⟩
theorem bitL_pos {k:Nat} {ins:Nat→Bool} {O:List Bool}:∀{l:List Pt},(∀q∈l,supF q=true)→∀{a:Nat},a+bL l≤O.length→bitL k ins l (O.drop a)=(vL k ins O l a,O.drop (a+bL l),nL k ins O l a)∧(nL k ins O l a).length=bL l
 | [],_,a,_=>⟨rfl,rfl⟩
 | q::qs,hs,a,h=>by
  simp only [bL] at h;obtain ⟨h1,h2⟩:=bitP_pos (k:=k) (ins:=ins) (O:=O) (hs q (by simp)) (a:=a) (by omega);obtain ⟨h3,h4⟩:=bitL_pos (k:=k) (ins:=ins) (O:=O) (l:=qs) (fun x hx=>hs x (by simp [hx])) (a:=a+bN q) (by omega);refine ⟨?_,by rw [nL,List.length_append,h2,h4];rfl⟩;simp only [bitL,h1,h3,vL,nL,bL,Nat.add_assoc]
theorem vL_len {k:Nat} {ins:Nat→Bool} {O:List Bool}:∀{l:List Pt} {a:Nat},(vL k ins O l a).length=l.length
 | [],_=>rfl
 | q::qs,a=>by rw [vL,List.length_cons,vL_len];rfl
theorem bL_app:∀(l m:List Pt),bL (l++m)=bL l+bL m
 | [],m=>by simp [bL]
 | q::qs,m=>by rw [List.cons_append,bL,bL,bL_app qs m];omega
theorem vL_app {k:Nat} {ins:Nat→Bool} {O:List Bool}:∀(l m:List Pt) (a:Nat),vL k ins O (l++m) a=vL k ins O l a++vL k ins O m (a+bL l)
 | [],m,a=>rfl
 | q::qs,m,a=>by rw [List.cons_append,vL,vL,vL_app qs m,bL,Nat.add_assoc];rfl
theorem nL_app {k:Nat} {ins:Nat→Bool} {O:List Bool}:∀(l m:List Pt) (a:Nat),nL k ins O (l++m) a=nL k ins O l a++nL k ins O m (a+bL l)
 | [],m,a=>rfl
 | q::qs,m,a=>by rw [List.cons_append,nL,nL,nL_app qs m,bL,List.append_assoc,Nat.add_assoc]
theorem bL_take {l:List Pt} {i:Nat} (h:i<l.length):bL (l.take (i+1))=bL (l.take i)+bN l[i]:=by rw [List.take_succ_eq_append_getElem h,bL_app];simp [bL]
theorem bL_take_le (l:List Pt) (i:Nat):bL (l.take i)≤bL l:=by
 have:=bL_app (l.take i) (l.drop i);rw [List.take_append_drop] at this;omega
def pp (g:Nat):Value:=.pointer (some ⟨g,0,none⟩)
def osN (v op:Int) (n:Nat):Nat:=if 0<v then 0 else if op=12 then min 1 n else n
def osOwn (v op:Int) (kids:List Pt):Nat:=if 0<v then 0 else ownN op kids
mutual
def OsT (w:World) (F:Nat→Prop):Pt→Nat→Nat→Prop
 | .mk v op imm iv kids,a,g=>F g∧∃(KA:Option Addr) (kc:Nat) (CA:Option Addr) (cc:Nat) (gs:List Nat),
   Blk w g 183 #[.int .i64 v,.int .i64 op,.int .i64 imm,.int .i64 iv,.slice KA kids.length kc,.slice CA gs.length cc,.int .i64 (a:Int),.int .i64 (osOwn v op kids:Int)] ∧
   gs.length=osN v op kids.length∧Sl w F CA (gs.map pp)∧OsL w F kids (a+osOwn v op kids) gs
def OsL (w:World) (F:Nat→Prop):List Pt→Nat→List Nat→Prop
 | [],_,_=>True
 | _::_,_,[]=>True
 | q::qs,a,g::gs=>OsT w F q a g∧OsL w F qs (a+bN q) gs
end
section
variable {w w':World} {F G S:Nat→Prop}
theorem OsT.iff {p:Pt} {a g:Nat}:OsT w F p a g↔F g∧∃(KA:Option Addr) (kc:Nat) (CA:Option Addr) (cc:Nat) (gs:List Nat),
   Blk w g 183 #[.int .i64 p.v,.int .i64 p.op,.int .i64 p.imm,.int .i64 p.iv,.slice KA p.kids.length kc,.slice CA gs.length cc,.int .i64 (a:Int),.int .i64 (osOwn p.v p.op p.kids:Int)] ∧
   gs.length=osN p.v p.op p.kids.length∧Sl w F CA (gs.map pp)∧OsL w F p.kids (a+osOwn p.v p.op p.kids) gs:=by
 obtain ⟨v,op,imm,iv,kids⟩:=p;rw [OsT];rfl
theorem OsL.at_:∀{l:List Pt} {a:Nat} {gs:List Nat},OsL w F l a gs→∀{i:Nat} (h1:i<l.length) (h2:i<gs.length),OsT w F l[i] (a+bL (l.take i)) gs[i]
 | [],_,_,_,i,h1,_=>absurd h1 (Nat.not_lt_zero _)
 | _::_,_,[],_,i,_,h2=>absurd h2 (Nat.not_lt_zero _)
 | q::qs,a,g::gs,h,i,h1,h2=>by
  rw [OsL] at h
  cases i with
  | zero=>exact h.1
  | succ i =>
   have:=OsL.at_ h.2 (i:=i) (by simpa using h1) (by simpa using h2);simp only [List.take_succ_cons,bL,List.getElem_cons_succ];rw [←Nat.add_assoc];exact this
theorem OsL.of:∀{l:List Pt} {a:Nat} {gs:List Nat},(∀(i:Nat) (h1:i<l.length) (h2:i<gs.length),OsT w F l[i] (a+bL (l.take i)) gs[i])→OsL w F l a gs
 | [],_,_,_=>by rw [OsL];trivial
 | _::_,_,[],_=>by rw [OsL];trivial
 | q::qs,a,g::gs,h=>by
  rw [OsL];refine ⟨h 0 (by simp) (by simp),OsL.of fun i h1 h2=>?_⟩;have:=h (i+1) (by simpa using h1) (by simpa using h2);simp only [List.take_succ_cons,bL,List.getElem_cons_succ] at this;rw [←Nat.add_assoc] at this;exact this
theorem OsT.upd (u:Upd S w w') (d:∀i,i<w.heap.size→F i→¬S i) (hG:∀i,i<w.heap.size→F i→G i) (p:Pt):∀(a g:Nat),OsT w F p a g→OsT w' G p a g:=by
 induction p using Pt.ind with
 | h p ih =>
  intro a g h;rw [OsT.iff] at h ⊢;obtain ⟨hF,KA,kc,CA,cc,gs,hb,hn,hs,hl⟩:=h;refine ⟨hG g hb.lt hF,KA,kc,CA,cc,gs,hb.upd u (d g hb.lt hF),hn,((hs.mono (G:=fun i=>G i∧F i) (fun i hi q=>⟨hG i hi q,q⟩)).upd u (fun i hi q=>d i hi q.2)).mono (fun _ _ q=>q.1),OsL.of fun i h1 h2=>ih _ (List.getElem_mem h1) _ _ (hl.at_ h1 h2)⟩
end
structure TrS (w:World) (F:Nat→Prop) (s k h:Nat) (OA:Option Addr) (oc g nc:Nat) (O N:List Bool):Prop where
 blk:Blk w s 186 #[.int .i64 (k:Int),.int .i64 (h:Int),.slice OA O.length oc,.slice (some ⟨g,0,none⟩) N.length nc]
 old:Sl w F OA (b8s O)
 own:Own w 5 1 (some ⟨g,0,none⟩) N.length nc (b8s N)
 len:N.length=O.length
 far:∀i,F i→i≠g
 cap:O.length≤oc
theorem TrS.ne {w:World} {F:Nat→Prop} {s k h:Nat} {OA:Option Addr} {oc g nc:Nat} {O N:List Bool} (T:TrS w F s k h OA oc g nc O N):s≠g:=fun e=>by
 subst e;exact T.own.ne_blk T.blk (by decide) (At.some_.2 rfl)
theorem TrS.set {w:World} {F:Nat→Prop} {s k h:Nat} {OA:Option Addr} {oc g nc:Nat} {O N:List Bool} (T:TrS w F s k h OA oc g nc O N) (i:Nat) (b:Bool):TrS (w.setCell ⟨g,i,none⟩ (b8 b)) F s k h OA oc g nc O (N.set i b):=by
 have u:=updCell w g i (b8 b);refine ⟨?_,T.old.upd u (fun j _ hj=>T.far j hj),?_,by rw [List.length_set];exact T.len,T.far,T.cap⟩
 ·rw [List.length_set];exact T.blk.upd u T.ne
 ·rw [List.length_set,←b8s_set];exact T.own.set_ i _
theorem upd_setCells (g:Nat):∀(vs:List Value) (o:Nat) (w:World),Upd (·=g) w (w.setCells g o vs)
 | [],_,_=>Upd.refl
 | v::r,o,w=>(updCell w g o v).trans (upd_setCells g r (o+1) _) (fun _ _ h=>h)
theorem TrS.sets {F:Nat→Prop} {s k h:Nat} {OA:Option Addr} {oc g nc:Nat} {O:List Bool}:∀(m:List Bool) (a:Nat) (w:World) (N:List Bool),TrS w F s k h OA oc g nc O N→a+m.length≤N.length→TrS (w.setCells g a (b8s m)) F s k h OA oc g nc O (spl N a m)
 | [],a,w,N,T,_=>by rw [spl_nil];exact T
 | b::m,a,w,N,T,hl=>by
  rw [List.length_cons] at hl;have h1:=TrS.sets m (a+1) _ _ (T.set a b) (by rw [List.length_set];omega);rw [spl_one b (by omega)] at h1;have h2:=spl_spl (N:=N) (a:=a) (m1:=[b]) (m2:=m) (by simp;omega);rw [List.length_singleton] at h2;rw [h2] at h1;exact h1
theorem TrS.upd {w w':World} {F S:Nat→Prop} {s k h:Nat} {OA:Option Addr} {oc g nc:Nat} {O N:List Bool} (T:TrS w F s k h OA oc g nc O N) (u:Upd S w w') (hs:¬S s) (hg:¬S g) (hF:∀i,i<w.heap.size→F i→¬S i):TrS w' F s k h OA oc g nc O N :=
 ⟨T.blk.upd u hs,T.old.upd u (fun j hj0 hj=>hF j hj0 hj),T.own.upd u (fun i hi=>by rw [At.some_] at hi;subst hi;exact hg),T.len,T.far,T.cap⟩
def vpad (l:List Bool):Array Value:=#[b8 (l.getD 0 false),b8 (l.getD 1 false),b8 (l.getD 2 false)]
theorem vpad_set {l:List Bool} (b:Bool) (h:l.length<3):(vpad l).setIfInBounds l.length (b8 b)=vpad (l++[b]):=by
 match l,h with
 | [],_=>rfl
 | [_],_=>rfl
 | [_,_],_=>rfl
theorem and8 (a b:Bool):bits .and .u8 (bW a) (bW b)=bW (a&&b):=by cases a <;> cases b <;> decide
theorem or8 (a b:Bool):bits .or .u8 (bW a) (bW b)=bW (a || b):=by cases a <;> cases b <;> decide
theorem xor8 (a b:Bool):bits .xor .u8 (bW a) (bW b)=bW (a ^^ b):=by cases a <;> cases b <;> decide
theorem not8 (a:Bool):(1 - bW a) % 256=bW (!a):=by cases a <;> rfl
theorem not8w (a:Bool):IntKind.u8.wrap (1 - bW a)=bW (!a):=by cases a <;> rfl
theorem and80 (a:Bool):bits .and .u8 (bW a) 0=0:=by cases a <;> decide
theorem and80' (a:Bool):bits .and .u8 0 (bW a)=0:=by cases a <;> decide
theorem xor80 (a:Bool):bits .xor .u8 (bW a) 0=bW a:=by cases a <;> decide
theorem or80 (a:Bool):bits .or .u8 0 (bW a)=bW a:=by cases a <;> decide
theorem or80' (a:Bool):bits .or .u8 (bW a) 0=bW a:=by cases a <;> decide
theorem drop_one {O:List Bool} {a:Nat} (h:a<O.length):(O.drop a).take 1=[O.getD a false]:=by
 rw [List.drop_eq_getElem_cons h,List.getD_eq_getElem?_getD,List.getElem?_eq_getElem h];rfl
structure OpX (w:World) (x:Nat) (op:Int) (a n:Nat):Prop where
 blk:∃v imm iv K C,Blk w x 183 #[.int .i64 v,.int .i64 op,.int .i64 imm,.int .i64 iv,K,C,.int .i64 (a:Int),.int .i64 (n:Int)]
set_option maxRecDepth 100000 in
set_option maxHeartbeats 8000000 in
theorem aArith_c {w:World} {F:Nat→Prop} {s k h:Nat} {OA:Option Addr} {oc g nc:Nat} {O N:List Bool} (T:TrS w F s k h OA oc g nc O N) {x:Nat} {op:Int} {a n:Nat} (hx:OpX w x op a n) (hxg:x≠g) (ha:a<O.length)
  (hop:op=4∨op=5∨op=20) (imm:Int) (b0 b1 b2:Bool) :
  Calls Tryz.prog 184 #[pp s,pp x,.agg #[b8 b0,b8 b1,b8 b2]] w fun e w'=>e=.returned (b8 (opB k op imm ((O.drop a).take 1) b0 b1 b2).1)∧TrS w' F s k h OA oc g nc O (spl N a (opB k op imm ((O.drop a).take 1) b0 b1 b2).2)∧Upd (·=g) w w':=by
 rw [drop_one ha];obtain ⟨v,imm',iv,KK,CC,hxb⟩:=hx.blk;obtain ⟨ob,oo,rfl,hFo,hob,hoc⟩:=T.old.at_ (k:=a) (by rw [b8s_len];exact ha)
 have hcell:w.cell? ⟨ob,oo+a,none⟩=some (b8 (O.getD a false)):=by
  rw [hoc];have:=b8s_get ha;rw [List.getElem?_eq_getElem (by rw [b8s_len];exact ha)] at this;exact this
 have hN:a<N.length:=by rw [T.len];exact ha
 have HNL:=h_ hN;have hNc:=T.own.cell_ (i:=a) (by rw [b8s_len];exact hN);have hNf:=T.own.frozen_ a;have hsz:=T.blk.lt;obtain ⟨W,HW⟩:=nm (w.alloc (.cells #[b8 b0,b8 b1,b8 b2] 231));have u1:Upd Non w W:=by rw [←HW.out];exact Upd.refl.alloc _
 have hv:Blk W w.heap.size 231 #[b8 b0,b8 b1,b8 b2]:=by rw [←HW.out];exact Blk.new _ _ _
 have e0:=HW.out;have hsb:=T.blk.upd u1 (fun f=>f);have hxw:=hxb.upd u1 (fun f=>f);have x2:=hsb.cell 2;have x3:=hsb.cell 3;have y1:=hxw.cell 1;have y6:=hxw.cell 6;have z0:=hv.cell 0;have z1:=hv.cell 1;have hc2:=u_ hcell u1 (fun f=>f);have hNl:=T.len;obtain ⟨o,Ho⟩:=nm (O.getD a false);rw [Ho.out] at hc2 ⊢;have hNW:=u_ hNc u1 (fun f=>f);have hNu:=T.own.upd u1 (fun _ _ f=>f);have hNfW:=hNu.frozen_ a;have TW:=h_ (T.upd u1 (fun f=>f) (fun f=>f) (fun _ _ _ f=>f));have hob2:ob<W.heap.size:=Nat.lt_of_lt_of_le hob u1.size;have hne:s≠g:=T.ne;obtain ⟨L,HL⟩:=nm O.length;rw [HL.out] at hNl ha x2;rw [hNl] at x3;have ai0:(0:Int)≤(a:Int):=by omega
 have ai1:(a:Int)<(L:Int):=by omega
 unfold b8 at hc2 z0 z1 e0;clear hcell hNc hNf hoc hxb hsb hv hNl HW hNu hob hsz;have A8:=and8;have O8:=or8;have X8:=xor8;have N8:=not8;have N9:=not8w;have Z1:=and80;have Z2:=and80';have Z3:=xor80;have Z4:=or80;have Z5:=or80';rcases hop with rfl | rfl | rfl
 ·obtain ⟨cc,hcc⟩:∃c,(b0&&b1 || b0&&o || b1&&o)=c:=⟨_,rfl⟩;have HR1:Hid ((opB k 4 imm [o] b0 b1 b2).1=((b0 ^^ b1) ^^ o)):=rfl;have HR2:Hid ((opB k 4 imm [o] b0 b1 b2).2=[cc]):=by rw [←hcc];rfl
  go_enter Tryz.func184,Tryz.ntmps184;unfold pp b8;go_wp2_with fail
  refine wp_region_held_drew (S:=fun w'=>w'.cell? ⟨s,2,none⟩=some (.slice (some ⟨ob,oo,none⟩) L oc)∧w'.cell? ⟨x,6,none⟩=some (.int .i64 (a:Int))∧w'.cell? ⟨ob,oo+a,none⟩=some (.int .u8 (bW o))) (by kernel_rfl) ⟨x2,y6,hc2⟩ (fun hHeld=>?_)
  refine wpT 0 ?_;(try simp only [y_,z_]);refine wpT 1 ?_;(try simp only [y_,z_]);refine wpT 2 ?_;(try simp only [y_,z_]);refine wpT 3 ?_;(try simp only [y_,z_]);refine wpT 4 ?_;(try simp only [y_,z_]);refine wpT 5 ?_;(try simp only [y_,z_]);refine wpT 6 ?_;(try simp only [y_,z_]);refine wpT 7 ?_;(try simp only [y_,z_]);refine wpT 8 ?_;(try simp only [y_,z_]);refine wpT 9 ?_;(try simp only [y_,z_]);refine wpT 10 ?_;(try simp only [y_,z_]);refine aD_ (by kernel_rfl) ?_ _;go_wp2_with fail
  refine wp_region_held_drew (S:=fun w'=>w'.cell? ⟨w.heap.size,0,none⟩=some (.int .u8 (bW b0))∧w'.cell? ⟨w.heap.size,1,none⟩=some (.int .u8 (bW b1))) (by kernel_rfl) ⟨z0,z1⟩ (fun hHeld=>?_)
  refine wpT 0 ?_;(try simp only [y_,z_]);refine wpT 1 ?_;(try simp only [y_,z_]);refine wpT 2 ?_;(try simp only [y_,z_]);refine wpT 3 ?_;(try simp only [y_,z_]);refine wpT 4 ?_;(try simp only [y_,z_]);refine wpT 5 ?_;(try simp only [y_,z_]);refine aD_ (by kernel_rfl) ?_ _;go_wp2_with fail
  refine wp_region_held_drew (S:=fun w'=>w'.cell? ⟨s,3,none⟩=some (.slice (some ⟨g,0,none⟩) L nc)∧w'.cell? ⟨x,6,none⟩=some (.int .i64 (a:Int))) (by kernel_rfl) ⟨x3,y6⟩ (fun hHeld=>?_)
  refine wpT 0 ?_;(try simp only [y_,z_]);refine wpT 1 ?_;(try simp only [y_,z_]);refine wpT 2 ?_;(try simp only [y_,z_]);refine wpT 3 ?_;(try simp only [y_,z_]);refine wpT 4 ?_;(try simp only [y_,z_]);refine wpT 5 ?_;(try simp only [y_,z_]);refine wpT 6 ?_;(try simp only [y_,z_]);refine wpT 7 ?_;(try simp only [y_,z_]);refine wpT 8 ?_;(try simp only [y_,z_]);refine wpT 9 ?_;(try simp only [y_,z_]);refine wpT 10 ?_;(try simp only [y_,z_]);refine wpT 11 ?_;(try simp only [y_,z_]);refine wpT 12 ?_;(try simp only [y_,z_]);refine wpT 13 ?_;(try simp only [y_,z_]);refine wpT 14 ?_;(try simp only [y_,z_]);refine wpT 15 ?_;(try simp only [y_,z_]);refine wpT 16 ?_;(try simp only [y_,z_]);refine wpT 17 ?_;(try simp only [y_,z_]);refine wpT 18 ?_;(try simp only [y_,z_]);refine wpT 19 ?_;(try simp only [y_,z_]);refine aR_ (rs:=[20]) (by kernel_rfl) (by simp) ?_;refine aC_ rfl (fun K hK=>?_) aN_;go_simp;refine hK.out _ _ ?_ (fun hHeld=>?_)
  ·exact ⟨u_ (S:=(·=g)) x3 ((updCell W g a (b8 cc)).drewN 3) hne,u_ (S:=(·=g)) y6 ((updCell W g a (b8 cc)).drewN 3) hxg⟩
  clear hK K;(try simp only [y_,z_]);refine aD_ (by kernel_rfl) ?_ _;go_wp2_with fail
  go_ret;refine ⟨by rw [HR1.out];show Ending.returned (Value.int .u8 (bW _))=Ending.returned (Value.int .u8 (bW _));congr 3;cases b0 <;> cases b1 <;> cases o <;> rfl,by rw [HR2.out,←spl_one cc HNL.out];exact (TW.out.set a cc).upd (S:=Non) (Upd.refl.drewN 3) (fun f=>f) (fun f=>f) (fun _ _ _ f=>f),u1.mono (fun _ _ f=>f.elim) |>.trans ((updCell W g a (b8 cc)).drewN 3) (fun i _ h=>h)⟩
 ·obtain ⟨cc,hcc⟩:∃c,(!b0&&b1 || !(b0 ^^ b1)&&o)=c:=⟨_,rfl⟩;have HR1:Hid ((opB k 5 imm [o] b0 b1 b2).1=((b0 ^^ b1) ^^ o)):=rfl;have HR2:Hid ((opB k 5 imm [o] b0 b1 b2).2=[cc]):=by rw [←hcc];rfl
  go_enter Tryz.func184,Tryz.ntmps184;unfold pp b8;go_wp2_with fail
  refine wp_region_held_drew (S:=fun w'=>w'.cell? ⟨s,2,none⟩=some (.slice (some ⟨ob,oo,none⟩) L oc)∧w'.cell? ⟨x,6,none⟩=some (.int .i64 (a:Int))∧w'.cell? ⟨ob,oo+a,none⟩=some (.int .u8 (bW o))) (by kernel_rfl) ⟨x2,y6,hc2⟩ (fun hHeld=>?_)
  refine wpT 0 ?_;(try simp only [y_,z_]);refine wpT 1 ?_;(try simp only [y_,z_]);refine wpT 2 ?_;(try simp only [y_,z_]);refine wpT 3 ?_;(try simp only [y_,z_]);refine wpT 4 ?_;(try simp only [y_,z_]);refine wpT 5 ?_;(try simp only [y_,z_]);refine wpT 6 ?_;(try simp only [y_,z_]);refine wpT 7 ?_;(try simp only [y_,z_]);refine wpT 8 ?_;(try simp only [y_,z_]);refine wpT 9 ?_;(try simp only [y_,z_]);refine wpT 10 ?_;(try simp only [y_,z_]);refine aD_ (by kernel_rfl) ?_ _;go_wp2_with fail
  refine wp_region_held_drew (S:=fun w'=>w'.cell? ⟨w.heap.size,0,none⟩=some (.int .u8 (bW b0))∧w'.cell? ⟨w.heap.size,1,none⟩=some (.int .u8 (bW b1))) (by kernel_rfl) ⟨z0,z1⟩ (fun hHeld=>?_)
  refine wpT 0 ?_;(try simp only [y_,z_]);refine wpT 1 ?_;(try simp only [y_,z_]);refine wpT 2 ?_;(try simp only [y_,z_]);refine wpT 3 ?_;(try simp only [y_,z_]);refine wpT 4 ?_;(try simp only [y_,z_]);refine wpT 5 ?_;(try simp only [y_,z_]);refine aD_ (by kernel_rfl) ?_ _;go_wp2_with fail
  refine wp_region_held_drew (S:=fun w'=>w'.cell? ⟨s,3,none⟩=some (.slice (some ⟨g,0,none⟩) L nc)∧w'.cell? ⟨x,6,none⟩=some (.int .i64 (a:Int))) (by kernel_rfl) ⟨x3,y6⟩ (fun hHeld=>?_)
  refine wpT 0 ?_;(try simp only [y_,z_]);refine wpT 1 ?_;(try simp only [y_,z_]);refine wpT 2 ?_;(try simp only [y_,z_]);refine wpT 3 ?_;(try simp only [y_,z_]);refine wpT 4 ?_;(try simp only [y_,z_]);refine wpT 5 ?_;(try simp only [y_,z_]);refine wpT 6 ?_;(try simp only [y_,z_]);refine wpT 7 ?_;(try simp only [y_,z_]);refine wpT 8 ?_;(try simp only [y_,z_]);refine wpT 9 ?_;(try simp only [y_,z_]);refine wpT 10 ?_;(try simp only [y_,z_]);refine wpT 11 ?_;(try simp only [y_,z_]);refine wpT 12 ?_;(try simp only [y_,z_]);refine wpT 13 ?_;(try simp only [y_,z_]);refine wpT 14 ?_;(try simp only [y_,z_]);refine wpT 15 ?_;(try simp only [y_,z_]);refine wpT 16 ?_;(try simp only [y_,z_]);refine wpT 17 ?_;(try simp only [y_,z_]);refine wpT 18 ?_;(try simp only [y_,z_]);refine wpT 19 ?_;(try simp only [y_,z_]);refine aR_ (rs:=[20]) (by kernel_rfl) (by simp) ?_;refine aC_ rfl (fun K hK=>?_) aN_;go_simp;refine hK.out _ _ ?_ (fun hHeld=>?_)
  ·exact ⟨u_ (S:=(·=g)) x3 ((updCell W g a (b8 cc)).drewN 3) hne,u_ (S:=(·=g)) y6 ((updCell W g a (b8 cc)).drewN 3) hxg⟩
  clear hK K;(try simp only [y_,z_]);refine aD_ (by kernel_rfl) ?_ _;go_wp2_with fail
  go_ret;refine ⟨by rw [HR1.out];show Ending.returned (Value.int .u8 (bW _))=Ending.returned (Value.int .u8 (bW _));congr 3;cases b0 <;> cases b1 <;> cases o <;> rfl,by rw [HR2.out,←spl_one cc HNL.out];exact (TW.out.set a cc).upd (S:=Non) (Upd.refl.drewN 3) (fun f=>f) (fun f=>f) (fun _ _ _ f=>f),u1.mono (fun _ _ f=>f.elim) |>.trans ((updCell W g a (b8 cc)).drewN 3) (fun i _ h=>h)⟩
 ·obtain ⟨cc,hcc⟩:∃c,(!b0&&o)=c:=⟨_,rfl⟩;have HR1:Hid ((opB k 20 imm [o] b0 b1 b2).1=(!b0 ^^ o)):=rfl;have HR2:Hid ((opB k 20 imm [o] b0 b1 b2).2=[cc]):=by rw [←hcc];rfl
  go_enter Tryz.func184,Tryz.ntmps184;unfold pp b8;go_wp2_with fail
  refine wp_region_held_drew (S:=fun w'=>w'.cell? ⟨s,2,none⟩=some (.slice (some ⟨ob,oo,none⟩) L oc)∧w'.cell? ⟨x,6,none⟩=some (.int .i64 (a:Int))∧w'.cell? ⟨ob,oo+a,none⟩=some (.int .u8 (bW o))) (by kernel_rfl) ⟨x2,y6,hc2⟩ (fun hHeld=>?_)
  refine wpT 0 ?_;(try simp only [y_,z_]);refine wpT 1 ?_;(try simp only [y_,z_]);refine wpT 2 ?_;(try simp only [y_,z_]);refine wpT 3 ?_;(try simp only [y_,z_]);refine wpT 4 ?_;(try simp only [y_,z_]);refine wpT 5 ?_;(try simp only [y_,z_]);refine wpT 6 ?_;(try simp only [y_,z_]);refine wpT 7 ?_;(try simp only [y_,z_]);refine wpT 8 ?_;(try simp only [y_,z_]);refine wpT 9 ?_;(try simp only [y_,z_]);refine wpT 10 ?_;(try simp only [y_,z_]);refine aD_ (by kernel_rfl) ?_ _;go_wp2_with fail
  refine wp_region_held_drew (S:=fun w'=>w'.cell? ⟨w.heap.size,0,none⟩=some (.int .u8 (bW b0))∧w'.cell? ⟨w.heap.size,1,none⟩=some (.int .u8 (bW b1))) (by kernel_rfl) ⟨z0,z1⟩ (fun hHeld=>?_)
  refine wpT 0 ?_;(try simp only [y_,z_]);refine wpT 1 ?_;(try simp only [y_,z_]);refine wpT 2 ?_;(try simp only [y_,z_]);refine wpT 3 ?_;(try simp only [y_,z_]);refine wpT 4 ?_;(try simp only [y_,z_]);refine wpT 5 ?_;(try simp only [y_,z_]);refine aD_ (by kernel_rfl) ?_ _;go_wp2_with fail
  refine wp_region_held_drew (S:=fun w'=>w'.cell? ⟨s,3,none⟩=some (.slice (some ⟨g,0,none⟩) L nc)∧w'.cell? ⟨x,6,none⟩=some (.int .i64 (a:Int))) (by kernel_rfl) ⟨x3,y6⟩ (fun hHeld=>?_)
  refine wpT 0 ?_;(try simp only [y_,z_]);refine wpT 1 ?_;(try simp only [y_,z_]);refine wpT 2 ?_;(try simp only [y_,z_]);refine wpT 3 ?_;(try simp only [y_,z_]);refine wpT 4 ?_;(try simp only [y_,z_]);refine wpT 5 ?_;(try simp only [y_,z_]);refine wpT 6 ?_;(try simp only [y_,z_]);refine wpT 7 ?_;(try simp only [y_,z_]);refine wpT 8 ?_;(try simp only [y_,z_]);refine wpT 9 ?_;(try simp only [y_,z_]);refine wpT 10 ?_;(try simp only [y_,z_]);refine wpT 11 ?_;(try simp only [y_,z_]);refine wpT 12 ?_;(try simp only [y_,z_]);refine wpT 13 ?_;(try simp only [y_,z_]);refine wpT 14 ?_;(try simp only [y_,z_]);refine wpT 15 ?_;(try simp only [y_,z_]);refine wpT 16 ?_;(try simp only [y_,z_]);refine wpT 17 ?_;(try simp only [y_,z_]);refine wpT 18 ?_;(try simp only [y_,z_]);refine wpT 19 ?_;(try simp only [y_,z_]);refine aR_ (rs:=[20]) (by kernel_rfl) (by simp) ?_;refine aC_ rfl (fun K hK=>?_) aN_;go_simp;refine hK.out _ _ ?_ (fun hHeld=>?_)
  ·exact ⟨u_ (S:=(·=g)) x3 ((updCell W g a (b8 cc)).drewN 3) hne,u_ (S:=(·=g)) y6 ((updCell W g a (b8 cc)).drewN 3) hxg⟩
  clear hK K;(try simp only [y_,z_]);refine aD_ (by kernel_rfl) ?_ _;go_wp2_with fail
  go_ret;refine ⟨by rw [HR1.out];show Ending.returned (Value.int .u8 (bW _))=Ending.returned (Value.int .u8 (bW _));congr 3;cases b0 <;> cases b1 <;> cases o <;> rfl,by rw [HR2.out,←spl_one cc HNL.out];exact (TW.out.set a cc).upd (S:=Non) (Upd.refl.drewN 3) (fun f=>f) (fun f=>f) (fun _ _ _ f=>f),u1.mono (fun _ _ f=>f.elim) |>.trans ((updCell W g a (b8 cc)).drewN 3) (fun i _ h=>h)⟩
theorem addr_add (b o j:Nat):(⟨b,o,none⟩:Addr).add j=⟨b,o+j,none⟩:=by unfold Addr.add;split <;> simp_all
theorem step_copy {P:Program} {ops:Array Oper} {o:Oper} {a:Act} {w:World} {K:Act→World→Prop} {Q:Exit→Act→World→Prop} {E:Prop}
  (hg:o.guard=none) (d x:Operand) (dT sT:TypeId) (hop:o.op=Op.call { callee:=Callee.builtin Builtin.copy,args:=#[d,x],argTypes:=#[dT,sT] })
  (v u:Value) (hd:a.eval d=v) (hx:a.eval x=u) {v':Value} {w':World} (hr:(Builtin.copy_ #[dT,sT] o.type #[v,u]).run P w=.ok v' w') (hK:K (a.put o.dst v') w') :
  if Region.wanted o (yielded ops a.tmps)=true then Oper.wp P o a w K Q else E:=by
 have hw:Region.wanted o (yielded ops a.tmps)=true:=by simp [Region.wanted,hg]
 rw [if_pos hw];unfold Oper.wp;simp [execOp,hop,resolve,invoke,builtin,hd,hx,hr,Result.andThen];exact hK
set_option maxRecDepth 100000 in
set_option maxHeartbeats 8000000 in
theorem aShiftB_c {w:World} {F:Nat→Prop} {s k h:Nat} {OA:Option Addr} {oc g nc:Nat} {O N:List Bool} (T:TrS w F s k h OA oc g nc O N) {x:Nat} {a n:Nat} (hx:OpX w x 12 a n) (hxg:x≠g) (ha:a+n<O.length)
  (hl:O.length≤1000000) (imm:Int) (b0 b1 b2:Bool) :
  Calls Tryz.prog 185 #[pp s,pp x,b8 b0] w fun e w'=>e=.returned (b8 (opB k 12 imm ((O.drop a).take n) b0 b1 b2).1)∧TrS w' F s k h OA oc g nc O (spl N a (opB k 12 imm ((O.drop a).take n) b0 b1 b2).2)∧Upd (·=g) w w':=by
 obtain ⟨v,imm',iv,KK,CC,hxb⟩:=hx.blk;have y7:=hxb.cell 7;by_cases h0:n=0
 ·subst h0;have HR:Hid (opB k 12 imm ((O.drop a).take 0) b0 b1 b2=(b0,[])):=rfl;have t0:(((0:Nat):Int)==0)=true:=rfl;unfold pp b8;go_enter Tryz.func185,Tryz.ntmps185;go_wp2_with fail
  go_ret;refine ⟨by rw [HR.out];rfl,?_,Upd.refl⟩;rw [HR.out,spl_nil];exact T
 ·have t0:((n:Int)==0)=false:=by simpa using h0
  have hn1:1≤n:=by omega
  obtain ⟨mt,hmt⟩:∃m,(O.drop (a+1)).take (n - 1)=m:=⟨_,rfl⟩
  have hmine:(O.drop a).take n=O.getD a false::mt:=by
   have ha':a<O.length:=by omega
   obtain ⟨m1,hm1⟩:∃m1,n=m1+1:=⟨n - 1,by omega⟩;rw [show n - 1=m1 by omega] at hmt;rw [List.drop_eq_getElem_cons ha',hm1,List.take_succ_cons,hmt,List.getD_eq_getElem?_getD,List.getElem?_eq_getElem ha'];rfl
  have hml:mt.length=n - 1:=by rw [←hmt,List.length_take,List.length_drop];omega
  have HR1:Hid ((opB k 12 imm ((O.drop a).take n) b0 b1 b2).1=O.getD a false):=by show _=_;rw [hmine];rfl
  have HR2:Hid ((opB k 12 imm ((O.drop a).take n) b0 b1 b2).2=mt++[b0]):=by show _=_;rw [hmine];rfl
  obtain ⟨ob,oo,rfl,hFo,hob,hoc⟩:=T.old.at_ (k:=a) (by rw [b8s_len];omega)
  have hcell:w.cell? ⟨ob,oo+a,none⟩=some (b8 (O.getD a false)):=by
   rw [hoc];have:=b8s_get (l:=O) (i:=a) (by omega);rw [List.getElem?_eq_getElem (by rw [b8s_len];omega)] at this;exact this
  have hsrc:∀j v,(b8s mt)[j]?=some v→w.cell? ((⟨ob,oo+(a+1),none⟩:Addr).add j)=some v:=fun j v hj=>by
   have hjl:j<mt.length:=by have:=(List.getElem?_eq_some_iff.1 hj).1;rwa [b8s_len] at this
   obtain ⟨b',off',e',_,_,hc⟩:=T.old.at_ (k:=a+1+j) (by rw [b8s_len];omega);injection e' with e'
   injection e' with e1 e2
   subst e1 e2;rw [addr_add,Nat.add_assoc,hc];have h1:=b8s_get (l:=O) (i:=a+1+j) (by omega);rw [List.getElem?_eq_getElem (by rw [b8s_len];omega)] at h1;rw [h1,←hj,b8s_get hjl,←hmt]
   congr 2
   rw [List.getD_eq_getElem?_getD,List.getD_eq_getElem?_getD,List.getElem?_take,if_pos (by omega),List.getElem?_drop]
  have hNl:=T.len;have hcap:=T.cap;have hncap:=T.own.le
  have hdst:∀j,j<(b8s mt).length→(w.cell? ⟨g,a+j,none⟩).isSome=true:=fun j hj=>by
   rw [b8s_len] at hj;rw [T.own.cell_ (i:=a+j) (by rw [b8s_len];omega)];rfl
  have hfrz:∀j,j<(b8s mt).length→w.frozen? ⟨g,a+j,none⟩=false:=fun j _=>T.own.frozen_ _
  have hone:∀v∈b8s mt,v.oneCell'=true:=fun v hv=>by
   unfold b8s at hv;obtain ⟨b,_,rfl⟩:=List.mem_map.1 hv;rfl
  have HT1:=h_ (TrS.sets mt a w.drew N (T.upd (S:=Non) Upd.refl.drew (fun f=>f) (fun f=>f) (fun _ _ _ f=>f)) (by omega));have u1:=(Upd.refl.drew (S:=(·=g)) (w:=w)).trans (upd_setCells g (b8s mt) a w.drew) (fun _ _ h=>h);obtain ⟨o,Ho⟩:=nm (O.getD a false);rw [Ho.out] at hcell HR1;have hsb:=T.blk;have x2:=hsb.cell 2;have x3:=hsb.cell 3;have y6:=hxb.cell 6;have hne:=T.ne;have hfo:ob≠g:=T.far ob hFo;have HCP:=h_ (run_copy_cells (P:=Tryz.prog) w.drew 84 84 3 5 g a n (nc - a) ⟨ob,oo+(a+1),none⟩ (a+n - (a+1)) (oc - (a+1)) (b8s mt) Tryz.underlying84 (by kernel_rfl) (by rw [b8s_len,hml];show n - 1=min (a+n - (a+1)) n;omega) hsrc hdst hfrz hone)
  have hHL:=h_ hNl;have hHN:a+n≤N.length:=by omega
  obtain ⟨L,HL⟩:=nm O.length;rw [HL.out] at hNl ha hl x2 hcap;rw [hNl] at x3 hncap hHN;have ai0:(0:Int)≤(a:Int):=by omega
  have ai1:(a:Int)<(L:Int):=by omega
  have q1:IntKind.i64.wrap ((a:Int)+(n:Int))=(a:Int)+(n:Int):=i64w_of (by unfold I64;omega);have q2:(0:Int)≤(a:Int)+(n:Int):=by omega
  have q3:(a:Int)+(n:Int)≤(nc:Int):=by omega
  have q4:((a:Int)+(n:Int)).toNat=a+n:=by omega
  have q5:¬nc=a:=by omega
  have r1:IntKind.i64.wrap ((a:Int)+1)=(a:Int)+1:=i64w_of (by unfold I64;omega);have r2:(0:Int)≤(a:Int)+1:=by omega
  have r3:(a:Int)+(n:Int)≤(oc:Int):=by omega
  have r4:((a:Int)+1).toNat=a+1:=by omega
  have r5:¬oc=a+1:=by omega
  have r6:a+1≤a+n:=by omega
  have r7:(1:Int)≤(n:Int):=by omega
  have X2:=h_ (u_ (S:=(·=g)) x2 u1 hne);have X3:=h_ (u_ (S:=(·=g)) x3 u1 hne);have Y6:=h_ (u_ (S:=(·=g)) y6 u1 hxg);have Y7:=h_ (u_ (S:=(·=g)) y7 u1 hxg);have OC:=h_ (u_ (S:=(·=g)) hcell u1 hfo);have U1:=h_ u1;obtain ⟨w2,Hw2⟩:=nm (w.drew.setCells g a (b8s mt));have HT2:=HT1;have U2:=U1;have OC2:=OC;rw [Hw2.out] at HT2 U2 OC2;have hcN:=HT2.out.own.cell_ (i:=a+n - 1) (by rw [b8s_len,spl_len (by omega)];omega);have hfN:=HT2.out.own.frozen_ (a+n - 1);have r8:IntKind.i64.wrap ((a:Int)+(n:Int) - 1)=(a:Int)+(n:Int) - 1:=i64w_of (by unfold I64;omega);have r9:(0:Int)≤(a:Int)+(n:Int) - 1:=by omega
  have s1:(a:Int)+(n:Int) - 1<(L:Int):=by omega
  have s2:((a:Int)+(n:Int) - 1).toNat=a+n - 1:=by omega
  have s3:(1:Int)≤(a:Int)+(n:Int):=by omega
  clear u1;unfold pp b8;unfold b8 at hcell;clear hsrc hdst hfrz hone hsb hxb hoc hmine hob;go_enter Tryz.func185,Tryz.ntmps185;go_wp2_with fail
  refine wp_region_held_drew (S:=fun w'=>w'.cell? ⟨s,2,none⟩=some (.slice (some ⟨ob,oo,none⟩) L oc)∧w'.cell? ⟨s,3,none⟩=some (.slice (some ⟨g,0,none⟩) L nc)∧w'.cell? ⟨x,6,none⟩=some (.int .i64 (a:Int))∧w'.cell? ⟨x,7,none⟩=some (.int .i64 (n:Int))) (by kernel_rfl) ⟨x2,x3,y6,y7⟩ (fun hHeld=>?_)
  refine wpT 0 ?_;(try simp only [y_,z_]);refine wpT 1 ?_;(try simp only [y_,z_]);refine wpT 2 ?_;(try simp only [y_,z_]);refine wpT 3 ?_;(try simp only [y_,z_]);refine wpT 4 ?_;(try simp only [y_,z_]);refine wpT 5 ?_;(try simp only [y_,z_]);refine wpT 6 ?_;(try simp only [y_,z_]);refine wpT 7 ?_;(try simp only [y_,z_]);refine wpT 8 ?_;(try simp only [y_,z_]);refine wpT 9 ?_;(try simp only [y_,z_]);refine wpT 10 ?_;(try simp only [y_,z_]);refine wpT 11 ?_;(try simp only [y_,z_]);refine wpT 12 ?_;(try simp only [y_,z_]);refine wpT 13 ?_;(try simp only [y_,z_]);refine wpT 14 ?_;(try simp only [y_,z_]);refine wpT 15 ?_;(try simp only [y_,z_]);refine wpT 16 ?_;(try simp only [y_,z_]);refine wpT 17 ?_;(try simp only [y_,z_]);refine wpT 18 ?_;(try simp only [y_,z_]);refine wpT 19 ?_;(try simp only [y_,z_]);refine wpT 20 ?_;(try simp only [y_,z_]);refine wpT 21 ?_;(try simp only [y_,z_]);refine wpT 22 ?_;(try simp only [y_,z_]);refine wpT 23 ?_;(try simp only [y_,z_]);refine wpT 24 ?_;(try simp only [y_,z_])
  refine wpT 25 ?_;(try simp only [y_,z_]);refine wpT 26 ?_;(try simp only [y_,z_]);refine wpT 27 ?_;(try simp only [y_,z_]);refine wpT 28 ?_;(try simp only [y_,z_]);refine wpT 29 ?_;(try simp only [y_,z_]);refine wpT 30 ?_;(try simp only [y_,z_]);refine wpT 31 ?_;(try simp only [y_,z_]);refine wpT 32 ?_;(try simp only [y_,z_]);refine wpT 33 ?_;(try simp only [y_,z_]);refine wpT 34 ?_;(try simp only [y_,z_]);refine wpT 35 ?_;(try simp only [y_,z_]);refine wpT 36 ?_;(try simp only [y_,z_]);refine aR_ (rs:=[37]) (by kernel_rfl) (by simp) ?_;refine aC_ rfl (fun K hK=>?_) aN_;refine step_copy rfl (.tmp 30) (.tmp 49) 84 84 rfl _ _ rfl rfl HCP.out ?_;(try simp only [y_,z_]);refine hK.out _ _ ?_ (fun hHeld=>?_)
  ·exact ⟨X2.out,X3.out,Y6.out,Y7.out⟩
  clear hK K;(try simp only [y_,z_]);refine aD_ (by kernel_rfl) ?_ _;rw [Hw2.out];have x3:=X3.out;have x2:=X2.out;have y6:=Y6.out;have y7:=Y7.out;rw [Hw2.out] at x3 x2 y6 y7;go_wp2_with fail
  refine wp_region_held_drew (S:=fun w'=>w'.cell? ⟨s,3,none⟩=some (.slice (some ⟨g,0,none⟩) L nc)∧w'.cell? ⟨x,6,none⟩=some (.int .i64 (a:Int))∧w'.cell? ⟨x,7,none⟩=some (.int .i64 (n:Int))) (by kernel_rfl) ⟨x3,y6,y7⟩ (fun hHeld=>?_)
  refine wpT 0 ?_;(try simp only [y_,z_]);refine wpT 1 ?_;(try simp only [y_,z_]);refine wpT 2 ?_;(try simp only [y_,z_]);refine wpT 3 ?_;(try simp only [y_,z_]);refine wpT 4 ?_;(try simp only [y_,z_]);refine wpT 5 ?_;(try simp only [y_,z_]);refine wpT 6 ?_;(try simp only [y_,z_]);refine wpT 7 ?_;(try simp only [y_,z_]);refine wpT 8 ?_;(try simp only [y_,z_]);refine wpT 9 ?_;(try simp only [y_,z_]);refine wpT 10 ?_;(try simp only [y_,z_]);refine wpT 11 ?_;(try simp only [y_,z_]);refine wpT 12 ?_;(try simp only [y_,z_]);refine wpT 13 ?_;(try simp only [y_,z_]);refine wpT 14 ?_;(try simp only [y_,z_]);refine wpT 15 ?_;(try simp only [y_,z_]);refine aR_ (rs:=[16]) (by kernel_rfl) (by simp) ?_;refine aC_ rfl (fun K hK=>?_) aN_;go_simp;refine hK.out _ _ ?_ (fun hHeld=>?_)
  ·exact ⟨u_ (S:=(·=g)) x3 ((updCell w2 g (a+n - 1) (b8 b0)).drewN 1) hne,u_ (S:=(·=g)) y6 ((updCell w2 g (a+n - 1) (b8 b0)).drewN 1) hxg,u_ (S:=(·=g)) y7 ((updCell w2 g (a+n - 1) (b8 b0)).drewN 1) hxg⟩
  clear hK K;(try simp only [y_,z_]);refine aD_ (by kernel_rfl) ?_ _;have uS:=(updCell w2 g (a+n - 1) (b8 b0)).drewN 1;have US:=h_ uS;obtain ⟨w3,Hw3⟩:=nm ((w2.setCell ⟨g,a+n - 1,none⟩ (b8 b0)).drewN 1);have x2':=u_ (S:=(·=g)) x2 uS hne;have y6':=u_ (S:=(·=g)) y6 uS hxg;have oc':=u_ (S:=(·=g)) OC2.out uS hfo;have HT3:=h_ ((HT2.out.set (a+n - 1) b0).upd (S:=Non) (Upd.refl.drewN 1) (fun f=>f) (fun f=>f) (fun _ _ _ f=>f));rw [Hw3.out] at x2' y6' oc' US HT3;rw [show (w2.setCell ⟨g,a+n - 1,none⟩ (.int .u8 (bW b0))).drew=w3 from Hw3.out];clear hHeld;go_wp2_with fail
  refine wp_region_held_drew (S:=fun w'=>w'.cell? ⟨s,2,none⟩=some (.slice (some ⟨ob,oo,none⟩) L oc)∧w'.cell? ⟨x,6,none⟩=some (.int .i64 (a:Int))∧w'.cell? ⟨ob,oo+a,none⟩=some (.int .u8 (bW o))) (by kernel_rfl) ⟨x2',y6',oc'⟩ (fun hHeld=>?_)
  refine wpT 0 ?_;(try simp only [y_,z_]);refine wpT 1 ?_;(try simp only [y_,z_]);refine wpT 2 ?_;(try simp only [y_,z_]);refine wpT 3 ?_;(try simp only [y_,z_]);refine wpT 4 ?_;(try simp only [y_,z_]);refine wpT 5 ?_;(try simp only [y_,z_]);refine wpT 6 ?_;(try simp only [y_,z_]);refine wpT 7 ?_;(try simp only [y_,z_]);refine wpT 8 ?_;(try simp only [y_,z_]);refine wpT 9 ?_;(try simp only [y_,z_]);refine wpT 10 ?_;(try simp only [y_,z_]);refine aD_ (by kernel_rfl) ?_ _;go_wp2_with fail
  go_ret
  have e1:spl N a (mt++[b0])=(spl N a mt).set (a+n - 1) b0:=by
   rw [←spl_spl (by rw [List.length_singleton];omega),hml,show a+(n - 1)=a+n - 1 by omega,←spl_one b0 (by rw [spl_len (by omega)];omega)]
  refine ⟨by rw [HR1.out];rfl,?_,((U2.out.trans US.out (fun _ _ h=>h)).drewN 1)⟩;rw [HR2.out,e1];exact HT3.out.upd (S:=Non) (Upd.refl.drewN 1) (fun f=>f) (fun f=>f) (fun _ _ _ f=>f)
theorem drop_two {O:List Bool} {a:Nat} (h:a+1<O.length):(O.drop a).take 2=[O.getD a false,O.getD (a+1) false]:=by
 have h0:a<O.length:=by omega
 rw [List.drop_eq_getElem_cons h0,List.drop_eq_getElem_cons h,List.getD_eq_getElem?_getD,List.getElem?_eq_getElem h0,List.getD_eq_getElem?_getD,List.getElem?_eq_getElem h]
 rfl
theorem spl_two {N:List Bool} {a:Nat} {g:Bool} (h:a+1<N.length) (hg:N.getD a false=g) (m:Bool):spl N a [g,m]=N.set (a+1) m:=by
 have e:=spl_spl (N:=N) (a:=a) (m1:=[g]) (m2:=[m]) (by simp;omega)
 have e0:spl N a [g]=N:=by
  rw [←spl_one g (by omega),←hg,List.getD_eq_getElem?_getD,List.getElem?_eq_getElem (show a<N.length by omega)];simp
 rw [e0,List.length_singleton] at e;rw [spl_one m h,e];rfl
theorem set_same {N:List Bool} {a:Nat} {g:Bool} (h:a<N.length) (hg:N.getD a false=g):N.set a g=N:=by
 rw [←hg,List.getD_eq_getElem?_getD,List.getElem?_eq_getElem h];simp
theorem bW_ne {a b:Bool} (h:a≠b):(bW a != bW b)=true:=by cases a <;> cases b <;> first | exact absurd rfl h | rfl
set_option maxRecDepth 100000 in
set_option maxHeartbeats 16000000 in
theorem aCompB_c {w:World} {F:Nat→Prop} {s k h:Nat} {OA:Option Addr} {oc g nc:Nat} {O N:List Bool} (T:TrS w F s k h OA oc g nc O N) {x:Nat} {op:Int} {a n:Nat} (hx:OpX w x op a n) (hxg:x≠g) (ha:a+1<O.length)
  (hl:O.length≤1000000) (hop:op=15∨op=16∨op=17∨op=18∨op=19) (hk:k<64) (h0:N.getD a false=O.getD a false) (h1:N.getD (a+1) false=O.getD (a+1) false) (imm:Int) (b0 b1 b2:Bool) :
  Calls Tryz.prog 186 #[pp s,pp x,.agg #[b8 b0,b8 b1,b8 b2]] w fun e w'=>e=.returned (b8 (opB k op imm ((O.drop a).take 2) b0 b1 b2).1)∧TrS w' F s k h OA oc g nc O (spl N a (opB k op imm ((O.drop a).take 2) b0 b1 b2).2)∧Upd (·=g) w w':=by
 rw [drop_two ha];obtain ⟨v,imm',iv,KK,CC,hxb⟩:=hx.blk;obtain ⟨ob,oo,rfl,hFo,hob,hoc⟩:=T.old.at_ (k:=a) (by rw [b8s_len];omega)
 have hcell:w.cell? ⟨ob,oo+a,none⟩=some (b8 (O.getD a false)):=by
  rw [hoc];have:=b8s_get (l:=O) (i:=a) (by omega);rw [List.getElem?_eq_getElem (by rw [b8s_len];omega)] at this;exact this
 have hN:a+1<N.length:=by rw [T.len];exact ha
 have HNL:=h_ hN
 have hNc:w.cell? ⟨g,a+1,none⟩=some (b8 (O.getD (a+1) false)):=by
  rw [T.own.cell_ (i:=a+1) (by rw [b8s_len];exact hN)];have:=b8s_get (l:=N) (i:=a+1) hN;rw [List.getElem?_eq_getElem (by rw [b8s_len];exact hN)] at this;rw [←h1];exact this
 have H0:=h_ h0;have H1:=h_ h1;obtain ⟨W,HW⟩:=nm (w.alloc (.cells #[b8 b0,b8 b1,b8 b2] 231));have u1:Upd Non w W:=by rw [←HW.out];exact Upd.refl.alloc _
 have hv:Blk W w.heap.size 231 #[b8 b0,b8 b1,b8 b2]:=by rw [←HW.out];exact Blk.new _ _ _
 have e0:=HW.out;have hsb:=T.blk.upd u1 (fun f=>f);have hxw:=hxb.upd u1 (fun f=>f);have x0:=hsb.cell 0;have x2:=hsb.cell 2;have x3:=hsb.cell 3;have y1:=hxw.cell 1;have y6:=hxw.cell 6;have z0:=hv.cell 0;have z1:=hv.cell 1;have hc2:=u_ hcell u1 (fun f=>f);have hNl:=T.len;obtain ⟨gg,Hgg⟩:=nm (O.getD a false);obtain ⟨mm,Hmm⟩:=nm (O.getD (a+1) false);have HG0:Hid (N.getD a false=gg):=H0.out.trans Hgg.out;have HM0:Hid (N.getD (a+1) false=mm):=H1.out.trans Hmm.out;rw [Hgg.out] at hc2 ⊢;rw [Hmm.out] at hNc ⊢;have hNW:=u_ hNc u1 (fun f=>f);have hNfW:=(T.own.upd u1 (fun _ _ f=>f)).frozen_ (a+1);have TW:=h_ (T.upd u1 (fun f=>f) (fun f=>f) (fun _ _ _ f=>f));have hne:s≠g:=T.ne;have hfo:ob≠g:=T.far ob hFo;have hvg:w.heap.size≠g:=by have:=T.own.lt (At.some_.2 rfl);omega
 obtain ⟨L,HL⟩:=nm O.length;rw [HL.out] at hNl ha hl x2;rw [hNl] at x3;have ai0:(0:Int)≤(a:Int):=by omega
 have ai1:(a:Int)<(L:Int):=by omega
 have q1:IntKind.i64.wrap ((a:Int)+1)=(a:Int)+1:=i64w_of (by unfold I64;omega);have q2:(0:Int)≤(a:Int)+1:=by omega
 have q3:(a:Int)+1<(L:Int):=by omega
 have q4:((a:Int)+1).toNat=a+1:=by omega
 unfold b8 at hc2 z0 z1 e0 hNW;clear hcell hNc hoc hxb hsb hv hNl HW hob h0 h1 hN;by_cases hop2:op=15∨op=16
 ·have HR1:Hid ((opB k op imm [gg,mm] b0 b1 b2).1=(decide (k=0)&&gg)):=by rcases hop2 with rfl | rfl <;> rfl
  have HR2:Hid ((opB k op imm [gg,mm] b0 b1 b2).2=[gg,mm&&(b0==b1)]):=by rcases hop2 with rfl | rfl <;> rfl
  clear hop;by_cases hb:b0=b1
  ·subst hb;have HR3:Hid ((opB k op imm [gg,mm] b0 b0 b2).2=[gg,mm]):=by show _=_;rw [HR2.out];simp
   have HT2:Hid (TrS W F s k h (some ⟨ob,oo,none⟩) oc g nc O (spl N a [gg,mm])):=by
    show TrS _ _ _ _ _ _ _ _ _ _ _;rw [spl_two HNL.out HG0.out,set_same HNL.out HM0.out];exact TW.out
   have tb:(bW b0 != bW b0)=false:=by simp
   have f2:=x2;have f6:=y6;have fc:=hc2;by_cases hk0:0<k
   ·have tk:decide ((k:Int) > 0)=true:=dT_ (by omega);have HR4:Hid ((opB k op imm [gg,mm] b0 b0 b2).1=false):=by show _=_;rw [HR1.out,dF_ (by omega)];rfl
    rcases hop2 with rfl | rfl
    all_goals
     unfold pp b8;go_enter Tryz.func186,Tryz.ntmps186;go_wp2_with fail
     refine wp_region_held_drew (S:=fun w'=>w'.cell? ⟨s,3,none⟩=some (.slice (some ⟨g,0,none⟩) L nc)∧w'.cell? ⟨x,6,none⟩=some (.int .i64 (a:Int))) (by kernel_rfl) ⟨x3,y6⟩ (fun hHeld=>?_)
     refine wpT 0 ?_;(try simp only [y_,z_]);refine wpT 1 ?_;(try simp only [y_,z_]);refine wpT 2 ?_;(try simp only [y_,z_]);refine wpT 3 ?_;(try simp only [y_,z_]);refine wpT 4 ?_;(try simp only [y_,z_]);refine wpT 5 ?_;(try simp only [y_,z_]);refine wpT 6 ?_;(try simp only [y_,z_]);refine wpT 7 ?_;(try simp only [y_,z_]);refine wpT 8 ?_;(try simp only [y_,z_]);refine wpT 9 ?_;(try simp only [y_,z_]);refine wpT 10 ?_;(try simp only [y_,z_]);refine aD_ (by kernel_rfl) ?_ _;go_wp2_with fail
     go_ret;exact ⟨by rw [HR4.out];rfl,by rw [HR3.out];exact HT2.out.upd (S:=Non) (Upd.refl.drewN 1) (fun f=>f) (fun f=>f) (fun _ _ _ f=>f),(u1.mono (fun _ _ f=>f.elim)).drewN 1⟩
   ·have tk:decide ((k:Int) > 0)=false:=dF_ (by omega);have HR4:Hid ((opB k op imm [gg,mm] b0 b0 b2).1=gg):=by show _=_;rw [HR1.out,dT_ (by omega)];rfl
    rcases hop2 with rfl | rfl
    all_goals
     unfold pp b8;go_enter Tryz.func186,Tryz.ntmps186;go_wp2_with fail
     refine wp_region_held_drew (S:=fun w'=>w'.cell? ⟨s,3,none⟩=some (.slice (some ⟨g,0,none⟩) L nc)∧w'.cell? ⟨x,6,none⟩=some (.int .i64 (a:Int))) (by kernel_rfl) ⟨x3,y6⟩ (fun hHeld=>?_)
     refine wpT 0 ?_;(try simp only [y_,z_]);refine wpT 1 ?_;(try simp only [y_,z_]);refine wpT 2 ?_;(try simp only [y_,z_]);refine wpT 3 ?_;(try simp only [y_,z_]);refine wpT 4 ?_;(try simp only [y_,z_]);refine wpT 5 ?_;(try simp only [y_,z_]);refine wpT 6 ?_;(try simp only [y_,z_]);refine wpT 7 ?_;(try simp only [y_,z_]);refine wpT 8 ?_;(try simp only [y_,z_]);refine wpT 9 ?_;(try simp only [y_,z_]);refine wpT 10 ?_;(try simp only [y_,z_]);refine aD_ (by kernel_rfl) ?_ _;go_wp2_with fail
     refine wp_region_held_drew (S:=fun w'=>w'.cell? ⟨s,2,none⟩=some (.slice (some ⟨ob,oo,none⟩) L oc)∧w'.cell? ⟨x,6,none⟩=some (.int .i64 (a:Int))∧w'.cell? ⟨ob,oo+a,none⟩=some (.int .u8 (bW gg))) (by kernel_rfl) ⟨f2,f6,fc⟩ (fun hHeld=>?_)
     refine wpT 0 ?_;(try simp only [y_,z_]);refine wpT 1 ?_;(try simp only [y_,z_]);refine wpT 2 ?_;(try simp only [y_,z_]);refine wpT 3 ?_;(try simp only [y_,z_]);refine wpT 4 ?_;(try simp only [y_,z_]);refine wpT 5 ?_;(try simp only [y_,z_]);refine wpT 6 ?_;(try simp only [y_,z_]);refine wpT 7 ?_;(try simp only [y_,z_]);refine wpT 8 ?_;(try simp only [y_,z_]);refine wpT 9 ?_;(try simp only [y_,z_]);refine wpT 10 ?_;(try simp only [y_,z_]);refine aD_ (by kernel_rfl) ?_ _;go_wp2_with fail
     go_ret;exact ⟨by rw [HR4.out];rfl,by rw [HR3.out];exact HT2.out.upd (S:=Non) (Upd.refl.drewN 2) (fun f=>f) (fun f=>f) (fun _ _ _ f=>f),(u1.mono (fun _ _ f=>f.elim)).drewN 2⟩
  ·have HR3:Hid ((opB k op imm [gg,mm] b0 b1 b2).2=[gg,false]):=by show _=_;rw [HR2.out,show (b0==b1)=false by simpa using hb,Bool.and_false]
   have HT2:Hid (TrS (W.setCell ⟨g,a+1,none⟩ (b8 false)) F s k h (some ⟨ob,oo,none⟩) oc g nc O (spl N a [gg,false])):=by
    show TrS _ _ _ _ _ _ _ _ _ _ _;rw [spl_two HNL.out HG0.out];exact TW.out.set _ _
   have tb:(bW b0 != bW b1)=true:=bW_ne hb;have u2:=updCell W g (a+1) (b8 false);have f2:=u_ (S:=(·=g)) x2 u2 hne;have f6:=u_ (S:=(·=g)) y6 u2 hxg;have fc:=u_ (S:=(·=g)) hc2 u2 hfo;have U2:Hid (Upd (·=g) w (W.setCell ⟨g,a+1,none⟩ (b8 false))):=(u1.mono (fun _ _ f=>f.elim)).trans u2 (fun _ _ q=>q);clear u2 hb;by_cases hk0:0<k
   ·have tk:decide ((k:Int) > 0)=true:=dT_ (by omega);have HR4:Hid ((opB k op imm [gg,mm] b0 b1 b2).1=false):=by show _=_;rw [HR1.out,dF_ (by omega)];rfl
    rcases hop2 with rfl | rfl
    all_goals
     unfold pp b8;go_enter Tryz.func186,Tryz.ntmps186;go_wp2_with fail
     refine wp_region_held_drew (S:=fun w'=>w'.cell? ⟨s,3,none⟩=some (.slice (some ⟨g,0,none⟩) L nc)∧w'.cell? ⟨x,6,none⟩=some (.int .i64 (a:Int))) (by kernel_rfl) ⟨x3,y6⟩ (fun hHeld=>?_)
     refine wpT 0 ?_;(try simp only [y_,z_]);refine wpT 1 ?_;(try simp only [y_,z_]);refine wpT 2 ?_;(try simp only [y_,z_]);refine wpT 3 ?_;(try simp only [y_,z_]);refine wpT 4 ?_;(try simp only [y_,z_]);refine wpT 5 ?_;(try simp only [y_,z_]);refine wpT 6 ?_;(try simp only [y_,z_]);refine wpT 7 ?_;(try simp only [y_,z_]);refine wpT 8 ?_;(try simp only [y_,z_]);refine wpT 9 ?_;(try simp only [y_,z_]);refine wpT 10 ?_;(try simp only [y_,z_]);refine aD_ (by kernel_rfl) ?_ _;go_wp2_with fail
     go_ret;exact ⟨by rw [HR4.out];rfl,by rw [HR3.out];exact HT2.out.upd (S:=Non) (Upd.refl.drewN 1) (fun f=>f) (fun f=>f) (fun _ _ _ f=>f),U2.out.drewN 1⟩
   ·have tk:decide ((k:Int) > 0)=false:=dF_ (by omega);have HR4:Hid ((opB k op imm [gg,mm] b0 b1 b2).1=gg):=by show _=_;rw [HR1.out,dT_ (by omega)];rfl
    rcases hop2 with rfl | rfl
    all_goals
     unfold pp b8;go_enter Tryz.func186,Tryz.ntmps186;go_wp2_with fail
     refine wp_region_held_drew (S:=fun w'=>w'.cell? ⟨s,3,none⟩=some (.slice (some ⟨g,0,none⟩) L nc)∧w'.cell? ⟨x,6,none⟩=some (.int .i64 (a:Int))) (by kernel_rfl) ⟨x3,y6⟩ (fun hHeld=>?_)
     refine wpT 0 ?_;(try simp only [y_,z_]);refine wpT 1 ?_;(try simp only [y_,z_]);refine wpT 2 ?_;(try simp only [y_,z_]);refine wpT 3 ?_;(try simp only [y_,z_]);refine wpT 4 ?_;(try simp only [y_,z_]);refine wpT 5 ?_;(try simp only [y_,z_]);refine wpT 6 ?_;(try simp only [y_,z_]);refine wpT 7 ?_;(try simp only [y_,z_]);refine wpT 8 ?_;(try simp only [y_,z_]);refine wpT 9 ?_;(try simp only [y_,z_]);refine wpT 10 ?_;(try simp only [y_,z_]);refine aD_ (by kernel_rfl) ?_ _;go_wp2_with fail
     refine wp_region_held_drew (S:=fun w'=>w'.cell? ⟨s,2,none⟩=some (.slice (some ⟨ob,oo,none⟩) L oc)∧w'.cell? ⟨x,6,none⟩=some (.int .i64 (a:Int))∧w'.cell? ⟨ob,oo+a,none⟩=some (.int .u8 (bW gg))) (by kernel_rfl) ⟨f2,f6,fc⟩ (fun hHeld=>?_)
     refine wpT 0 ?_;(try simp only [y_,z_]);refine wpT 1 ?_;(try simp only [y_,z_]);refine wpT 2 ?_;(try simp only [y_,z_]);refine wpT 3 ?_;(try simp only [y_,z_]);refine wpT 4 ?_;(try simp only [y_,z_]);refine wpT 5 ?_;(try simp only [y_,z_]);refine wpT 6 ?_;(try simp only [y_,z_]);refine wpT 7 ?_;(try simp only [y_,z_]);refine wpT 8 ?_;(try simp only [y_,z_]);refine wpT 9 ?_;(try simp only [y_,z_]);refine wpT 10 ?_;(try simp only [y_,z_]);refine aD_ (by kernel_rfl) ?_ _;go_wp2_with fail
     go_ret;exact ⟨by rw [HR4.out];rfl,by rw [HR3.out];exact HT2.out.upd (S:=Non) (Upd.refl.drewN 2) (fun f=>f) (fun f=>f) (fun _ _ _ f=>f),U2.out.drewN 2⟩
 ·have hop3:op=17∨op=18∨op=19:=by omega
  have HR1:Hid ((opB k op imm [gg,mm] b0 b1 b2).1=(decide (k=0)&&gg)):=by rcases hop3 with rfl | rfl | rfl <;> rfl
  have HR2:Hid ((opB k op imm [gg,mm] b0 b1 b2).2=[gg,ordB mm b0 b1 (decide (k=63∧op≠19))]):=by rcases hop3 with rfl | rfl | rfl <;> rfl
  clear hop hop2;obtain ⟨sg,Hsg⟩:=nm (decide (k=63∧op≠19));rw [Hsg.out] at HR2;obtain ⟨cc,Hcc⟩:=nm (ordB mm b0 b1 sg);rw [Hcc.out] at HR2;have CO:=h_ (fun W=>aOrderFlag_c mm b0 b1 sg W);rw [Hcc.out] at CO
  have HT2:Hid (TrS (W.setCell ⟨g,a+1,none⟩ (b8 cc)) F s k h (some ⟨ob,oo,none⟩) oc g nc O (spl N a [gg,cc])):=by
   show TrS _ _ _ _ _ _ _ _ _ _ _;rw [spl_two HNL.out HG0.out];exact TW.out.set _ _
  have u2:=updCell W g (a+1) (b8 cc);have f0:=u_ (S:=(·=g)) x0 u2 hne;have f2:=u_ (S:=(·=g)) x2 u2 hne;have f6:=u_ (S:=(·=g)) y6 u2 hxg;have fc:=u_ (S:=(·=g)) hc2 u2 hfo;have F1:=h_ (u_ (S:=(·=g)) y1 u2 hxg);have G0:=h_ (u_ (S:=(·=g)) z0 u2 hvg);have G1:=h_ (u_ (S:=(·=g)) z1 u2 hvg);have U2:Hid (Upd (·=g) w (W.setCell ⟨g,a+1,none⟩ (b8 cc))):=(u1.mono (fun _ _ f=>f.elim)).trans u2 (fun _ _ q=>q);clear u2;by_cases h63:k=63
  ·have T63:Hid (((k:Int)==63)=true):=by show _=_;simp;omega
   have hk0:0<k:=by omega
   have tk:decide ((k:Int) > 0)=true:=dT_ (by omega);have HR4:Hid ((opB k op imm [gg,mm] b0 b1 b2).1=false):=by show _=_;rw [HR1.out,dF_ (by omega)];rfl
   rcases hop3 with rfl | rfl | rfl
   ·have hsg:sg=true:=by rw [←Hsg.out];exact dT_ ⟨h63,by decide⟩
    subst hsg;clear h63 Hsg;unfold pp b8;go_enter Tryz.func186,Tryz.ntmps186;go_wp2_with fail
    refine wp_region_held_drew (S:=fun w'=>w'.cell? ⟨s,3,none⟩=some (.slice (some ⟨g,0,none⟩) L nc)∧w'.cell? ⟨x,6,none⟩=some (.int .i64 (a:Int))) (by kernel_rfl) ⟨x3,y6⟩ (fun hHeld=>?_)
    refine wpT 0 ?_;(try simp only [y_,z_]);refine wpT 1 ?_;(try simp only [y_,z_]);refine wpT 2 ?_;(try simp only [y_,z_]);refine wpT 3 ?_;(try simp only [y_,z_]);refine wpT 4 ?_;(try simp only [y_,z_]);refine wpT 5 ?_;(try simp only [y_,z_]);refine wpT 6 ?_;(try simp only [y_,z_]);refine wpT 7 ?_;(try simp only [y_,z_]);refine wpT 8 ?_;(try simp only [y_,z_]);refine wpT 9 ?_;(try simp only [y_,z_]);refine wpT 10 ?_;(try simp only [y_,z_]);refine aD_ (by kernel_rfl) ?_ _;go_wp2_with fail
    refine wp_region_held_drew (S:=fun w'=>w'.cell? ⟨w.heap.size,0,none⟩=some (.int .u8 (bW b0))∧w'.cell? ⟨w.heap.size,1,none⟩=some (.int .u8 (bW b1))∧w'.cell? ⟨s,0,none⟩=some (.int .i64 (k:Int))∧w'.cell? ⟨x,1,none⟩=some (.int .i64 17)) (by kernel_rfl) ⟨z0,z1,x0,y1⟩ (fun hHeld=>?_)
    refine wpT 0 ?_;(try simp only [y_,z_]);refine wpT 1 ?_;(try simp only [y_,z_]);refine wpT 2 ?_;(try simp only [y_,z_]);have t63:=T63.out;refine wpT 4 ?_;(try simp only [y_,z_]);refine wpT 5 ?_;(try simp only [y_,z_]);refine wpT 6 ?_;(try simp only [y_,z_]);refine wpT 7 ?_;(try simp only [y_,z_]);refine wpT 8 ?_;(try simp only [y_,z_]);refine wpT 9 ?_;(try simp only [y_,z_]);refine wpT 10 ?_;(try simp only [y_,z_]);refine wpT 11 ?_;(try simp only [y_,z_]);refine wpT 12 ?_;(try simp only [y_,z_]);refine wpT 13 ?_;(try simp only [y_,z_]);clear t63;refine wpT 14 ?_;(try simp only [y_,z_]);refine wpT 15 ?_;(try simp only [y_,z_]);refine wpT 16 ?_;(try simp only [y_,z_]);refine wpT 17 ?_;(try simp only [y_,z_]);refine wpT 18 ?_;(try simp only [y_,z_]);refine wpT 19 ?_;(try simp only [y_,z_]);refine wpT 20 ?_;(try simp only [y_,z_])
    refine wpAnyH_takeM (fun w'=>w'.cell? ⟨g,a+1,none⟩=some (.int .u8 (bW mm))) (calm_cell _ _) [21,22,23] (i:=3) (v:=?_) rfl (by kernel_rfl) (by kernel_rfl) (by kernel_rfl) (by kernel_rfl) (fun _ _ _ h=>h) (Or.inl ⟨by rfl,?_⟩) (hNW) (by assumption) ?_
    rotate_left
    ·intro w hSw;(try dsimp only at hSw);go_simp;try with_reducible rfl
    (try simp only [y_,z_]);refine aR_ (rs:=[21]) (by kernel_rfl) (by simp) ?_;refine aC_ rfl (fun K hK=>?_) aN_;go_simp;refine (CO.out _).mono ?_;rintro e w' ⟨rfl,rfl⟩;go_wp2_with fail
    refine hK.out _ _ ?_ (fun hHeld=>?_)
    ·exact hHeld
    clear hK K;(try simp only [y_,z_]);refine wpT 22 ?_;(try simp only [y_,z_]);refine aR_ (rs:=[23]) (by kernel_rfl) (by simp) ?_;refine aC_ rfl (fun K hK=>?_) aN_;go_simp;refine hK.out _ _ ?_ (fun hHeld=>?_)
    ·exact ⟨G0.out,G1.out,f0,F1.out⟩
    clear hK K;(try simp only [y_,z_]);refine aD_ (by kernel_rfl) ?_ _;go_wp2_with fail
    go_ret;exact ⟨by rw [HR4.out];rfl,by rw [HR2.out];exact HT2.out.upd (S:=Non) (Upd.refl.drewN 2) (fun f=>f) (fun f=>f) (fun _ _ _ f=>f),U2.out.drewN 2⟩
   ·have hsg:sg=true:=by rw [←Hsg.out];exact dT_ ⟨h63,by decide⟩
    subst hsg;clear h63 Hsg;unfold pp b8;go_enter Tryz.func186,Tryz.ntmps186;go_wp2_with fail
    refine wp_region_held_drew (S:=fun w'=>w'.cell? ⟨s,3,none⟩=some (.slice (some ⟨g,0,none⟩) L nc)∧w'.cell? ⟨x,6,none⟩=some (.int .i64 (a:Int))) (by kernel_rfl) ⟨x3,y6⟩ (fun hHeld=>?_)
    refine wpT 0 ?_;(try simp only [y_,z_]);refine wpT 1 ?_;(try simp only [y_,z_]);refine wpT 2 ?_;(try simp only [y_,z_]);refine wpT 3 ?_;(try simp only [y_,z_]);refine wpT 4 ?_;(try simp only [y_,z_]);refine wpT 5 ?_;(try simp only [y_,z_]);refine wpT 6 ?_;(try simp only [y_,z_]);refine wpT 7 ?_;(try simp only [y_,z_]);refine wpT 8 ?_;(try simp only [y_,z_]);refine wpT 9 ?_;(try simp only [y_,z_]);refine wpT 10 ?_;(try simp only [y_,z_]);refine aD_ (by kernel_rfl) ?_ _;go_wp2_with fail
    refine wp_region_held_drew (S:=fun w'=>w'.cell? ⟨w.heap.size,0,none⟩=some (.int .u8 (bW b0))∧w'.cell? ⟨w.heap.size,1,none⟩=some (.int .u8 (bW b1))∧w'.cell? ⟨s,0,none⟩=some (.int .i64 (k:Int))∧w'.cell? ⟨x,1,none⟩=some (.int .i64 18)) (by kernel_rfl) ⟨z0,z1,x0,y1⟩ (fun hHeld=>?_)
    refine wpT 0 ?_;(try simp only [y_,z_]);refine wpT 1 ?_;(try simp only [y_,z_]);refine wpT 2 ?_;(try simp only [y_,z_]);have t63:=T63.out;refine wpT 4 ?_;(try simp only [y_,z_]);refine wpT 5 ?_;(try simp only [y_,z_]);refine wpT 6 ?_;(try simp only [y_,z_]);refine wpT 7 ?_;(try simp only [y_,z_]);refine wpT 8 ?_;(try simp only [y_,z_]);refine wpT 9 ?_;(try simp only [y_,z_]);refine wpT 10 ?_;(try simp only [y_,z_]);refine wpT 11 ?_;(try simp only [y_,z_]);refine wpT 12 ?_;(try simp only [y_,z_]);refine wpT 13 ?_;(try simp only [y_,z_]);clear t63;refine wpT 14 ?_;(try simp only [y_,z_]);refine wpT 15 ?_;(try simp only [y_,z_]);refine wpT 16 ?_;(try simp only [y_,z_]);refine wpT 17 ?_;(try simp only [y_,z_]);refine wpT 18 ?_;(try simp only [y_,z_]);refine wpT 19 ?_;(try simp only [y_,z_]);refine wpT 20 ?_;(try simp only [y_,z_])
    refine wpAnyH_takeM (fun w'=>w'.cell? ⟨g,a+1,none⟩=some (.int .u8 (bW mm))) (calm_cell _ _) [21,22,23] (i:=3) (v:=?_) rfl (by kernel_rfl) (by kernel_rfl) (by kernel_rfl) (by kernel_rfl) (fun _ _ _ h=>h) (Or.inl ⟨by rfl,?_⟩) (hNW) (by assumption) ?_
    rotate_left
    ·intro w hSw;(try dsimp only at hSw);go_simp;try with_reducible rfl
    (try simp only [y_,z_]);refine aR_ (rs:=[21]) (by kernel_rfl) (by simp) ?_;refine aC_ rfl (fun K hK=>?_) aN_;go_simp;refine (CO.out _).mono ?_;rintro e w' ⟨rfl,rfl⟩;go_wp2_with fail
    refine hK.out _ _ ?_ (fun hHeld=>?_)
    ·exact hHeld
    clear hK K;(try simp only [y_,z_]);refine wpT 22 ?_;(try simp only [y_,z_]);refine aR_ (rs:=[23]) (by kernel_rfl) (by simp) ?_;refine aC_ rfl (fun K hK=>?_) aN_;go_simp;refine hK.out _ _ ?_ (fun hHeld=>?_)
    ·exact ⟨G0.out,G1.out,f0,F1.out⟩
    clear hK K;(try simp only [y_,z_]);refine aD_ (by kernel_rfl) ?_ _;go_wp2_with fail
    go_ret;exact ⟨by rw [HR4.out];rfl,by rw [HR2.out];exact HT2.out.upd (S:=Non) (Upd.refl.drewN 2) (fun f=>f) (fun f=>f) (fun _ _ _ f=>f),U2.out.drewN 2⟩
   ·have hsg:sg=false:=by rw [←Hsg.out];exact dF_ (fun q=>q.2 rfl)
    subst hsg;clear h63 Hsg;unfold pp b8;go_enter Tryz.func186,Tryz.ntmps186;go_wp2_with fail
    refine wp_region_held_drew (S:=fun w'=>w'.cell? ⟨s,3,none⟩=some (.slice (some ⟨g,0,none⟩) L nc)∧w'.cell? ⟨x,6,none⟩=some (.int .i64 (a:Int))) (by kernel_rfl) ⟨x3,y6⟩ (fun hHeld=>?_)
    refine wpT 0 ?_;(try simp only [y_,z_]);refine wpT 1 ?_;(try simp only [y_,z_]);refine wpT 2 ?_;(try simp only [y_,z_]);refine wpT 3 ?_;(try simp only [y_,z_]);refine wpT 4 ?_;(try simp only [y_,z_]);refine wpT 5 ?_;(try simp only [y_,z_]);refine wpT 6 ?_;(try simp only [y_,z_]);refine wpT 7 ?_;(try simp only [y_,z_]);refine wpT 8 ?_;(try simp only [y_,z_]);refine wpT 9 ?_;(try simp only [y_,z_]);refine wpT 10 ?_;(try simp only [y_,z_]);refine aD_ (by kernel_rfl) ?_ _;go_wp2_with fail
    refine wp_region_held_drew (S:=fun w'=>w'.cell? ⟨w.heap.size,0,none⟩=some (.int .u8 (bW b0))∧w'.cell? ⟨w.heap.size,1,none⟩=some (.int .u8 (bW b1))∧w'.cell? ⟨s,0,none⟩=some (.int .i64 (k:Int))∧w'.cell? ⟨x,1,none⟩=some (.int .i64 19)) (by kernel_rfl) ⟨z0,z1,x0,y1⟩ (fun hHeld=>?_)
    refine wpT 0 ?_;(try simp only [y_,z_]);refine wpT 1 ?_;(try simp only [y_,z_]);refine wpT 2 ?_;(try simp only [y_,z_]);have t63:=T63.out;refine wpT 4 ?_;(try simp only [y_,z_]);refine wpT 5 ?_;(try simp only [y_,z_]);refine wpT 6 ?_;(try simp only [y_,z_]);refine wpT 7 ?_;(try simp only [y_,z_]);refine wpT 8 ?_;(try simp only [y_,z_]);refine wpT 9 ?_;(try simp only [y_,z_]);refine wpT 10 ?_;(try simp only [y_,z_]);refine wpT 11 ?_;(try simp only [y_,z_]);refine wpT 12 ?_;(try simp only [y_,z_]);refine wpT 13 ?_;(try simp only [y_,z_]);clear t63;refine wpT 14 ?_;(try simp only [y_,z_]);refine wpT 15 ?_;(try simp only [y_,z_]);refine wpT 16 ?_;(try simp only [y_,z_]);refine wpT 17 ?_;(try simp only [y_,z_]);refine wpT 18 ?_;(try simp only [y_,z_]);refine wpT 19 ?_;(try simp only [y_,z_]);refine wpT 20 ?_;(try simp only [y_,z_])
    refine wpAnyH_takeM (fun w'=>w'.cell? ⟨g,a+1,none⟩=some (.int .u8 (bW mm))) (calm_cell _ _) [21,22,23] (i:=3) (v:=?_) rfl (by kernel_rfl) (by kernel_rfl) (by kernel_rfl) (by kernel_rfl) (fun _ _ _ h=>h) (Or.inl ⟨by rfl,?_⟩) (hNW) (by assumption) ?_
    rotate_left
    ·intro w hSw;(try dsimp only at hSw);go_simp;try with_reducible rfl
    (try simp only [y_,z_]);refine aR_ (rs:=[21]) (by kernel_rfl) (by simp) ?_;refine aC_ rfl (fun K hK=>?_) aN_;go_simp;refine (CO.out _).mono ?_;rintro e w' ⟨rfl,rfl⟩;go_wp2_with fail
    refine hK.out _ _ ?_ (fun hHeld=>?_)
    ·exact hHeld
    clear hK K;(try simp only [y_,z_]);refine wpT 22 ?_;(try simp only [y_,z_]);refine aR_ (rs:=[23]) (by kernel_rfl) (by simp) ?_;refine aC_ rfl (fun K hK=>?_) aN_;go_simp;refine hK.out _ _ ?_ (fun hHeld=>?_)
    ·exact ⟨G0.out,G1.out,f0,F1.out⟩
    clear hK K;(try simp only [y_,z_]);refine aD_ (by kernel_rfl) ?_ _;go_wp2_with fail
    go_ret;exact ⟨by rw [HR4.out];rfl,by rw [HR2.out];exact HT2.out.upd (S:=Non) (Upd.refl.drewN 2) (fun f=>f) (fun f=>f) (fun _ _ _ f=>f),U2.out.drewN 2⟩
  ·have T63:Hid (((k:Int)==63)=false):=by show _=_;simp;omega
   have hsg:sg=false:=by rw [←Hsg.out];exact dF_ (fun q=>h63 q.1)
   subst hsg;by_cases hk0:0<k
   ·have tk:decide ((k:Int) > 0)=true:=dT_ (by omega);have HR4:Hid ((opB k op imm [gg,mm] b0 b1 b2).1=false):=by show _=_;rw [HR1.out,dF_ (by omega)];rfl
    clear h63 Hsg;rcases hop3 with rfl | rfl | rfl
    ·skip;unfold pp b8;go_enter Tryz.func186,Tryz.ntmps186;go_wp2_with fail
     refine wp_region_held_drew (S:=fun w'=>w'.cell? ⟨s,3,none⟩=some (.slice (some ⟨g,0,none⟩) L nc)∧w'.cell? ⟨x,6,none⟩=some (.int .i64 (a:Int))) (by kernel_rfl) ⟨x3,y6⟩ (fun hHeld=>?_)
     refine wpT 0 ?_;(try simp only [y_,z_]);refine wpT 1 ?_;(try simp only [y_,z_]);refine wpT 2 ?_;(try simp only [y_,z_]);refine wpT 3 ?_;(try simp only [y_,z_]);refine wpT 4 ?_;(try simp only [y_,z_]);refine wpT 5 ?_;(try simp only [y_,z_]);refine wpT 6 ?_;(try simp only [y_,z_]);refine wpT 7 ?_;(try simp only [y_,z_]);refine wpT 8 ?_;(try simp only [y_,z_]);refine wpT 9 ?_;(try simp only [y_,z_]);refine wpT 10 ?_;(try simp only [y_,z_]);refine aD_ (by kernel_rfl) ?_ _;go_wp2_with fail
     refine wp_region_held_drew (S:=fun w'=>w'.cell? ⟨w.heap.size,0,none⟩=some (.int .u8 (bW b0))∧w'.cell? ⟨w.heap.size,1,none⟩=some (.int .u8 (bW b1))∧w'.cell? ⟨s,0,none⟩=some (.int .i64 (k:Int))∧w'.cell? ⟨x,1,none⟩=some (.int .i64 17)) (by kernel_rfl) ⟨z0,z1,x0,y1⟩ (fun hHeld=>?_)
     refine wpT 0 ?_;(try simp only [y_,z_]);refine wpT 1 ?_;(try simp only [y_,z_]);refine wpT 2 ?_;(try simp only [y_,z_]);have t63:=T63.out;refine wpT 4 ?_;(try simp only [y_,z_]);refine wpT 5 ?_;(try simp only [y_,z_]);refine wpT 6 ?_;(try simp only [y_,z_]);refine wpT 7 ?_;(try simp only [y_,z_]);refine wpT 8 ?_;(try simp only [y_,z_]);refine wpT 9 ?_;(try simp only [y_,z_]);refine wpT 10 ?_;(try simp only [y_,z_]);refine wpT 11 ?_;(try simp only [y_,z_]);refine wpT 12 ?_;(try simp only [y_,z_]);refine wpT 13 ?_;(try simp only [y_,z_]);clear t63;refine wpU 14 ?_;(try simp only [y_,z_]);refine wpU 15 ?_;(try simp only [y_,z_]);refine wpU 16 ?_;(try simp only [y_,z_]);refine wpU 17 ?_;(try simp only [y_,z_]);refine wpU 18 ?_;(try simp only [y_,z_]);refine wpU 19 ?_;(try simp only [y_,z_]);refine wpT 20 ?_;(try simp only [y_,z_])
     refine wpAnyH_takeM (fun w'=>w'.cell? ⟨g,a+1,none⟩=some (.int .u8 (bW mm))) (calm_cell _ _) [21,22,23] (i:=3) (v:=?_) rfl (by kernel_rfl) (by kernel_rfl) (by kernel_rfl) (by kernel_rfl) (fun _ _ _ h=>h) (Or.inl ⟨by rfl,?_⟩) (hNW) (by assumption) ?_
     rotate_left
     ·intro w hSw;(try dsimp only at hSw);go_simp;try with_reducible rfl
     (try simp only [y_,z_]);refine aR_ (rs:=[21]) (by kernel_rfl) (by simp) ?_;refine aC_ rfl (fun K hK=>?_) aN_;go_simp;refine (CO.out _).mono ?_;rintro e w' ⟨rfl,rfl⟩;go_wp2_with fail
     refine hK.out _ _ ?_ (fun hHeld=>?_)
     ·exact hHeld
     clear hK K;(try simp only [y_,z_]);refine wpT 22 ?_;(try simp only [y_,z_]);refine aR_ (rs:=[23]) (by kernel_rfl) (by simp) ?_;refine aC_ rfl (fun K hK=>?_) aN_;go_simp;refine hK.out _ _ ?_ (fun hHeld=>?_)
     ·exact ⟨G0.out,G1.out,f0,F1.out⟩
     clear hK K;(try simp only [y_,z_]);refine aD_ (by kernel_rfl) ?_ _;go_wp2_with fail
     go_ret;exact ⟨by rw [HR4.out];rfl,by rw [HR2.out];exact HT2.out.upd (S:=Non) (Upd.refl.drewN 2) (fun f=>f) (fun f=>f) (fun _ _ _ f=>f),U2.out.drewN 2⟩
    ·skip;unfold pp b8;go_enter Tryz.func186,Tryz.ntmps186;go_wp2_with fail
     refine wp_region_held_drew (S:=fun w'=>w'.cell? ⟨s,3,none⟩=some (.slice (some ⟨g,0,none⟩) L nc)∧w'.cell? ⟨x,6,none⟩=some (.int .i64 (a:Int))) (by kernel_rfl) ⟨x3,y6⟩ (fun hHeld=>?_)
     refine wpT 0 ?_;(try simp only [y_,z_]);refine wpT 1 ?_;(try simp only [y_,z_]);refine wpT 2 ?_;(try simp only [y_,z_]);refine wpT 3 ?_;(try simp only [y_,z_]);refine wpT 4 ?_;(try simp only [y_,z_]);refine wpT 5 ?_;(try simp only [y_,z_]);refine wpT 6 ?_;(try simp only [y_,z_]);refine wpT 7 ?_;(try simp only [y_,z_]);refine wpT 8 ?_;(try simp only [y_,z_]);refine wpT 9 ?_;(try simp only [y_,z_]);refine wpT 10 ?_;(try simp only [y_,z_]);refine aD_ (by kernel_rfl) ?_ _;go_wp2_with fail
     refine wp_region_held_drew (S:=fun w'=>w'.cell? ⟨w.heap.size,0,none⟩=some (.int .u8 (bW b0))∧w'.cell? ⟨w.heap.size,1,none⟩=some (.int .u8 (bW b1))∧w'.cell? ⟨s,0,none⟩=some (.int .i64 (k:Int))∧w'.cell? ⟨x,1,none⟩=some (.int .i64 18)) (by kernel_rfl) ⟨z0,z1,x0,y1⟩ (fun hHeld=>?_)
     refine wpT 0 ?_;(try simp only [y_,z_]);refine wpT 1 ?_;(try simp only [y_,z_]);refine wpT 2 ?_;(try simp only [y_,z_]);have t63:=T63.out;refine wpT 4 ?_;(try simp only [y_,z_]);refine wpT 5 ?_;(try simp only [y_,z_]);refine wpT 6 ?_;(try simp only [y_,z_]);refine wpT 7 ?_;(try simp only [y_,z_]);refine wpT 8 ?_;(try simp only [y_,z_]);refine wpT 9 ?_;(try simp only [y_,z_]);refine wpT 10 ?_;(try simp only [y_,z_]);refine wpT 11 ?_;(try simp only [y_,z_]);refine wpT 12 ?_;(try simp only [y_,z_]);refine wpT 13 ?_;(try simp only [y_,z_]);clear t63;refine wpU 14 ?_;(try simp only [y_,z_]);refine wpU 15 ?_;(try simp only [y_,z_]);refine wpU 16 ?_;(try simp only [y_,z_]);refine wpU 17 ?_;(try simp only [y_,z_]);refine wpU 18 ?_;(try simp only [y_,z_]);refine wpU 19 ?_;(try simp only [y_,z_]);refine wpT 20 ?_;(try simp only [y_,z_])
     refine wpAnyH_takeM (fun w'=>w'.cell? ⟨g,a+1,none⟩=some (.int .u8 (bW mm))) (calm_cell _ _) [21,22,23] (i:=3) (v:=?_) rfl (by kernel_rfl) (by kernel_rfl) (by kernel_rfl) (by kernel_rfl) (fun _ _ _ h=>h) (Or.inl ⟨by rfl,?_⟩) (hNW) (by assumption) ?_
     rotate_left
     ·intro w hSw;(try dsimp only at hSw);go_simp;try with_reducible rfl
     (try simp only [y_,z_]);refine aR_ (rs:=[21]) (by kernel_rfl) (by simp) ?_;refine aC_ rfl (fun K hK=>?_) aN_;go_simp;refine (CO.out _).mono ?_;rintro e w' ⟨rfl,rfl⟩;go_wp2_with fail
     refine hK.out _ _ ?_ (fun hHeld=>?_)
     ·exact hHeld
     clear hK K;(try simp only [y_,z_]);refine wpT 22 ?_;(try simp only [y_,z_]);refine aR_ (rs:=[23]) (by kernel_rfl) (by simp) ?_;refine aC_ rfl (fun K hK=>?_) aN_;go_simp;refine hK.out _ _ ?_ (fun hHeld=>?_)
     ·exact ⟨G0.out,G1.out,f0,F1.out⟩
     clear hK K;(try simp only [y_,z_]);refine aD_ (by kernel_rfl) ?_ _;go_wp2_with fail
     go_ret;exact ⟨by rw [HR4.out];rfl,by rw [HR2.out];exact HT2.out.upd (S:=Non) (Upd.refl.drewN 2) (fun f=>f) (fun f=>f) (fun _ _ _ f=>f),U2.out.drewN 2⟩
    ·skip;unfold pp b8;go_enter Tryz.func186,Tryz.ntmps186;go_wp2_with fail
     refine wp_region_held_drew (S:=fun w'=>w'.cell? ⟨s,3,none⟩=some (.slice (some ⟨g,0,none⟩) L nc)∧w'.cell? ⟨x,6,none⟩=some (.int .i64 (a:Int))) (by kernel_rfl) ⟨x3,y6⟩ (fun hHeld=>?_)
     refine wpT 0 ?_;(try simp only [y_,z_]);refine wpT 1 ?_;(try simp only [y_,z_]);refine wpT 2 ?_;(try simp only [y_,z_]);refine wpT 3 ?_;(try simp only [y_,z_]);refine wpT 4 ?_;(try simp only [y_,z_]);refine wpT 5 ?_;(try simp only [y_,z_]);refine wpT 6 ?_;(try simp only [y_,z_]);refine wpT 7 ?_;(try simp only [y_,z_]);refine wpT 8 ?_;(try simp only [y_,z_]);refine wpT 9 ?_;(try simp only [y_,z_]);refine wpT 10 ?_;(try simp only [y_,z_]);refine aD_ (by kernel_rfl) ?_ _;go_wp2_with fail
     refine wp_region_held_drew (S:=fun w'=>w'.cell? ⟨w.heap.size,0,none⟩=some (.int .u8 (bW b0))∧w'.cell? ⟨w.heap.size,1,none⟩=some (.int .u8 (bW b1))∧w'.cell? ⟨s,0,none⟩=some (.int .i64 (k:Int))∧w'.cell? ⟨x,1,none⟩=some (.int .i64 19)) (by kernel_rfl) ⟨z0,z1,x0,y1⟩ (fun hHeld=>?_)
     refine wpT 0 ?_;(try simp only [y_,z_]);refine wpT 1 ?_;(try simp only [y_,z_]);refine wpT 2 ?_;(try simp only [y_,z_]);have t63:=T63.out;refine wpT 4 ?_;(try simp only [y_,z_]);refine wpT 5 ?_;(try simp only [y_,z_]);refine wpT 6 ?_;(try simp only [y_,z_]);refine wpT 7 ?_;(try simp only [y_,z_]);refine wpT 8 ?_;(try simp only [y_,z_]);refine wpT 9 ?_;(try simp only [y_,z_]);refine wpT 10 ?_;(try simp only [y_,z_]);refine wpT 11 ?_;(try simp only [y_,z_]);refine wpT 12 ?_;(try simp only [y_,z_]);refine wpT 13 ?_;(try simp only [y_,z_]);clear t63;refine wpU 14 ?_;(try simp only [y_,z_]);refine wpU 15 ?_;(try simp only [y_,z_]);refine wpU 16 ?_;(try simp only [y_,z_]);refine wpU 17 ?_;(try simp only [y_,z_]);refine wpU 18 ?_;(try simp only [y_,z_]);refine wpU 19 ?_;(try simp only [y_,z_]);refine wpT 20 ?_;(try simp only [y_,z_])
     refine wpAnyH_takeM (fun w'=>w'.cell? ⟨g,a+1,none⟩=some (.int .u8 (bW mm))) (calm_cell _ _) [21,22,23] (i:=3) (v:=?_) rfl (by kernel_rfl) (by kernel_rfl) (by kernel_rfl) (by kernel_rfl) (fun _ _ _ h=>h) (Or.inl ⟨by rfl,?_⟩) (hNW) (by assumption) ?_
     rotate_left
     ·intro w hSw;(try dsimp only at hSw);go_simp;try with_reducible rfl
     (try simp only [y_,z_]);refine aR_ (rs:=[21]) (by kernel_rfl) (by simp) ?_;refine aC_ rfl (fun K hK=>?_) aN_;go_simp;refine (CO.out _).mono ?_;rintro e w' ⟨rfl,rfl⟩;go_wp2_with fail
     refine hK.out _ _ ?_ (fun hHeld=>?_)
     ·exact hHeld
     clear hK K;(try simp only [y_,z_]);refine wpT 22 ?_;(try simp only [y_,z_]);refine aR_ (rs:=[23]) (by kernel_rfl) (by simp) ?_;refine aC_ rfl (fun K hK=>?_) aN_;go_simp;refine hK.out _ _ ?_ (fun hHeld=>?_)
     ·exact ⟨G0.out,G1.out,f0,F1.out⟩
     clear hK K;(try simp only [y_,z_]);refine aD_ (by kernel_rfl) ?_ _;go_wp2_with fail
     go_ret;exact ⟨by rw [HR4.out];rfl,by rw [HR2.out];exact HT2.out.upd (S:=Non) (Upd.refl.drewN 2) (fun f=>f) (fun f=>f) (fun _ _ _ f=>f),U2.out.drewN 2⟩
   ·have tk:decide ((k:Int) > 0)=false:=dF_ (by omega);have HR4:Hid ((opB k op imm [gg,mm] b0 b1 b2).1=gg):=by show _=_;rw [HR1.out,dT_ (by omega)];rfl
    clear h63 Hsg;rcases hop3 with rfl | rfl | rfl
    ·skip;unfold pp b8;go_enter Tryz.func186,Tryz.ntmps186;go_wp2_with fail
     refine wp_region_held_drew (S:=fun w'=>w'.cell? ⟨s,3,none⟩=some (.slice (some ⟨g,0,none⟩) L nc)∧w'.cell? ⟨x,6,none⟩=some (.int .i64 (a:Int))) (by kernel_rfl) ⟨x3,y6⟩ (fun hHeld=>?_)
     refine wpT 0 ?_;(try simp only [y_,z_]);refine wpT 1 ?_;(try simp only [y_,z_]);refine wpT 2 ?_;(try simp only [y_,z_]);refine wpT 3 ?_;(try simp only [y_,z_]);refine wpT 4 ?_;(try simp only [y_,z_]);refine wpT 5 ?_;(try simp only [y_,z_]);refine wpT 6 ?_;(try simp only [y_,z_]);refine wpT 7 ?_;(try simp only [y_,z_]);refine wpT 8 ?_;(try simp only [y_,z_]);refine wpT 9 ?_;(try simp only [y_,z_]);refine wpT 10 ?_;(try simp only [y_,z_]);refine aD_ (by kernel_rfl) ?_ _;go_wp2_with fail
     refine wp_region_held_drew (S:=fun w'=>w'.cell? ⟨w.heap.size,0,none⟩=some (.int .u8 (bW b0))∧w'.cell? ⟨w.heap.size,1,none⟩=some (.int .u8 (bW b1))∧w'.cell? ⟨s,0,none⟩=some (.int .i64 (k:Int))∧w'.cell? ⟨x,1,none⟩=some (.int .i64 17)) (by kernel_rfl) ⟨z0,z1,x0,y1⟩ (fun hHeld=>?_)
     refine wpT 0 ?_;(try simp only [y_,z_]);refine wpT 1 ?_;(try simp only [y_,z_]);refine wpT 2 ?_;(try simp only [y_,z_]);have t63:=T63.out;refine wpT 4 ?_;(try simp only [y_,z_]);refine wpT 5 ?_;(try simp only [y_,z_]);refine wpT 6 ?_;(try simp only [y_,z_]);refine wpT 7 ?_;(try simp only [y_,z_]);refine wpT 8 ?_;(try simp only [y_,z_]);refine wpT 9 ?_;(try simp only [y_,z_]);refine wpT 10 ?_;(try simp only [y_,z_]);refine wpT 11 ?_;(try simp only [y_,z_]);refine wpT 12 ?_;(try simp only [y_,z_]);refine wpT 13 ?_;(try simp only [y_,z_]);clear t63;refine wpU 14 ?_;(try simp only [y_,z_]);refine wpU 15 ?_;(try simp only [y_,z_]);refine wpU 16 ?_;(try simp only [y_,z_]);refine wpU 17 ?_;(try simp only [y_,z_]);refine wpU 18 ?_;(try simp only [y_,z_]);refine wpU 19 ?_;(try simp only [y_,z_]);refine wpT 20 ?_;(try simp only [y_,z_])
     refine wpAnyH_takeM (fun w'=>w'.cell? ⟨g,a+1,none⟩=some (.int .u8 (bW mm))) (calm_cell _ _) [21,22,23] (i:=3) (v:=?_) rfl (by kernel_rfl) (by kernel_rfl) (by kernel_rfl) (by kernel_rfl) (fun _ _ _ h=>h) (Or.inl ⟨by rfl,?_⟩) (hNW) (by assumption) ?_
     rotate_left
     ·intro w hSw;(try dsimp only at hSw);go_simp;try with_reducible rfl
     (try simp only [y_,z_]);refine aR_ (rs:=[21]) (by kernel_rfl) (by simp) ?_;refine aC_ rfl (fun K hK=>?_) aN_;go_simp;refine (CO.out _).mono ?_;rintro e w' ⟨rfl,rfl⟩;go_wp2_with fail
     refine hK.out _ _ ?_ (fun hHeld=>?_)
     ·exact hHeld
     clear hK K;(try simp only [y_,z_]);refine wpT 22 ?_;(try simp only [y_,z_]);refine aR_ (rs:=[23]) (by kernel_rfl) (by simp) ?_;refine aC_ rfl (fun K hK=>?_) aN_;go_simp;refine hK.out _ _ ?_ (fun hHeld=>?_)
     ·exact ⟨G0.out,G1.out,f0,F1.out⟩
     clear hK K;(try simp only [y_,z_]);refine aD_ (by kernel_rfl) ?_ _;go_wp2_with fail
     refine wp_region_held_drew (S:=fun w'=>w'.cell? ⟨s,2,none⟩=some (.slice (some ⟨ob,oo,none⟩) L oc)∧w'.cell? ⟨x,6,none⟩=some (.int .i64 (a:Int))∧w'.cell? ⟨ob,oo+a,none⟩=some (.int .u8 (bW gg))) (by kernel_rfl) ⟨f2,f6,fc⟩ (fun hHeld=>?_)
     refine wpT 0 ?_;(try simp only [y_,z_]);refine wpT 1 ?_;(try simp only [y_,z_]);refine wpT 2 ?_;(try simp only [y_,z_]);refine wpT 3 ?_;(try simp only [y_,z_]);refine wpT 4 ?_;(try simp only [y_,z_]);refine wpT 5 ?_;(try simp only [y_,z_]);refine wpT 6 ?_;(try simp only [y_,z_]);refine wpT 7 ?_;(try simp only [y_,z_]);refine wpT 8 ?_;(try simp only [y_,z_]);refine wpT 9 ?_;(try simp only [y_,z_]);refine wpT 10 ?_;(try simp only [y_,z_]);refine aD_ (by kernel_rfl) ?_ _;go_wp2_with fail
     go_ret;exact ⟨by rw [HR4.out];rfl,by rw [HR2.out];exact HT2.out.upd (S:=Non) (Upd.refl.drewN 3) (fun f=>f) (fun f=>f) (fun _ _ _ f=>f),U2.out.drewN 3⟩
    ·skip;unfold pp b8;go_enter Tryz.func186,Tryz.ntmps186;go_wp2_with fail
     refine wp_region_held_drew (S:=fun w'=>w'.cell? ⟨s,3,none⟩=some (.slice (some ⟨g,0,none⟩) L nc)∧w'.cell? ⟨x,6,none⟩=some (.int .i64 (a:Int))) (by kernel_rfl) ⟨x3,y6⟩ (fun hHeld=>?_)
     refine wpT 0 ?_;(try simp only [y_,z_]);refine wpT 1 ?_;(try simp only [y_,z_]);refine wpT 2 ?_;(try simp only [y_,z_]);refine wpT 3 ?_;(try simp only [y_,z_]);refine wpT 4 ?_;(try simp only [y_,z_]);refine wpT 5 ?_;(try simp only [y_,z_]);refine wpT 6 ?_;(try simp only [y_,z_]);refine wpT 7 ?_;(try simp only [y_,z_]);refine wpT 8 ?_;(try simp only [y_,z_]);refine wpT 9 ?_;(try simp only [y_,z_]);refine wpT 10 ?_;(try simp only [y_,z_]);refine aD_ (by kernel_rfl) ?_ _;go_wp2_with fail
     refine wp_region_held_drew (S:=fun w'=>w'.cell? ⟨w.heap.size,0,none⟩=some (.int .u8 (bW b0))∧w'.cell? ⟨w.heap.size,1,none⟩=some (.int .u8 (bW b1))∧w'.cell? ⟨s,0,none⟩=some (.int .i64 (k:Int))∧w'.cell? ⟨x,1,none⟩=some (.int .i64 18)) (by kernel_rfl) ⟨z0,z1,x0,y1⟩ (fun hHeld=>?_)
     refine wpT 0 ?_;(try simp only [y_,z_]);refine wpT 1 ?_;(try simp only [y_,z_]);refine wpT 2 ?_;(try simp only [y_,z_]);have t63:=T63.out;refine wpT 4 ?_;(try simp only [y_,z_]);refine wpT 5 ?_;(try simp only [y_,z_]);refine wpT 6 ?_;(try simp only [y_,z_]);refine wpT 7 ?_;(try simp only [y_,z_]);refine wpT 8 ?_;(try simp only [y_,z_]);refine wpT 9 ?_;(try simp only [y_,z_]);refine wpT 10 ?_;(try simp only [y_,z_]);refine wpT 11 ?_;(try simp only [y_,z_]);refine wpT 12 ?_;(try simp only [y_,z_]);refine wpT 13 ?_;(try simp only [y_,z_]);clear t63;refine wpU 14 ?_;(try simp only [y_,z_]);refine wpU 15 ?_;(try simp only [y_,z_]);refine wpU 16 ?_;(try simp only [y_,z_]);refine wpU 17 ?_;(try simp only [y_,z_]);refine wpU 18 ?_;(try simp only [y_,z_]);refine wpU 19 ?_;(try simp only [y_,z_]);refine wpT 20 ?_;(try simp only [y_,z_])
     refine wpAnyH_takeM (fun w'=>w'.cell? ⟨g,a+1,none⟩=some (.int .u8 (bW mm))) (calm_cell _ _) [21,22,23] (i:=3) (v:=?_) rfl (by kernel_rfl) (by kernel_rfl) (by kernel_rfl) (by kernel_rfl) (fun _ _ _ h=>h) (Or.inl ⟨by rfl,?_⟩) (hNW) (by assumption) ?_
     rotate_left
     ·intro w hSw;(try dsimp only at hSw);go_simp;try with_reducible rfl
     (try simp only [y_,z_]);refine aR_ (rs:=[21]) (by kernel_rfl) (by simp) ?_;refine aC_ rfl (fun K hK=>?_) aN_;go_simp;refine (CO.out _).mono ?_;rintro e w' ⟨rfl,rfl⟩;go_wp2_with fail
     refine hK.out _ _ ?_ (fun hHeld=>?_)
     ·exact hHeld
     clear hK K;(try simp only [y_,z_]);refine wpT 22 ?_;(try simp only [y_,z_]);refine aR_ (rs:=[23]) (by kernel_rfl) (by simp) ?_;refine aC_ rfl (fun K hK=>?_) aN_;go_simp;refine hK.out _ _ ?_ (fun hHeld=>?_)
     ·exact ⟨G0.out,G1.out,f0,F1.out⟩
     clear hK K;(try simp only [y_,z_]);refine aD_ (by kernel_rfl) ?_ _;go_wp2_with fail
     refine wp_region_held_drew (S:=fun w'=>w'.cell? ⟨s,2,none⟩=some (.slice (some ⟨ob,oo,none⟩) L oc)∧w'.cell? ⟨x,6,none⟩=some (.int .i64 (a:Int))∧w'.cell? ⟨ob,oo+a,none⟩=some (.int .u8 (bW gg))) (by kernel_rfl) ⟨f2,f6,fc⟩ (fun hHeld=>?_)
     refine wpT 0 ?_;(try simp only [y_,z_]);refine wpT 1 ?_;(try simp only [y_,z_]);refine wpT 2 ?_;(try simp only [y_,z_]);refine wpT 3 ?_;(try simp only [y_,z_]);refine wpT 4 ?_;(try simp only [y_,z_]);refine wpT 5 ?_;(try simp only [y_,z_]);refine wpT 6 ?_;(try simp only [y_,z_]);refine wpT 7 ?_;(try simp only [y_,z_]);refine wpT 8 ?_;(try simp only [y_,z_]);refine wpT 9 ?_;(try simp only [y_,z_]);refine wpT 10 ?_;(try simp only [y_,z_]);refine aD_ (by kernel_rfl) ?_ _;go_wp2_with fail
     go_ret;exact ⟨by rw [HR4.out];rfl,by rw [HR2.out];exact HT2.out.upd (S:=Non) (Upd.refl.drewN 3) (fun f=>f) (fun f=>f) (fun _ _ _ f=>f),U2.out.drewN 3⟩
    ·skip;unfold pp b8;go_enter Tryz.func186,Tryz.ntmps186;go_wp2_with fail
     refine wp_region_held_drew (S:=fun w'=>w'.cell? ⟨s,3,none⟩=some (.slice (some ⟨g,0,none⟩) L nc)∧w'.cell? ⟨x,6,none⟩=some (.int .i64 (a:Int))) (by kernel_rfl) ⟨x3,y6⟩ (fun hHeld=>?_)
     refine wpT 0 ?_;(try simp only [y_,z_]);refine wpT 1 ?_;(try simp only [y_,z_]);refine wpT 2 ?_;(try simp only [y_,z_]);refine wpT 3 ?_;(try simp only [y_,z_]);refine wpT 4 ?_;(try simp only [y_,z_]);refine wpT 5 ?_;(try simp only [y_,z_]);refine wpT 6 ?_;(try simp only [y_,z_]);refine wpT 7 ?_;(try simp only [y_,z_]);refine wpT 8 ?_;(try simp only [y_,z_]);refine wpT 9 ?_;(try simp only [y_,z_]);refine wpT 10 ?_;(try simp only [y_,z_]);refine aD_ (by kernel_rfl) ?_ _;go_wp2_with fail
     refine wp_region_held_drew (S:=fun w'=>w'.cell? ⟨w.heap.size,0,none⟩=some (.int .u8 (bW b0))∧w'.cell? ⟨w.heap.size,1,none⟩=some (.int .u8 (bW b1))∧w'.cell? ⟨s,0,none⟩=some (.int .i64 (k:Int))∧w'.cell? ⟨x,1,none⟩=some (.int .i64 19)) (by kernel_rfl) ⟨z0,z1,x0,y1⟩ (fun hHeld=>?_)
     refine wpT 0 ?_;(try simp only [y_,z_]);refine wpT 1 ?_;(try simp only [y_,z_]);refine wpT 2 ?_;(try simp only [y_,z_]);have t63:=T63.out;refine wpT 4 ?_;(try simp only [y_,z_]);refine wpT 5 ?_;(try simp only [y_,z_]);refine wpT 6 ?_;(try simp only [y_,z_]);refine wpT 7 ?_;(try simp only [y_,z_]);refine wpT 8 ?_;(try simp only [y_,z_]);refine wpT 9 ?_;(try simp only [y_,z_]);refine wpT 10 ?_;(try simp only [y_,z_]);refine wpT 11 ?_;(try simp only [y_,z_]);refine wpT 12 ?_;(try simp only [y_,z_]);refine wpT 13 ?_;(try simp only [y_,z_]);clear t63;refine wpU 14 ?_;(try simp only [y_,z_]);refine wpU 15 ?_;(try simp only [y_,z_]);refine wpU 16 ?_;(try simp only [y_,z_]);refine wpU 17 ?_;(try simp only [y_,z_]);refine wpU 18 ?_;(try simp only [y_,z_]);refine wpU 19 ?_;(try simp only [y_,z_]);refine wpT 20 ?_;(try simp only [y_,z_])
     refine wpAnyH_takeM (fun w'=>w'.cell? ⟨g,a+1,none⟩=some (.int .u8 (bW mm))) (calm_cell _ _) [21,22,23] (i:=3) (v:=?_) rfl (by kernel_rfl) (by kernel_rfl) (by kernel_rfl) (by kernel_rfl) (fun _ _ _ h=>h) (Or.inl ⟨by rfl,?_⟩) (hNW) (by assumption) ?_
     rotate_left
     ·intro w hSw;(try dsimp only at hSw);go_simp;try with_reducible rfl
     (try simp only [y_,z_]);refine aR_ (rs:=[21]) (by kernel_rfl) (by simp) ?_;refine aC_ rfl (fun K hK=>?_) aN_;go_simp;refine (CO.out _).mono ?_;rintro e w' ⟨rfl,rfl⟩;go_wp2_with fail
     refine hK.out _ _ ?_ (fun hHeld=>?_)
     ·exact hHeld
     clear hK K;(try simp only [y_,z_]);refine wpT 22 ?_;(try simp only [y_,z_]);refine aR_ (rs:=[23]) (by kernel_rfl) (by simp) ?_;refine aC_ rfl (fun K hK=>?_) aN_;go_simp;refine hK.out _ _ ?_ (fun hHeld=>?_)
     ·exact ⟨G0.out,G1.out,f0,F1.out⟩
     clear hK K;(try simp only [y_,z_]);refine aD_ (by kernel_rfl) ?_ _;go_wp2_with fail
     refine wp_region_held_drew (S:=fun w'=>w'.cell? ⟨s,2,none⟩=some (.slice (some ⟨ob,oo,none⟩) L oc)∧w'.cell? ⟨x,6,none⟩=some (.int .i64 (a:Int))∧w'.cell? ⟨ob,oo+a,none⟩=some (.int .u8 (bW gg))) (by kernel_rfl) ⟨f2,f6,fc⟩ (fun hHeld=>?_)
     refine wpT 0 ?_;(try simp only [y_,z_]);refine wpT 1 ?_;(try simp only [y_,z_]);refine wpT 2 ?_;(try simp only [y_,z_]);refine wpT 3 ?_;(try simp only [y_,z_]);refine wpT 4 ?_;(try simp only [y_,z_]);refine wpT 5 ?_;(try simp only [y_,z_]);refine wpT 6 ?_;(try simp only [y_,z_]);refine wpT 7 ?_;(try simp only [y_,z_]);refine wpT 8 ?_;(try simp only [y_,z_]);refine wpT 9 ?_;(try simp only [y_,z_]);refine wpT 10 ?_;(try simp only [y_,z_]);refine aD_ (by kernel_rfl) ?_ _;go_wp2_with fail
     go_ret;exact ⟨by rw [HR4.out];rfl,by rw [HR2.out];exact HT2.out.upd (S:=Non) (Upd.refl.drewN 3) (fun f=>f) (fun f=>f) (fun _ _ _ f=>f),U2.out.drewN 3⟩
theorem uW_small {h:Nat} (hh:h<18446744073709551616) (j:Nat):bI (h:Int) j=h.testBit j:=by
 rw [bI_eq];have:=uW_eq (h:Int);rw [show uW (h:Int)=h by omega]
set_option maxRecDepth 100000 in
set_option maxHeartbeats 16000000 in
theorem aTBit_c {F:Nat→Prop} {s k h:Nat} {OA:Option Addr} {oc g nc:Nat} {O:List Bool} (hk:k<64) (hh:h<18446744073709551616) (hl:O.length≤1000000) (hsF:¬F s) (p:Pt) :
  ∀(w:World) (N:List Bool) (a x:Nat),supF p=true→WfP 64 p→p.size≤1000000→OsT w F p a x→TrS w F s k h OA oc g nc O N→(∀i,F i→i<w.heap.size)→a+bN p<O.length→(∀i,a≤i→i<a+bN p→N.getD i false=O.getD i false) →
  Calls Tryz.prog 132 #[pp s,pp x] w fun e w'=>e=.returned (b8 (vP k h.testBit O p a))∧TrS w' F s k h OA oc g nc O (spl N a (nP k h.testBit O p a))∧Upd (·=g) w w':=by
 induction p using Pt.ind with
 | h p ih =>
  intro w N a x hs hw hz hos T hFw ha hNO;have hosF:F x:=(OsT.iff.1 hos).1;obtain ⟨_,KA,kc,CA,cc,gs,hb,hgl,hCA,hL⟩:=OsT.iff.1 hos;have hxg:x≠g:=T.far x hosF;have hw':=(WfP.iff 64 p).1 hw;by_cases hv:0<p.v
  ·have hN0:nP k h.testBit O p a=[]:=by unfold nP;rw [bitP_var hv]
   have hV0:vP k h.testBit O p a=h.testBit (p.v - 1).toNat:=by unfold vP;rw [bitP_var hv]
   obtain ⟨vn,hvn⟩:∃n:Nat,p.v=(n:Int)+1:=⟨(p.v - 1).toNat,by omega⟩;have hb8:=bit_u8 (h:Int) vn (by omega);rw [uW_small hh] at hb8;have HR:Hid (vP k h.testBit O p a=h.testBit vn):=by show _=_;rw [hV0,hvn];congr 1;omega
   have HR2:Hid (spl N a (nP k h.testBit O p a)=N):=by show _=_;rw [hN0,spl_nil]
   have x1:=T.blk.cell 1;have y0:=hb.cell 0;rw [hvn] at y0;have t0:decide ((vn:Int)+1 > 0)=true:=dT_ (by omega);obtain ⟨rb,Hrb⟩:=nm (h.testBit vn);rw [Hrb.out] at hb8 HR
   have HE:Hid (IntKind.u8.wrap (bits .and .i64 ((h:Int) / 2 ^ min (IntKind.u64.wrap (IntKind.i64.wrap (vn:Int))).toNat 64) 1)=bW rb):=by
    show _=_
    have e1:min (IntKind.u64.wrap (IntKind.i64.wrap (vn:Int))).toNat 64=vn:=by
     rw [i64w_of (by unfold I64;omega),uW_u64];have:=uW_eq (vn:Int);omega
    rw [e1,IntKind.wrap_u8,hb8]
   have T0:=h_ T;clear hb hw' hw ih hL hCA hos T hNO hN0 hV0 ha hFw;unfold pp;go_enter Tryz.func132,Tryz.ntmps132;go_wp2_with fail
   refine wp_region_held_drew (S:=fun w'=>w'.cell? ⟨s,1,none⟩=some (.int .i64 (h:Int))∧w'.cell? ⟨x,0,none⟩=some (.int .i64 ((vn:Int)+1))) (by kernel_rfl) ⟨x1,y0⟩ (fun hHeld=>?_)
   refine wpT 0 ?_;(try simp only [y_,z_]);refine wpT 1 ?_;(try simp only [y_,z_]);refine wpT 2 ?_;(try simp only [y_,z_]);refine wpT 3 ?_;(try simp only [y_,z_]);refine wpT 4 ?_;(try simp only [y_,z_]);refine wpT 5 ?_;(try simp only [y_,z_]);refine wpT 6 ?_;(try simp only [y_,z_]);refine wpT 7 ?_;(try simp only [y_,z_]);refine wpT 8 ?_;(try simp only [y_,z_]);refine wpT 9 ?_;(try simp only [y_,z_]);refine wpT 10 ?_;(try simp only [y_,z_]);refine wpT 11 ?_;(try simp only [y_,z_]);refine wpT 12 ?_;(try simp only [y_,z_]);refine wpT 13 ?_;(try simp only [y_,z_]);refine wpT 14 ?_;(try simp only [y_,z_]);refine aD_ (by kernel_rfl) ?_ _;go_wp2_with fail
   go_ret;refine ⟨by show Ending.returned (Value.int .u8 _)=_;rw [HE.out,HR.out];rfl,?_,Upd.refl.drewN 1⟩;rw [HR2.out];exact T0.out.upd (S:=Non) (Upd.refl.drewN 1) (fun f=>f) (fun f=>f) (fun _ _ _ f=>f)
  ·have hs':supO p.op p.kids=true∧p.kids.all supF=true:=by have:=hs;rw [supF_op hv,Bool.and_eq_true] at this;exact this
   have hsk:∀q∈p.kids,supF q=true:=List.all_eq_true.1 hs'.2;have hlen:p.kids.length=(oSortsF p.op).1.length:=hw'.2.2.1 (by omega);obtain ⟨own,hown⟩:∃n,ownN p.op p.kids=n:=⟨_,rfl⟩;have hosw:osOwn p.v p.op p.kids=own:=by unfold osOwn;rw [if_neg hv,hown]
   have hbn:bN p=own+bL p.kids:=by rw [bN_iff,if_neg hv,hown]
   obtain ⟨n,hn⟩:∃n,osN p.v p.op p.kids.length=n:=⟨_,rfl⟩;have hn':n=if p.op=12 then min 1 p.kids.length else p.kids.length:=by rw [←hn];unfold osN;rw [if_neg hv]
   have hnk:n≤p.kids.length:=by rw [hn'];split <;> omega
   have hn3:n≤3:=by
    have : p.kids.length≤3:=by
     rw [hlen];rcases supO_ops hs'.1 with e | e | e | e | e | e | e | e | e | e | e | e | e | e | e <;> rw [e] <;> decide
    omega
   have hbl:∀j,bL (p.kids.take j)≤bL p.kids:=fun j=>bL_take_le _ _
   rw [hosw] at hL hb
   have Hk:∀j,j<n→∃(q:Pt) (y:Nat),p.kids[j]?=some q∧q∈p.kids∧gs[j]?=some y∧OsT w F q (a+own+bL (p.kids.take j)) y∧bL (p.kids.take (j+1))=bL (p.kids.take j)+bN q∧p.kids.take (j+1)=p.kids.take j++[q]:=fun j hj=>by
    have h1:j<p.kids.length:=by omega
    have h2:j<gs.length:=by rw [hgl,hn];exact hj
    exact ⟨p.kids[j],gs[j],List.getElem?_eq_getElem h1,List.getElem_mem h1,List.getElem?_eq_getElem h2,hL.at_ h1 h2,bL_take h1,List.take_succ_eq_append_getElem h1⟩
   have HK:=h_ Hk;have HLN:Hid (∀j,(nL k h.testBit O (p.kids.take j) (a+own)).length=bL (p.kids.take j)):=fun j=>(bitL_pos (fun q hq=>hsk q (List.mem_of_mem_take hq)) (by have:=hbl j;omega)).2
   have HST:Hid (∀j q,p.kids.take (j+1)=p.kids.take j++[q]→nL k h.testBit O (p.kids.take (j+1)) (a+own)=nL k h.testBit O (p.kids.take j) (a+own)++nP k h.testBit O q (a+own+bL (p.kids.take j))∧vL k h.testBit O (p.kids.take (j+1)) (a+own)=vL k h.testBit O (p.kids.take j) (a+own)++[vP k h.testBit O q (a+own+bL (p.kids.take j))]):=fun j q e=>by
    rw [e,nL_app,vL_app];simp [nL,vL]
   obtain ⟨W,HW⟩:=nm (w.alloc (.cells #[.int .u8 0,.int .u8 0,.int .u8 0] 231));obtain ⟨vb,hvb⟩:∃b,w.heap.size=b:=⟨_,rfl⟩;have u1:Upd Non w W:=by rw [←HW.out];exact Upd.refl.alloc _
   have hv0:Blk W vb 231 (vpad []):=by rw [←HW.out,←hvb];exact Blk.new _ _ _
   have e0:=HW.out;have hbW:=hb.upd u1 (fun f=>f);have y0:=hb.cell 0;have HY1:=h_ (hb.cell 1);have y5:=hbW.cell 5;have T1:=T.upd u1 (fun f=>f) (fun f=>f) (fun _ _ _ f=>f);have hvg:vb≠g:=by have:=T.own.lt (At.some_.2 rfl);omega
   have hvs:vb≠s:=by have:=T.blk.lt;omega
   have hvx:vb≠x:=by have:=hb.lt;omega
   have HCA:=h_ hCA;have t0:decide (p.v > 0)=false:=dF_ hv;have HFW:=h_ hFw
   have HF:Hid (∀i,i<w.heap.size→F i→¬(i=g∨i=vb)):=fun i hi hf e=>by
    rcases e with e | e
    ·exact T.far i hf e
    ·omega
   have HB:=h_ hbW;have HI:=h_ (fun q (hq:q∈p.kids)=>ih q hq);have HWF:=h_ hw'.2.2.2;have HSZ:Hid (∀q∈p.kids,q.size≤1000000):=fun q hq=>by have:=Pt.kids_lt hq;omega
   have HSK:=h_ hsk;have HOWN:=h_ hown;have HN':=h_ hn'
   have H12:Hid (p.op=12→∃k0 k1,p.kids=[k0,k1]∧bN k1=0):=fun e=>by
    have h2:p.kids.length=2:=by rw [hlen,e];rfl
    obtain ⟨k0,k1,ek⟩:∃k0 k1,p.kids=[k0,k1]:=by
     match p.kids,h2 with
     | [x,y],_=>exact ⟨x,y,rfl⟩
    refine ⟨k0,k1,ek,?_⟩
    have ho:k1.op=1:=by
     have:=hs'.1;unfold supO at this;have:=of_decide_eq_true this;rw [e,ek] at this;simp [kid] at this;omega
    have w1:=(WfP.iff 64 k1).1 (hw'.2.2.2 k1 (by rw [ek];simp));rw [bN_iff];by_cases hv1:0<k1.v
    ·rw [if_pos hv1]
    ·have hk0:k1.kids=[]:=List.length_eq_zero_iff.1 (by rw [w1.2.2.1 (by omega),ho];rfl);rw [if_neg hv1,hk0,ho];rfl
   have HSO:Hid (supO p.op p.kids=true):=hs'.1;have hbl':=hbl;have HNO:=h_ hNO;have HBN:=h_ hbn;have HA:=h_ ha;have HTL:=h_ T.len;have HX:=h_ hxg;have HU1:=h_ u1;have HSF:Hid (∀i,F i→i≠s):=fun i hi e=>hsF (e ▸ hi)
   rw [hgl,hn] at y5;clear hFw ih hw hw' hsk hNO hos hL hb hbl hlen hs hs' hz hbn ha hCA HW hown hosw hn' u1;unfold pp;go_enter Tryz.func132,Tryz.ntmps132;go_wp2_with fail
   go_loopg [6,7,33] n (fun gg _ _ i wr=>∃j:Nat,Hid (gg=n - j)∧j≤n∧i=.int .i64 j∧Hid (TrS wr F s k h OA oc g nc O (spl N (a+own) (nL k h.testBit O (p.kids.take j) (a+own))))∧Hid (Blk wr vb 231 (vpad (vL k h.testBit O (p.kids.take j) (a+own))))∧Hid (Upd (fun b=>b=g∨b=vb) W wr))
   case atStart=>exact ⟨0,rfl,by omega,rfl,by rw [List.take_zero];show TrS _ _ _ _ _ _ _ _ _ _ (spl N _ []);rw [spl_nil];exact T1,hv0,Upd.refl⟩
   case round =>
    obtain ⟨j,Hg,hj,rfl,HT,HV,HU⟩:=hrel;by_cases hlt:j<n
    ·obtain ⟨q,y,hqk,hqm,hgy,hOq,hbl1,htk⟩:=HK.out j hlt;obtain ⟨hs1,hs2⟩:=HST.out j q htk;have hjk:j<p.kids.length:=by omega
     have hle:bL (p.kids.take (j+1))≤bL p.kids:=bL_take_le _ _;have hNl:=HTL.out;have hln:=HLN.out j;have hbn':=HBN.out;have ha':=HA.out;have hvl:(vL k h.testBit O (p.kids.take j) (a+own)).length=j:=by rw [vL_len,List.length_take];omega
     have hUw:Upd (fun b=>b=g∨b=vb) w wr:=(HU1.out.mono (fun _ _ f=>f.elim)).trans HU.out (fun _ _ q=>q);have hsa:=fun i hi=>spl_at (N:=N) (a:=a+own) (m:=nL k h.testBit O (p.kids.take j) (a+own)) (by omega) (i:=i) (.inr hi)
     have C1:=h_ (HI.out q hqm wr (spl N (a+own) (nL k h.testBit O (p.kids.take j) (a+own))) (a+own+bL (p.kids.take j)) y (HSK.out q hqm) (HWF.out q hqm) (HSZ.out q hqm)
      (OsT.upd hUw HF.out (fun _ _ h=>h) q _ _ hOq) HT.out (fun i hi=>Nat.lt_of_lt_of_le (HFW.out i hi) hUw.size) (by omega) (fun i hi1 hi2=>by
       rw [hsa i (by omega)]
       exact HNO.out i (by omega) (by omega)))
     have hsp:spl (spl N (a+own) (nL k h.testBit O (p.kids.take j) (a+own))) (a+own+bL (p.kids.take j)) (nP k h.testBit O q (a+own+bL (p.kids.take j)))=spl N (a+own) (nL k h.testBit O (p.kids.take (j+1)) (a+own)):=by
      have hq2:=(bitP_pos (k:=k) (ins:=h.testBit) (O:=O) (HSK.out q hqm) (a:=a+own+bL (p.kids.take j)) (by omega)).2;have e:=spl_spl (N:=N) (a:=a+own) (m1:=nL k h.testBit O (p.kids.take j) (a+own)) (m2:=nP k h.testBit O q (a+own+bL (p.kids.take j))) (by omega)
      rw [hln] at e;rw [hs1];exact e
     rw [hsp] at C1;have HS2:=h_ hs2;obtain ⟨rb,Hrb⟩:=nm (vP k h.testBit O q (a+own+bL (p.kids.take j)));rw [Hrb.out] at C1 HS2;obtain ⟨vs,Hvs⟩:=nm (vL k h.testBit O (p.kids.take j) (a+own));rw [Hvs.out] at HV HS2 hvl;obtain ⟨cb,co,eC,_,_,hcc⟩:=HCA.out.at_ (k:=j) (by rw [List.length_map];omega)
     have hcc2:wr.cell? ⟨cb,co+j,none⟩=some (.pointer (some ⟨y,0,none⟩)):=by
      obtain ⟨cb',co',eC',hFc,hcb,_⟩:=HCA.out.at_ (k:=j) (by rw [List.length_map];omega);rw [eC] at eC';injection eC' with eC'
      injection eC' with e1 e2
      subst e1 e2;have h1:=u_ hcc hUw (HF.out _ hcb hFc);rw [h1];have h2:(gs.map pp)[j]?=some (pp y):=by rw [List.getElem?_map,hgy];rfl
      rw [List.getElem?_eq_getElem (by rw [List.length_map];omega)] at h2;exact h2
     subst eC;have j0:(0:Int)≤(j:Int):=by omega
     have j3:(j:Int)<3:=by omega
     have jn:(j:Int)<(n:Int):=by omega
     have hvlen:=hvl;clear hqk hOq hs1 hs2 hjk hle hNl hln hbn' ha' hsa hsp hbl1 hcc hUw;go_wp2_with fail
     refine C1.out.mono ?_;rintro e w4 ⟨rfl,T4,u4⟩;have hv4:=HV.out.upd u4 hvg
     have hc4:∃c,w4.cell? ⟨vb,j,none⟩=some c:=by
      rw [hv4.cell];exact ⟨_,Array.getElem?_eq_getElem (show j<(vpad vs).size by show j<3;omega)⟩
     obtain ⟨c4,hc4⟩:=hc4;have hf4:=hv4.frozen j;have HV4:=h_ hv4;have HT4:=h_ T4;have HU4:=h_ u4;unfold b8;clear T4 u4 hv4;go_wp2_with fail
     have uS:=updCell w4 vb j (b8 rb);have TE:=HT4.out.upd uS (fun e=>hvs e.symm) (fun e=>hvg e.symm) (fun i _ hi e=>by have:=HFW.out i hi;omega);have VE:=HV4.out.set_ j (b8 rb);have hvp:=vpad_set (l:=vs) rb (by omega);rw [hvlen] at hvp;rw [hvp] at VE;have UE:=(HU.out.trans HU4.out (fun _ _ e=>.inl e)).trans uS (fun _ _ e=>.inr e)
     go_roundg (n - (j+1))
     case measure=>rw [Hg.out];omega
     case rel=>exact ⟨j+1,rfl,by omega,by go_num,TE,by rw [HS2.out];exact VE,UE⟩
    ·obtain rfl:n=j:=by omega
     obtain ⟨vs,Hvs⟩:=nm (vL k h.testBit O (p.kids.take n) (a+own));obtain ⟨m2,Hm2⟩:=nm (nL k h.testBit O (p.kids.take n) (a+own));obtain ⟨N1,HN1⟩:=nm (spl N (a+own) m2);obtain ⟨R,hR⟩:∃R,opB k p.op p.imm ((O.drop a).take own) (vs.getD 0 false) (vs.getD 1 false) (vs.getD 2 false)=R:=⟨_,rfl⟩;have hl2:=HLN.out n;rw [Hm2.out] at hl2 HT;rw [HN1.out] at HT;rw [Hvs.out] at HV
     obtain ⟨HP1,HP2,HP3⟩:Hid (vP k h.testBit O p a=R.1)∧Hid (nP k h.testBit O p a=R.2++m2)∧Hid (R.2.length=own):=by
      have hmn:((O.drop a).take own).length=own:=by have:=HA.out;have:=HBN.out;rw [List.length_take,List.length_drop];omega
      have hbp:=bitL_pos (k:=k) (ins:=h.testBit) (O:=O) (l:=p.kids) HSK.out (a:=a+own) (by have:=HA.out;have:=HBN.out;omega);have hop:=bitP_op (p:=p) (show ¬0<p.v by omega) k h.testBit (O.drop a) (r:=(vL k h.testBit O p.kids (a+own),O.drop (a+own+bL p.kids),nL k h.testBit O p.kids (a+own))) (by rw [HOWN.out,List.drop_drop];exact hbp.1)
      rw [HOWN.out] at hop
      have hR3:R.2.length=own:=by
       rw [←hR,←HOWN.out];exact opBit_len (kids:=p.kids) (vs:=vs) HSO.out (by rw [HOWN.out];exact hmn)
      suffices hq:opBit k p.op p.imm ((O.drop a).take own) (vL k h.testBit O p.kids (a+own))=R∧nL k h.testBit O p.kids (a+own)=m2 by
       refine ⟨?_,?_,hR3⟩
       ·show vP k h.testBit O p a=_;unfold vP;rw [hop,hq.1]
       ·show nP k h.testBit O p a=_;unfold nP;rw [hop,hq.1,hq.2]
      by_cases h12:p.op=12
      ·obtain ⟨k0,k1,ek,hb1⟩:=H12.out h12;have hn1:n=1:=by rw [HN'.out,if_pos h12,ek];rfl
       have e1:p.kids.take n=[k0]:=by rw [hn1,ek];rfl
       have hz:=(bitP_pos (k:=k) (ins:=h.testBit) (O:=O) (HSK.out k1 (by rw [ek];simp)) (a:=a+own+bN k0) (by have:=HA.out;have:=HBN.out;rw [ek] at this;simp only [bL] at this;omega)).2
       rw [hb1] at hz;have hz:=List.length_eq_zero_iff.1 hz;refine ⟨?_,?_⟩
       ·rw [←hR,h12,←Hvs.out,e1,ek];rfl
       ·rw [←Hm2.out,e1,ek];simp only [nL,hz,List.append_nil]
      ·have e1:p.kids.take n=p.kids:=by rw [HN'.out,if_neg h12];exact List.take_length
       rw [←hR,←Hvs.out,←Hm2.out,e1];exact ⟨rfl,rfl⟩
     have HP4:Hid (spl N a (nP k h.testBit O p a)=spl N1 a R.2):=by
      show _=_;have e:=spl_pre (N:=N) (a:=a) (m1:=R.2) (m2:=m2) (by rw [HP3.out,hl2,HTL.out];have:=hbl' n;have:=HA.out;have:=HBN.out;omega);rw [HP2.out,←e,HP3.out,HN1.out]
     have HG0:Hid (1≤own→N1.getD a false=O.getD a false):=fun q=>by
      rw [←HN1.out,spl_at (N:=N) (a:=a+own) (m:=m2) (by rw [hl2,HTL.out];have:=hbl' n;have:=HA.out;have:=HBN.out;omega) (.inl (by omega))];exact HNO.out a (Nat.le_refl _) (by have:=HBN.out;omega)
     have HG1:Hid (2≤own→N1.getD (a+1) false=O.getD (a+1) false):=fun q=>by
      rw [←HN1.out,spl_at (N:=N) (a:=a+own) (m:=m2) (by rw [hl2,HTL.out];have:=hbl' n;have:=HA.out;have:=HBN.out;omega) (.inl (by omega))];exact HNO.out (a+1) (by omega) (by have:=HBN.out;omega)
     have hbr:=HB.out.upd HU.out (fun e=>by rcases e with e | e;exact HX.out e;exact hvx e.symm);have y1:=hbr.cell 1;have HY2:=h_ (hbr.cell 2);have HY6:=h_ (hbr.cell 6);obtain ⟨b0,Hb0⟩:=nm (vs.getD 0 false);obtain ⟨b1,Hb1⟩:=nm (vs.getD 1 false);obtain ⟨b2,Hb2⟩:=nm (vs.getD 2 false);rw [Hb0.out,Hb1.out,Hb2.out] at hR;have HVB:=HV.out;unfold vpad at HVB;rw [Hb0.out,Hb1.out,Hb2.out] at HVB;have z0:=HVB.cell 0;have z1:=HVB.cell 1;have z2:=HVB.cell 2;have HOX:∀op,p.op=op→Hid (OpX wr x op a own):=fun op e=>by subst e;exact ⟨⟨_,_,_,_,_,hbr⟩⟩
     have HUW:Hid (Upd (fun b=>b=g) w wr):=(HU1.out.mono (fun _ _ f=>f.elim)).trans HU.out (fun i hi q=>by rcases q with q | q;exact q;omega);unfold b8 at z0 z1 z2;have A8:=and8;have O8:=or8;have X8:=xor8;have N8:=not8;rcases supO_ops HSO.out with e | e | e | e | e | e | e | e | e | e | e | e | e | e | e
     ·have y2:=HY2.out;have x0:=HT.out.blk.cell 0;rw [e] at hR y1;have HR:=h_ hR;clear HOX e hR;go_wp2_with fail
      refine wp_region_held_drew (S:=fun w'=>w'.cell? ⟨x,2,none⟩=some (.int .i64 p.imm)∧w'.cell? ⟨s,0,none⟩=some (.int .i64 (k:Int))) (by kernel_rfl) ⟨y2,x0⟩ (fun hHeld=>?_)
      refine wpT 0 ?_;(try simp only [y_,z_]);refine wpT 1 ?_;(try simp only [y_,z_]);refine wpT 2 ?_;(try simp only [y_,z_]);refine wpT 3 ?_;(try simp only [y_,z_]);refine wpT 4 ?_;(try simp only [y_,z_]);refine wpT 5 ?_;(try simp only [y_,z_]);refine wpT 6 ?_;(try simp only [y_,z_]);refine wpT 7 ?_;(try simp only [y_,z_]);refine wpT 8 ?_;(try simp only [y_,z_]);refine aR_ (rs:=[9]) (by kernel_rfl) (by simp) ?_;refine aC_ rfl (fun K hK=>?_) aN_;go_simp;refine (aBit_c p.imm k hk _).mono ?_;rintro e w4 ⟨rfl,rfl⟩;go_wp2_with fail
      refine hK.out _ _ ?_ (fun hHeld=>?_)
      ·exact hHeld
      clear hK K;(try simp only [y_,z_]);refine wpT 10 ?_;(try simp only [y_,z_]);refine aD_ (by kernel_rfl) ?_ _;go_wp2_with fail
      go_ret;refine ⟨by rw [HP1.out,←HR.out];rfl,?_,HUW.out.drewN 1⟩;rw [HP4.out,←HR.out];show TrS _ _ _ _ _ _ _ _ _ _ (spl N1 a []);rw [spl_nil];exact HT.out.upd (S:=Non) (Upd.refl.drewN 1) (fun f=>f) (fun f=>f) (fun _ _ _ f=>f)
     ·skip;have hox:=HOX _ e;have how:own=1:=by rw [←HOWN.out,e];rfl
      rw [how] at hR;rw [e] at hR y1;have HR:=h_ hR;have CA:=h_ (aArith_c HT.out hox.out hxg (by have:=HA.out;have:=HBN.out;omega) (.inl rfl) p.imm b0 b1 b2);unfold pp b8 at CA;clear HOX e hR hox;go_wp2_with fail
      refine CA.out.mono ?_;rintro e w4 ⟨rfl,T4,U4⟩;go_wp2_with fail
      go_ret;exact ⟨by rw [HP1.out,←HR.out];rfl,by rw [HP4.out,←HR.out];exact T4,HUW.out.trans U4 (fun _ _ q=>q)⟩
     ·skip;have hox:=HOX _ e;have how:own=1:=by rw [←HOWN.out,e];rfl
      rw [how] at hR;rw [e] at hR y1;have HR:=h_ hR;have CA:=h_ (aArith_c HT.out hox.out hxg (by have:=HA.out;have:=HBN.out;omega) (.inr (.inl rfl)) p.imm b0 b1 b2);unfold pp b8 at CA;clear HOX e hR hox;go_wp2_with fail
      refine CA.out.mono ?_;rintro e w4 ⟨rfl,T4,U4⟩;go_wp2_with fail
      go_ret;exact ⟨by rw [HP1.out,←HR.out];rfl,by rw [HP4.out,←HR.out];exact T4,HUW.out.trans U4 (fun _ _ q=>q)⟩
     ·skip;rw [e] at hR y1;have HR:=h_ hR;clear HOX e hR;go_wp2_with fail
      go_ret;refine ⟨by rw [HP1.out,←HR.out];rfl,?_,HUW.out⟩;rw [HP4.out,←HR.out];show TrS _ _ _ _ _ _ _ _ _ _ (spl N1 a []);rw [spl_nil];exact HT.out
     ·skip;rw [e] at hR y1;have HR:=h_ hR;clear HOX e hR;go_wp2_with fail
      go_ret;refine ⟨by rw [HP1.out,←HR.out];rfl,?_,HUW.out⟩;rw [HP4.out,←HR.out];show TrS _ _ _ _ _ _ _ _ _ _ (spl N1 a []);rw [spl_nil];exact HT.out
     ·skip;rw [e] at hR y1;have HR:=h_ hR;clear HOX e hR;go_wp2_with fail
      go_ret;refine ⟨by rw [HP1.out,←HR.out];rfl,?_,HUW.out⟩;rw [HP4.out,←HR.out];show TrS _ _ _ _ _ _ _ _ _ _ (spl N1 a []);rw [spl_nil];exact HT.out
     ·have hox:=HOX _ e;rw [e] at hR y1;have HR:=h_ hR;have CA:=h_ (aShiftB_c HT.out hox.out hxg (by have:=HA.out;have:=HBN.out;omega) hl p.imm b0 b1 b2);unfold pp b8 at CA;clear HOX e hR hox;go_wp2_with fail
      refine CA.out.mono ?_;rintro e w4 ⟨rfl,T4,U4⟩;go_wp2_with fail
      go_ret;exact ⟨by rw [HP1.out,←HR.out];rfl,by rw [HP4.out,←HR.out];exact T4,HUW.out.trans U4 (fun _ _ q=>q)⟩
     ·skip;have hox:=HOX _ e;have how:own=2:=by rw [←HOWN.out,e];rfl
      rw [how] at hR;rw [e] at hR y1;have HR:=h_ hR;have CA:=h_ (aCompB_c HT.out hox.out hxg (by have:=HA.out;have:=HBN.out;omega) hl (by decide) hk (HG0.out (by omega)) (HG1.out (by omega)) p.imm b0 b1 b2)
      unfold pp b8 at CA;clear HOX e hR hox;go_wp2_with fail
      refine CA.out.mono ?_;rintro e w4 ⟨rfl,T4,U4⟩;go_wp2_with fail
      go_ret;exact ⟨by rw [HP1.out,←HR.out];rfl,by rw [HP4.out,←HR.out];exact T4,HUW.out.trans U4 (fun _ _ q=>q)⟩
     ·skip;have hox:=HOX _ e;have how:own=2:=by rw [←HOWN.out,e];rfl
      rw [how] at hR;rw [e] at hR y1;have HR:=h_ hR;have CA:=h_ (aCompB_c HT.out hox.out hxg (by have:=HA.out;have:=HBN.out;omega) hl (by decide) hk (HG0.out (by omega)) (HG1.out (by omega)) p.imm b0 b1 b2)
      unfold pp b8 at CA;clear HOX e hR hox;go_wp2_with fail
      refine CA.out.mono ?_;rintro e w4 ⟨rfl,T4,U4⟩;go_wp2_with fail
      go_ret;exact ⟨by rw [HP1.out,←HR.out];rfl,by rw [HP4.out,←HR.out];exact T4,HUW.out.trans U4 (fun _ _ q=>q)⟩
     ·skip;have hox:=HOX _ e;have how:own=2:=by rw [←HOWN.out,e];rfl
      rw [how] at hR;rw [e] at hR y1;have HR:=h_ hR;have CA:=h_ (aCompB_c HT.out hox.out hxg (by have:=HA.out;have:=HBN.out;omega) hl (by decide) hk (HG0.out (by omega)) (HG1.out (by omega)) p.imm b0 b1 b2)
      unfold pp b8 at CA;clear HOX e hR hox;go_wp2_with fail
      refine CA.out.mono ?_;rintro e w4 ⟨rfl,T4,U4⟩;go_wp2_with fail
      go_ret;exact ⟨by rw [HP1.out,←HR.out];rfl,by rw [HP4.out,←HR.out];exact T4,HUW.out.trans U4 (fun _ _ q=>q)⟩
     ·skip;have hox:=HOX _ e;have how:own=2:=by rw [←HOWN.out,e];rfl
      rw [how] at hR;rw [e] at hR y1;have HR:=h_ hR;have CA:=h_ (aCompB_c HT.out hox.out hxg (by have:=HA.out;have:=HBN.out;omega) hl (by decide) hk (HG0.out (by omega)) (HG1.out (by omega)) p.imm b0 b1 b2)
      unfold pp b8 at CA;clear HOX e hR hox;go_wp2_with fail
      refine CA.out.mono ?_;rintro e w4 ⟨rfl,T4,U4⟩;go_wp2_with fail
      go_ret;exact ⟨by rw [HP1.out,←HR.out];rfl,by rw [HP4.out,←HR.out];exact T4,HUW.out.trans U4 (fun _ _ q=>q)⟩
     ·skip;have hox:=HOX _ e;have how:own=2:=by rw [←HOWN.out,e];rfl
      rw [how] at hR;rw [e] at hR y1;have HR:=h_ hR;have CA:=h_ (aCompB_c HT.out hox.out hxg (by have:=HA.out;have:=HBN.out;omega) hl (by decide) hk (HG0.out (by omega)) (HG1.out (by omega)) p.imm b0 b1 b2)
      unfold pp b8 at CA;clear HOX e hR hox;go_wp2_with fail
      refine CA.out.mono ?_;rintro e w4 ⟨rfl,T4,U4⟩;go_wp2_with fail
      go_ret;exact ⟨by rw [HP1.out,←HR.out];rfl,by rw [HP4.out,←HR.out];exact T4,HUW.out.trans U4 (fun _ _ q=>q)⟩
     ·skip;have hox:=HOX _ e;have how:own=1:=by rw [←HOWN.out,e];rfl
      rw [how] at hR;rw [e] at hR y1;have HR:=h_ hR;have CA:=h_ (aArith_c HT.out hox.out hxg (by have:=HA.out;have:=HBN.out;omega) (.inr (.inr rfl)) p.imm b0 b1 b2);unfold pp b8 at CA;clear HOX e hR hox;go_wp2_with fail
      refine CA.out.mono ?_;rintro e w4 ⟨rfl,T4,U4⟩;go_wp2_with fail
      go_ret;exact ⟨by rw [HP1.out,←HR.out];rfl,by rw [HP4.out,←HR.out];exact T4,HUW.out.trans U4 (fun _ _ q=>q)⟩
     ·rw [e] at hR y1;have HR:=h_ hR;clear HOX e hR;go_wp2_with fail
      go_ret;refine ⟨by rw [HP1.out,←HR.out];show Ending.returned (Value.int .u8 ((1 - bW b0) % 256))=_;rw [not8];rfl,?_,HUW.out⟩;rw [HP4.out,←HR.out];show TrS _ _ _ _ _ _ _ _ _ _ (spl N1 a []);rw [spl_nil];exact HT.out
     ·have how:own=2:=by rw [←HOWN.out,e];rfl
      have hal:a+1<O.length:=by have:=HA.out;have:=HBN.out;omega
      have hlN:N1.length=O.length:=HT.out.len;rw [how,drop_two hal] at hR;have hG0:=HG0.out (by omega);have hG1:=HG1.out (by omega);obtain ⟨ob,oo,eO,hFo,hob,hoc⟩:=HT.out.old.at_ (k:=a) (by rw [b8s_len];omega);subst eO
      have hcell:wr.cell? ⟨ob,oo+a,none⟩=some (b8 (O.getD a false)):=by
       rw [hoc];have:=b8s_get (l:=O) (i:=a) (by omega);rw [List.getElem?_eq_getElem (by rw [b8s_len];omega)] at this;exact this
      have hNc:wr.cell? ⟨g,a+1,none⟩=some (b8 (O.getD (a+1) false)):=by
       rw [HT.out.own.cell_ (i:=a+1) (by rw [b8s_len];omega)];have:=b8s_get (l:=N1) (i:=a+1) (by omega);rw [List.getElem?_eq_getElem (by rw [b8s_len];omega)] at this;rw [←hG1];exact this
      obtain ⟨gg,Hgg⟩:=nm (O.getD a false);obtain ⟨mm,Hmm⟩:=nm (O.getD (a+1) false);rw [Hgg.out] at hcell hR hG0;rw [Hmm.out] at hNc hR;have hNf:=HT.out.own.frozen_ (a+1);have x2:=HT.out.blk.cell 2;have x3:=HT.out.blk.cell 3;have y6:=HY6.out;have hne:s≠g:=HT.out.ne;have hfo:ob≠g:=T.far ob hFo;obtain ⟨L,HL⟩:=nm O.length;rw [HL.out] at x2 hal hlN;rw [hlN] at x3;have hl':L≤1000000:=by rw [←HL.out];exact hl
      have ai0:(0:Int)≤(a:Int):=by omega
      have ai1:(a:Int)<(L:Int):=by omega
      have q1:IntKind.i64.wrap ((a:Int)+1)=(a:Int)+1:=i64w_of (by unfold I64;omega);have q2:(0:Int)≤(a:Int)+1:=by omega
      have q3:(a:Int)+1<(L:Int):=by omega
      have q4:((a:Int)+1).toNat=a+1:=by omega
      obtain ⟨cc,Hcc⟩:=nm (mm || b0);have HRa:Hid (R.1=(if gg then b1 else b2)):=by rw [←hR,e];rfl
      have HRb:Hid (R.2=[gg,cc]):=by rw [←hR,e,←Hcc.out];rfl
      have HT2:Hid (TrS (wr.setCell ⟨g,a+1,none⟩ (b8 cc)) F s k h (some ⟨ob,oo,none⟩) oc g nc O (spl N1 a [gg,cc])):=by
       show TrS _ _ _ _ _ _ _ _ _ _ _;rw [spl_two (by omega) hG0];exact HT.out.set _ _
      have u2:=updCell wr g (a+1) (b8 cc);have f2:=u_ (S:=(·=g)) x2 u2 hne;have f3:=u_ (S:=(·=g)) x3 u2 hne;have f6:=u_ (S:=(·=g)) y6 u2 hxg;have fc:=u_ (S:=(·=g)) hcell u2 hfo;have F0:=u_ (S:=(·=g)) z0 u2 hvg;have F1:=u_ (S:=(·=g)) z1 u2 hvg;have F2:=u_ (S:=(·=g)) z2 u2 hvg;have U2:Hid (Upd (·=g) w (wr.setCell ⟨g,a+1,none⟩ (b8 cc))):=HUW.out.trans u2 (fun _ _ q=>q);have HC1:=Hcc.out;rw [e] at y1;unfold b8 at hcell hNc fc;have hg1:(bW true==1)=true:=rfl;have hg0:(bW false==1)=false:=rfl;clear HOX e hR u2 hG1 how hoc hob;go_wp2_with fail
      refine wp_region_held_drew (S:=fun w'=>w'.cell? ⟨s,3,none⟩=some (.slice (some ⟨g,0,none⟩) L nc)∧w'.cell? ⟨x,6,none⟩=some (.int .i64 (a:Int))∧w'.cell? ⟨vb,0,none⟩=some (.int .u8 (bW b0))) (by kernel_rfl) ⟨x3,y6,z0⟩ (fun hHeld=>?_)
      refine wpT 0 ?_;(try simp only [y_,z_]);refine wpT 1 ?_;(try simp only [y_,z_]);refine wpT 2 ?_;(try simp only [y_,z_]);refine wpT 3 ?_;(try simp only [y_,z_]);refine wpT 4 ?_;(try simp only [y_,z_]);refine wpT 5 ?_;(try simp only [y_,z_]);refine wpT 6 ?_;(try simp only [y_,z_]);refine wpT 7 ?_;(try simp only [y_,z_]);refine wpT 8 ?_;(try simp only [y_,z_]);refine wpT 9 ?_;(try simp only [y_,z_]);refine wpT 11 ?_;(try simp only [y_,z_]);refine wpT 12 ?_;(try simp only [y_,z_]);refine wpAnyH_takeM (fun w'=>w'.cell? ⟨g,a+1,none⟩=some (.int .u8 (bW mm))) (calm_cell _ _) [13,14,15] (i:=10) (v:=?_) rfl (by kernel_rfl) (by kernel_rfl) (by kernel_rfl) (by kernel_rfl) (fun _ _ _ h=>h) (Or.inl ⟨by rfl,?_⟩) (hNc) (by assumption) ?_
      rotate_left
      ·intro w hSw;(try dsimp only at hSw);go_simp;try with_reducible rfl
      (try simp only [y_,z_]);refine wpT 13 ?_;(try simp only [y_,z_]);refine wpT 14 ?_;(try simp only [y_,z_]);refine aR_ (rs:=[15]) (by kernel_rfl) (by simp) ?_;refine aC_ rfl (fun K hK=>?_) aN_;go_simp;refine hK.out _ _ ?_ (fun hHeld=>?_)
      ·exact ⟨f3,f6,F0⟩
      clear hK K;(try simp only [y_,z_]);refine aD_ (by kernel_rfl) ?_ _;go_wp2_with fail
      refine wp_region_held_drew (S:=fun w'=>w'.cell? ⟨s,2,none⟩=some (.slice (some ⟨ob,oo,none⟩) L oc)∧w'.cell? ⟨x,6,none⟩=some (.int .i64 (a:Int))∧w'.cell? ⟨ob,oo+a,none⟩=some (.int .u8 (bW gg))) (by kernel_rfl) ⟨f2,f6,fc⟩ (fun hHeld=>?_)
      refine wpT 0 ?_;(try simp only [y_,z_]);refine wpT 1 ?_;(try simp only [y_,z_]);refine wpT 2 ?_;(try simp only [y_,z_]);refine wpT 3 ?_;(try simp only [y_,z_]);refine wpT 4 ?_;(try simp only [y_,z_]);refine wpT 5 ?_;(try simp only [y_,z_]);refine wpT 6 ?_;(try simp only [y_,z_]);refine wpT 7 ?_;(try simp only [y_,z_]);refine wpT 8 ?_;(try simp only [y_,z_]);refine wpT 9 ?_;(try simp only [y_,z_]);refine wpT 10 ?_;(try simp only [y_,z_]);refine aD_ (by kernel_rfl) ?_ _;cases gg
      all_goals
       go_wp2_with fail
       go_ret;exact ⟨by rw [HP1.out,HRa.out];rfl,by rw [HP4.out,HRb.out];exact HT2.out.upd (S:=Non) (Upd.refl.drewN 2) (fun f=>f) (fun f=>f) (fun _ _ _ f=>f),U2.out.drewN 2⟩
end Go.Proofs.YtifhejahbbnkiaaGreat
