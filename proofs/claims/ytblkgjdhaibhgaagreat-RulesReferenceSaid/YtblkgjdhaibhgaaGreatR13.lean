/-
  Lemmas and walks that the claim rests on, part 13 (packed by a program).
-/
import Derived.Test.YtblkgjdhaibhgaaGreatR12
import Derived.Test.YtblkgjdhaibhgaaGreatR8
import Derived.Test.YtblkgjdhaibhgaaGreatR1
import Derived.Test.YtblkgjdhaibhgaaGreatRows
import Derived.ProofKit
import Derived.OpenShut
import Derived.SizedLaws
import Derived.Test.YtblkgjdhaibhgaaGreatR6
import Derived.Test.YtblkgjdhaibhgaaGreatR3
import Derived.Test.YtblkgjdhaibhgaaGreatR9
namespace Go.Proofs.YtblkgjdhaibhgaaGreat
open Go.RowKit
set_option maxRecDepth 100000 in
theorem xParse_c (s:ByteArray) (w:World):Calls Tryz.prog 11 #[.string s] w (ParseP (parseF (kx s)) w):=by
 obtain ⟨R,HR⟩:=nm (parseF (kx s));obtain ⟨W1,HW1⟩:=nm (w.alloc (.cells #[.int .i64 0,.int .i64 0] 31))
 have u1:Upd Non w W1:=by rw [←HW1.out];exact Upd.refl.alloc _
 have b1:Blk W1 w.heap.size 31 #[.int .i64 0,.int .i64 0]:=by rw [←HW1.out];exact Blk.new _ _ _
 have e1:=HW1.out;have CP:=Lib.hid (xparse_c s W1);rw [HR.out] at CP ⊢;have hl1:=b1.lt;have HB1:=Lib.hid b1;have HU1:=Lib.hid u1;clear b1 u1;go_enter Tryz.func11,Tryz.ntmps11
 go_wp2_with fail
 refine CP.out.mono ?_;rintro e w2 ⟨u2,h⟩;have b2:=HB1.out.upd u2 (fun f=>f);have r0:=b2.cell 0;have r1:=b2.cell 1;have rf:=b2.frozen;have HB2:=Lib.hid b2;have HU2:=Lib.hid (HU1.out.then_non u2);clear b2 u2 CP e1
 rcases h with ⟨er,h,rfl⟩ | ⟨Q,A,c,h,rfl,hv,hle⟩
 ·
  have HH:=Lib.hid h;clear h
  go_wp2_with fail
  rw [setE2_eq];have us:=setE2_upd w2 w.heap.size (.int .i64 er.1) (.int .i64 er.2);refine bodyPost_ret (results_tmp_cell rfl _ _ w.heap.size 31 _ (0,0) _ rfl (setE2_blk HB2.out _ _) Tryz.underlying31 rfl (by kernel_rfl)) rfl ?_;exact ⟨HU2.out.trans us (fun k hk e=>by omega),.inl ⟨er,HH.out,rfl⟩⟩
 ·
  have HH:=Lib.hid h;have HV:=Lib.hid hv;have HLE:=Lib.hid hle;clear h hv hle
  go_wp2_with fail
  rw [setE2_eq];have us:=setE2_upd w2 w.heap.size (.int .i64 0) (.int .i64 0);refine bodyPost_ret (results_tmp_cell rfl _ _ w.heap.size 31 _ (0,0) _ rfl (setE2_blk HB2.out _ _) Tryz.underlying31 rfl (by kernel_rfl)) rfl ?_
  exact ⟨HU2.out.trans us (fun k hk e=>by omega),.inr ⟨Q,A,c,HH.out,rfl,(HV.out.upd us (fun k _ q e=>by omega)).mono (fun k _ q=>by omega),HLE.out⟩⟩
section
variable {T:List (Bs×Nat)} {fin n:Nat} {ax:Bs→Option Rl}
end
def krB:Bs:=[114,117,108,101,32,97,100,100,45,116,117,114,110,58,32,40,97,100,100,32,63,97,32,63,98,41,32,61,62,32,40,97,100,100,32,63,98,32,63,97,41,59,10,114,117,108,101,32,97,100,100,45,122,101,114,111,58,32,40,97,100,100,32,63,97,32,48,41,32,61,62,32,63,97,59,10,114,117,108,101,32,97,100,100,45,114,111,119,58,32,40,97,100,100,32,40,97,100,100,32,63,97,32,63,98,41,32,63,99,41,32,61,62,32,40,97,100,100,32,63,97,32,40,97,100,100,32,63,98,32,63,99,41,41,59,10,114,117,108,101,32,109,117,108,45,116,119,111,58,32,40,109,117,108,32,63,97,32,50,41,32,61,62,32,40,97,100,100,32,63,97,32,63,97,41,59,10,114,117,108,101,32,109,117,108,45,115,104,108,58,32,40,109,117,108,32,63,97,32,52,41,32,61,62,32,40,115,104,108,32,63,97,32,50,41,59,10,114,117,108,101,32,115,117,98,45,115,101,108,102,58,32,40,115,117,98,32,63,97,32,63,97,41,32,61,62,32,48,59,10,114,117,108,101,32,120,111,114,45,115,101,108,102,58,32,40,120,111,114,32,63,97,32,63,97,41,32,61,62,32,48,59,10,114,117,108,101,32,97,110,100,45,115,101,108,102,58,32,40,97,110,100,32,63,97,32,63,97,41,32,61,62,32,63,97,59,10,114,117,108,101,32,110,101,103,45,110,111,116,58,32,40,110,101,103,32,63,97,41,32,61,62,32,40,97,100,100,32,40,110,111,116,32,63,97,41,32,49,41,59,10,114,117,108,101,32,97,100,100,45,115,112,108,105,116,58,32,40,97,100,100,32,63,97,32,63,98,41,32,61,62,32,40,97,100,100,32,40,120,111,114,32,63,97,32,63,98,41,32,40,115,104,108,32,40,97,110,100,32,63,97,32,63,98,41,32,49,41,41,59,10,114,117,108,101,32,101,113,45,115,101,108,102,58,32,40,101,113,32,63,97,32,63,97,41,32,61,62,32,49,59,10,114,117,108,101,32,108,116,45,115,101,108,102,58,32,40,108,116,32,63,97,32,63,97,41,32,61,62,32,48,59,10,114,117,108,101,32,110,101,45,122,101,114,111,58,32,40,110,101,32,63,97,32,48,41,32,61,62,32,49,32,105,102,32,110,111,110,122,101,114,111,32,63,97,59,10,114,117,108,101,32,108,116,45,108,101,97,115,116,58,32,40,108,116,32,63,97,32,48,41,32,61,62,32,48,32,105,102,32,108,101,97,115,116,32,63,97,32,48,59,10,114,117,108,101,32,115,101,108,45,115,97,109,101,58,32,40,115,101,108,32,63,97,32,63,98,32,63,98,41,32,61,62,32,63,98,59,10,114,117,108,101,32,101,113,45,97,112,97,114,116,58,32,40,101,113,32,63,97,32,63,98,41,32,61,62,32,48,32,105,102,32,97,112,97,114,116,32,63,97,32,63,98,59,10,97,120,105,111,109,32,100,105,118,45,111,110,101,59,10,97,120,105,111,109,32,100,105,118,45,115,101,108,102,59,10,97,120,105,111,109,32,114,101,109,45,115,101,108,102,59,10,97,120,105,111,109,32,110,101,101,100,45,116,114,117,101,59,10,97,120,105,111,109,32,110,101,101,100,45,116,119,105,99,101,59,10,97,120,105,111,109,32,108,111,97,100,45,115,116,111,114,101,59,10,97,120,105,111,109,32,108,111,97,100,45,97,112,97,114,116,59,10,97,120,105,111,109,32,108,111,97,100,45,111,116,104,101,114,59,10,97,120,105,111,109,32,108,111,97,100,45,110,101,101,100,59,10,97,120,105,111,109,32,108,111,97,100,45,111,117,116,59,10,97,120,105,111,109,32,115,116,111,114,101,45,108,111,97,100,59,10,97,120,105,111,109,32,114,101,116,45,111,117,116,59,10]
end Go.Proofs.YtblkgjdhaibhgaaGreat
namespace Go.Proofs.YtblkgjdhaibhgaaGreat
open Go.RowKit Go.WideShapes Go.ChangeShapes
section
variable {H:Type} {enc:TypeId×Value→H} {P:Program}
theorem post_of_below {f:Func} {s:ChangeSpec} {apart fresh handsOn again:Bool} {W W':World} {args:Array Value} {v:Value} {ds gs:List (DataW H)} {before pa pv:List MemPlace}
  (hW:DataW.Whole enc P f.params.toList s.vars apart W args.toList ds gs before)
  (hres:∀(b:Nat) (sp:Nat→Bool) (hd:Bool),DataW.TrodAll enc P W' b sp hd f.resultTypes.toList (v.resultList f.resultTypes.size) (s.fn H (ds++gs)).results [])
  (hargs:∀sp:Nat→Bool,(∀p∈before,sp p.block=true)→DataW.TrodAll enc P W' 0 sp true f.params.toList args.toList (s.fn H (ds++gs)).args pa)
  (hvars:∀sp:Nat→Bool,(∀p∈before,sp p.block=true)→DataW.TrodVars enc P W' sp s.vars (s.fn H (ds++gs)).vars pv)
  (hps:before=pa++pv) (hb:Below W.heap.size W W')
  (hok:∀(j:Nat) (t:TypeId) (r:Value),f.resultTypes[j]?=some t→(v.resultList f.resultTypes.size)[j]?=some r→Value.okWide P W' .any 0 t r) :
  s.post enc P f apart fresh handsOn again W args v W':=by
 have hlt:∀p∈before,p.block<W.heap.size:=fun p hp=>hW.lt p hp
 have hold:∀p∈before,(fun b=>decide (b<W.heap.size)) p.block=true:=fun p hp=>by simpa using hlt p hp
 refine ⟨ds,gs,before,[],pa,pv,hW,hres _ _ _,hargs _ hold,hvars _ hold,World.keptBut_mono (fun p hp=>⟨hp,?_⟩) (hb.frame (·∈before)),fun _=>?_⟩
 ·
  rw [hps,List.mem_append] at hp;exact Or.inr hp
 ·
  obtain ⟨_,_,_,_,_,hz,hn⟩:=hW;refine ⟨hok,_,_,([]++pa)++pv,⟨[]++pa,pv,trodAll_append (hargs _ (fun _ _=>rfl)) (hres _ _ _),hvars _ (fun _ _=>rfl),rfl,?_,?_⟩,?_⟩
  ·
   intro b off hp
   have hin:MemPlace.cell b off∈before:=by rw [hps];simpa using hp
   rw [hb.frozen (hlt _ hin)];exact hz b off hin
  ·
   intro ha;have:=hn ha;rw [hps] at this
   simpa using this
  ·
   intro p hp _;rw [hps]
   simpa using hp
theorem trodAll_stays (hl:laidOutB P=true) {W W':World} {sp:Nat→Bool}:∀{ts:List TypeId} {vs:List Value} {ds:List (DataW H)} {ps:List MemPlace},
  (ts.all fun t=>P.readableRec t&&decide (t<P.types.size))=true→DataW.TrodAll enc P W 0 (fun _=>true) true ts vs ds ps→(∀p∈ps,W.sameAt W' p)→(∀p∈ps,sp p.block=true)→DataW.TrodAll enc P W' 0 sp true ts vs ds ps
 | [],vs,ds,ps,_,h,_,_=>by
  obtain ⟨rfl,rfl,rfl⟩:=trodAll_nil h;exact trodAll_mk0
 | t::ts,vs,ds,ps,ht,h,h1,h2=>by
  obtain ⟨v,vs',d,ds',p,q,rfl,rfl,rfl,hp,hq⟩:=trodAll_cons h;simp only [List.all_cons,Bool.and_eq_true,decide_eq_true_eq] at ht
  exact trodAll_cons_mk (WideElems.Trod_stays hl ht.1.1 ht.1.2 hp (fun x hx=>h1 x (by simp [hx])) (fun x hx=>h2 x (by simp [hx])))
   (trodAll_stays hl ht.2 hq (fun x hx=>h1 x (by simp [hx])) (fun x hx=>h2 x (by simp [hx])))
theorem law_post {f:Func} {s:ChangeSpec} {apart fresh handsOn again:Bool} {W W':World} {args:Array Value} {ds gs:List (DataW H)} {before:List MemPlace} {tb:TypeId}
  (hW:DataW.Whole enc P f.params.toList s.vars apart W args.toList ds gs before) (hl:laidOutB P=true) (hts:(f.params.toList.all fun t=>P.readableRec t&&decide (t<P.types.size))=true) (hv:s.vars=[])
  (hrt:f.resultTypes=#[tb]) (hbool:P.underlying tb=some .bool) (hs:s.fn H (ds++gs)={ results:=[.lit (.bool true)],args:=ds }) (hb:Below W.heap.size W W') :
  s.post enc P f apart fresh handsOn again W args (.bool true) W':=by
 have hW2:=hW;obtain ⟨p,q,hA,hV,rfl,hz,hn⟩:=hW;rw [hv] at hV;obtain ⟨rfl,rfl⟩:=trodVars_none hV
 have hlt:∀x∈p,x.block<W.heap.size:=fun x hx=>hW2.lt x (by simpa using hx)
 refine post_of_below (pa:=p) (pv:=[]) hW2 (fun b sp hd=>?_) (fun sp hsp=>?_) (fun sp hsp=>?_) rfl hb ?_
 ·
  rw [hs,hrt];exact trodAll_mk1 (shut_bool hbool true)
 ·
  rw [hs];exact trodAll_stays hl hts hA (fun x hx=>hb.same (hlt x hx)) (fun x hx=>hsp x (by simpa using hx))
 ·
  rw [hs,hv];rfl
 ·
  intro j t r h1 h2;rw [hrt] at h1 h2
  match j,h1 with
  | 0,h1 =>
   simp at h1;subst h1;simp [Value.resultList] at h2;subst h2;exact okWide_bool_mk hbool true
end
theorem own_:ownKnob Tryz.prog.godebug=none:=by kernel_rfl
theorem laidOut_:laidOutB Tryz.prog=true:=by kernel_rfl
end Go.Proofs.YtblkgjdhaibhgaaGreat
namespace Go.Proofs.YtblkgjdhaibhgaaGreat
open Go.RowKit Go.WideShapes Go.ChangeShapes Go.ChangeAt
section
variable {H:Type} {enc:TypeId×Value→H} {P:Program} {w:World}
theorem i64_of_wf {n:Int} (h:(Lit.int .i64 n).wf=true):I64 n:=by
 have h1:IntKind.i64.min = -9223372036854775808:=rfl;have h2:IntKind.i64.max=9223372036854775807:=rfl;simp only [Lit.wf,Bool.and_eq_true,decide_eq_true_eq] at h;unfold I64;omega
theorem open_i64 {r:Reach} {b0 base:Nat} {sp:Nat→Bool} {held:Bool} {t:TypeId} {v:Value} {d:DataW H} {ps:List MemPlace} (ht:P.underlying t=some (.int .i64)) (hval:Value.okWide P w r b0 t v) (hd:DataW.Trod enc P w base sp held t v d ps) :
  ∃n,v=.int .i64 n∧I64 n:=by
 obtain ⟨n,h1,_,_,h2⟩:=open_int ht hval hd;exact ⟨n,h1,i64_of_wf h2⟩
theorem open_intsV {r:Reach} {b0 base:Nat} {sp:Nat→Bool} {held:Bool} {t e:TypeId} {v:Value} {d:DataW H} {ps:List MemPlace} (ht:P.underlying t=some (.slice e)) (he:P.underlying e=some (.int .i64)) (hc:P.cellsOf e=1) (hby:P.bytesOf e=8)
  (hval:Value.okWide P w r b0 t v) (hd:DataW.Trod enc P w base sp held t v d ps)
  {ts:List TypeId} {ds:List (DataW H)} (hsz:(DataW.weightsEach P ts ds).all (·≤reachBytes)=true) {j:Nat} (htj:ts[j]?=some t) (hdj:ds[j]?=some d) :
  ∃A c xs,v=.slice A xs.length c∧xs.length≤c∧Ints w (fun _=>True) A xs∧(∀x∈xs,I64 x)∧xs.length≤20000000000000:=by
 obtain ⟨a0,len,cap,rfl⟩:=okWide_slice ht hval;obtain ⟨fuel,hf⟩:=hd
 rcases open_ints ht he hc hf with ⟨hcs,hx⟩ | ⟨a,len',cap',zs,hcs,_,hl,hm,hz,hx,hcell,hwz⟩
 ·
  simp [Value.cells] at hcs;obtain ⟨rfl,rfl,rfl⟩:=hcs;exact ⟨none,0,[],rfl,by simp,.inl rfl,by simp,by simp⟩
 ·
  simp [Value.cells] at hcs;obtain ⟨rfl,rfl,rfl⟩:=hcs;simp only [Prod.mk.injEq] at hx;obtain ⟨rfl,rfl⟩:=hx
  have hzl:len≤zs.length:=by rw [hz];split <;> omega
  have hlen:(zs.take len).length=len:=by simp;omega
  refine ⟨some a,cap,zs.take len,by rw [hlen],by omega,?_,fun x hx=>i64_of_wf (hwz x (List.mem_of_mem_take hx)),?_⟩
  ·
   by_cases h0:len=0
   ·
    subst h0;exact .inl (by simp)
   ·
    obtain ⟨b,off,spot⟩:=a
    have hspot:spot=none:=by simpa [Addr.add] using World.cell?_spot (hcell 0 (by omega))
    subst hspot;refine .inr ⟨b,off,rfl,trivial,fun k hk=>?_⟩
    have hk':k<zs.length:=by simp at hk;omega
    have:=hcell k hk';rw [Addr.add_lit] at this;rw [this];simp [List.getD,hk']
  ·
   have:=sized_slice hsz htj hdj ht;rw [hby] at this;simp only [lits,List.length_map,List.length_take,List.length_drop,reachBytes] at this;rw [hlen];omega
end
theorem cells_int:Tryz.prog.cellsOf 3=1:=by kernel_rfl
theorem bytes_int:Tryz.prog.bytesOf 3=8:=by kernel_rfl
section
variable {w w':World} {F G K S:Nat→Prop} {A:Option Addr} {L M:List Rl} {n c:Nat} {cs ds:List Value}
end
set_option maxRecDepth 100000 in
theorem knownRules_c (w:World):Calls Tryz.prog 9 #[] w fun e w'=>e=.returned (.string (kstr krB))∧Upd Non w w':=by
 go_enter Tryz.func9,Tryz.ntmps9
 go_wp2_with fail
 go_ret;exact ⟨by kernel_rfl,Upd.refl⟩
theorem kConds_len (n:Int) (nv:Nat):(kCondsF n nv).length≤1:=by
 unfold kCondsF
 repeat' split
 all_goals simp
theorem side_size (op:Int) (p:Pt):(sideF op p).size≤1+p.size:=by
 unfold sideF
 split
 ·
  rw [Pt.size_one];exact Nat.le_refl _
 ·
  omega
theorem kRule_sz (name:ByteArray) (hn:name.size≤1000) (xs:List Int):RlSz (kRuleF name xs):=by
 have h1:=patF_size (3:Nat) false 3 1 xs.tail;have h2:=(numF_len (patF (3:Nat) false 3 1 xs.tail).1 [] []).2.2;have h3:=side_size 21 (numF (patF (3:Nat) false 3 1 xs.tail).1 [] []).1;have h4:=patF_size (numF (patF (3:Nat) false 3 1 xs.tail).1 [] []).2.1.length false 2 1 (patF (3:Nat) false 3 1 xs.tail).2
 have h5:=kConds_len (xs.headD 0) (numF (patF (3:Nat) false 3 1 xs.tail).1 [] []).2.1.length;simp only [kSize] at h1 h4;unfold kRuleF;dsimp only
 split
 ·
  exact ⟨by dsimp only;omega,by dsimp only;rw [Pt.size_leaf];omega,by simp,by dsimp only;omega⟩
 ·
  exact ⟨by dsimp only;omega,by dsimp only;omega,by dsimp only;omega,by dsimp only;omega⟩
theorem RlsV.two {w:World} {F:Nat→Prop} {g:Nat} {r s:Rl} {a b:RlA} (h:Blk w g 43 #[.string r.name,.int .i64 r.l.v,.int .i64 r.l.op,.int .i64 r.l.imm,.int .i64 r.l.iv,.slice a.la r.l.kids.length a.lc,.int .i64 r.r.v,.int .i64 r.r.op,.int .i64 r.r.imm,.int .i64 r.r.iv,.slice a.ra r.r.kids.length a.rc,.slice a.ca r.conds.length a.cc,.int .i64 r.vars,.int .i64 r.imms,.string s.name,.int .i64 s.l.v,.int .i64 s.l.op,.int .i64 s.l.imm,.int .i64 s.l.iv,.slice b.la s.l.kids.length b.lc,.int .i64 s.r.v,.int .i64 s.r.op,.int .i64 s.r.imm,.int .i64 s.r.iv,.slice b.ra s.r.kids.length b.rc,.slice b.ca s.conds.length b.cc,.int .i64 s.vars,.int .i64 s.imms])
  (hr:RlK w F r a) (hs:RlK w F s b) (hF:F g):RlsV w F (some ⟨g,0,none⟩) [r,s]:=by
 refine .inr ⟨g,0,rfl,hF,fun i hi=>?_⟩
 have : i=0∨i=1:=by simp at hi;omega
 rcases this with rfl | rfl
 ·
  exact ⟨a,⟨h.cell 0,h.cell 1,h.cell 2,h.cell 3,h.cell 4,h.cell 5,h.cell 6,h.cell 7,h.cell 8,h.cell 9,h.cell 10,h.cell 11,h.cell 12,h.cell 13⟩,hr⟩
 ·
  exact ⟨b,⟨h.cell 14,h.cell 15,h.cell 16,h.cell 17,h.cell 18,h.cell 19,h.cell 20,h.cell 21,h.cell 22,h.cell 23,h.cell 24,h.cell 25,h.cell 26,h.cell 27⟩,hs⟩
def rl2W (w:World) (r:Rl) (a:RlA) (s:Rl) (b:RlA):World:=w.alloc (.cells #[.string r.name,.int .i64 r.l.v,.int .i64 r.l.op,.int .i64 r.l.imm,.int .i64 r.l.iv,.slice a.la r.l.kids.length a.lc,.int .i64 r.r.v,.int .i64 r.r.op,.int .i64 r.r.imm,.int .i64 r.r.iv,.slice a.ra r.r.kids.length a.rc,.slice a.ca r.conds.length a.cc,.int .i64 r.vars,.int .i64 r.imms,.string s.name,.int .i64 s.l.v,.int .i64 s.l.op,.int .i64 s.l.imm,.int .i64 s.l.iv,.slice b.la s.l.kids.length b.lc,.int .i64 s.r.v,.int .i64 s.r.op,.int .i64 s.r.imm,.int .i64 s.r.iv,.slice b.ra s.r.kids.length b.rc,.slice b.ca s.conds.length b.cc,.int .i64 s.vars,.int .i64 s.imms] 43)
theorem rl2W_eq (w:World) (r:Rl) (a:RlA) (s:Rl) (b:RlA):w.alloc (.cells #[.string r.name,.int .i64 r.l.v,.int .i64 r.l.op,.int .i64 r.l.imm,.int .i64 r.l.iv,.slice a.la r.l.kids.length a.lc,.int .i64 r.r.v,.int .i64 r.r.op,.int .i64 r.r.imm,.int .i64 r.r.iv,.slice a.ra r.r.kids.length a.rc,.slice a.ca r.conds.length a.cc,.int .i64 r.vars,.int .i64 r.imms,.string s.name,.int .i64 s.l.v,.int .i64 s.l.op,.int .i64 s.l.imm,.int .i64 s.l.iv,.slice b.la s.l.kids.length b.lc,.int .i64 s.r.v,.int .i64 s.r.op,.int .i64 s.r.imm,.int .i64 s.r.iv,.slice b.ra s.r.kids.length b.rc,.slice b.ca s.conds.length b.cc,.int .i64 s.vars,.int .i64 s.imms] 43)=rl2W w r a s b:=rfl
theorem rl2W_is {w:World} {F:Nat→Prop} {r s:Rl} {a b:RlA} (hr:RlK w F r a) (hs:RlK w F s b):RlsV (rl2W w r a s b) (fun k=>k=w.heap.size∨F k) (some ⟨w.heap.size,0,none⟩) [r,s]∧Upd Non w (rl2W w r a s b):=by
 have u:Upd Non w (rl2W w r a s b):=by unfold rl2W;exact Upd.refl.alloc _
 exact ⟨RlsV.two (a:=a) (b:=b) (by unfold rl2W;exact Blk.new _ _ _) ((hr.upd u (fun _ _ _ f=>f)).mono fun _ _ h=>.inr h) ((hs.upd u (fun _ _ _ f=>f)).mono fun _ _ h=>.inr h) (.inl rfl),u⟩
def ifrom (A:Option Addr) (c i:Nat):Option Addr:=if c=i then A else A.map fun a=>a.add i
theorem Ints.from_ {W:World} {F:Nat→Prop} {A:Option Addr} {xs:List Int} (h:Ints W F A xs) {c i:Nat} (hc:xs.length≤c):Ints W F (ifrom A c i) (xs.drop i):=by
 by_cases hi:i<xs.length
 ·
  obtain ⟨b,o,rfl,hF,_,_⟩:=h.at_ hi;unfold ifrom;rw [if_neg (by omega)];refine .inr ⟨b,o+i,by simp [Addr.add_lit],hF,fun j hj=>?_⟩
  have hj2:i+j<xs.length:=by simp at hj;omega
  obtain ⟨b2,o2,e,_,_,hc2⟩:=h.at_ hj2
  injection e with e
  injection e with e1 e2
  subst e1 e2;rw [Nat.add_assoc,hc2];simp
 ·
  rw [List.drop_eq_nil_of_le (by omega)];exact Ints.nil
theorem extract_le (s:ByteArray) (i j:Nat):(s.extract i j).size≤s.size:=by
 rw [ByteArray.size_extract];omega
def TxP (w:World) (e:Ending) (w':World):Prop:=∃s:ByteArray,e=.returned (.string s)∧s.size≤10000∧Upd Non w w'
def TxQ (w:World) (v:Value) (w':World):Prop:=∃s:ByteArray,v=.string s∧s.size≤4000∧Upd Non w w'
set_option maxRecDepth 100000 in
set_option maxHeartbeats 4000000 in
theorem l17text_c (w:World) (F:Nat→Prop) (A:Option Addr) (c:Nat) (xs:List Int) (how at_:Int) (hx:Ints w F A xs) (hc:xs.length≤c) (hI:∀x∈xs,I64 x) (hn:xs.length≤100000000000000):Calls Tryz.prog 8 #[.slice A xs.length c,.int .i64 how,.int .i64 at_] w (TxP w):=by
 obtain ⟨n,Hn⟩:=nm xs.length;obtain ⟨mn,hmn⟩:∃mn:Nat,mn=min n 9:=⟨_,rfl⟩
 have hmn1:(if (9:Int)<(n:Int) then (9:Int) else (n:Int))=(mn:Int):=by split <;> omega
 have hmn2:(if 9<n then (9:Int) else (n:Int))=(mn:Int):=by split <;> omega
 have CR:=Lib.hid (fun (W:World) (u:Upd Non w W)=>kRule_c W F A c xs (kstr [111,110,101]) (hx.upd u (fun _ _ _ f=>f)) hc hI hn)
 have CS:=Lib.hid (fun (W:World) (u:Upd Non w W)=>kRule_c W F (ifrom A c mn) (c - mn) (xs.drop mn) (kstr [116,119,111]) ((hx.from_ hc).upd u (fun _ _ _ f=>f)) (by rw [List.length_drop];omega) (fun x hx=>hI x (List.mem_of_mem_drop hx)) (by rw [List.length_drop];omega))
 have HI1:Hid (∀x∈xs.take 40,I64 x):=fun x hx=>hI x (List.mem_of_mem_take hx)
 have HI2:Hid (∀x∈(xs.drop mn).take 40,I64 x):=fun x hx=>hI x (List.mem_of_mem_drop (List.mem_of_mem_take hx))
 rw [List.length_drop] at CS;obtain ⟨r1,Hr1⟩:=nm (kRuleF (kstr [111,110,101]) (xs.take 40));obtain ⟨r2,Hr2⟩:=nm (kRuleF (kstr [116,119,111]) ((xs.drop mn).take 40))
 have HZ:Hid (RlSz r1∧RlSz r2∧RlI r1∧RlI r2):=by
  show _∧_;rw [←Hr1.out,←Hr2.out];exact ⟨kRule_sz _ (by rw [kstr_size];decide) _,kRule_sz _ (by rw [kstr_size];decide) _,kRule_i _ _ HI1.out,kRule_i _ _ HI2.out⟩
 rw [Hr1.out] at CR;rw [Hr2.out] at CS;rw [Hn.out] at CR CS ⊢
 have hle:mn≤n:=by omega
 clear hmn;unfold ifrom at CS;obtain ⟨A2,hA2⟩:∃A2,(if c=mn then A else Option.map (fun a=>a.add mn) A)=A2:=⟨_,rfl⟩;rw [hA2] at CS
 have HPZ:Hid ((kstr (printF [r1,r2])).size≤4000):=by
  show _≤_;rw [kstr_size];unfold printF
  split
  ·
   rename_i h;have h2:=List.all_eq_true.1 h;refine Nat.le_trans (fmtRs_len (L:=[r1,r2]) fun q hq=>?_) (by simp);have hv:=h2 q hq;simp only [List.mem_cons,List.not_mem_nil,or_false] at hq
   rcases hq with rfl | rfl
   ·
    exact impl_fm hv HZ.out.2.2.1
   ·
    exact impl_fm hv HZ.out.2.2.2
  ·
   simp
 clear hx hc hI hn HI1 HI2;go_enter Tryz.func8,Tryz.ntmps8
 go_upto_region 1 with fail
 go_cut [7] (fun s wx=>TxQ w s wx)
 case first =>
  obtain ⟨wD,HwD⟩:=nm w.drew
  have uD:Upd Non w wD:=by rw [←HwD.out];exact Upd.refl.drew
  refine wp_region_held_drew (S:=fun _=>True) (by kernel_rfl) trivial (fun hHeld=>?_);rw [HwD.out];refine wpT 0 ?_
  try simp only [put_y,put_z]
  refine wpT 2 ?_
  try simp only [put_y,put_z]
  refine wpT 3 ?_
  try simp only [put_y,put_z]
  refine wpT 4 ?_
  try simp only [put_y,put_z]
  refine wpT 5 ?_
  try simp only [put_y,put_z]
  refine wpT 6 ?_
  try simp only [put_y,put_z]
  refine wpAnyH_ready (rs:=[1]) (by kernel_rfl) (by simp) ?_;refine AllReadyH.cons rfl (fun K hK=>?_) AllReadyH.nil;go_simp;refine (CR.out wD uD).mono ?_;rintro e w5 ⟨a1,rfl,hk5,u5⟩
  go_wp2_with fail
  refine hK.out _ _ ?_ (fun hHeld=>?_)
  ·
   exact trivial
  clear hK K
  try simp only [put_y,put_z]
  refine wpAnyH_ready (rs:=[7]) (by kernel_rfl) (by simp) ?_;refine AllReadyH.cons rfl (fun K hK=>?_) AllReadyH.nil;go_simp;refine (CS.out w5 (uD.then_non u5)).mono ?_;rintro e w6 ⟨a2,rfl,hk6,u6⟩
  go_wp2_with fail
  refine hK.out _ _ ?_ (fun hHeld=>?_)
  ·
   exact trivial
  clear hK K
  try simp only [put_y,put_z]
  simp only [rlv,rlCells];refine wpAnyH_ready (rs:=[8]) (by kernel_rfl) (by simp) ?_;refine AllReadyH.cons rfl (fun K hK=>?_) AllReadyH.nil;go_simp;rw [rl2W_eq];have hk5':=(hk5.upd u6 (fun _ _ _ f=>f)).mono (G:=fun _=>True) (fun _ _ _=>trivial);have hk6':=hk6.mono (G:=fun _=>True) (fun _ _ _=>trivial);obtain ⟨hv8,u8⟩:=rl2W_is hk5' hk6'
  obtain ⟨W8,HW8⟩:=nm (rl2W w6 r1 a1 r2 a2);rw [HW8.out] at hv8 u8 ⊢;refine hK.out _ _ ?_ (fun hHeld=>?_)
  ·
   exact trivial
  clear hK K
  try simp only [put_y,put_z]
  have CPR:=Lib.hid (xPrint_c W8 _ _ 2 [r1,r2] hv8 (fun r hr=>by
   simp only [List.mem_cons,List.not_mem_nil,or_false] at hr
   rcases hr with rfl | rfl
   ·
    exact HZ.out.1
   ·
    exact HZ.out.2.1) (fun r hr=>by
   simp only [List.mem_cons,List.not_mem_nil,or_false] at hr
   rcases hr with rfl | rfl
   ·
    exact HZ.out.2.2.1
   ·
    exact HZ.out.2.2.2) (by simp))
  have hU8:=((uD.then_non u5).then_non u6).then_non u8;clear hk5 hk6 hk5' hk6' hv8;obtain ⟨ps,Hps⟩:=nm (kstr (printF [r1,r2]));rw [Hps.out] at CPR
  have hpz:ps.size≤4000:=by rw [←Hps.out];exact HPZ.out
  have HPS:=Lib.hid hpz;clear hpz;refine wpAnyH_ready (rs:=[9]) (by kernel_rfl) (by simp) ?_;refine AllReadyH.cons rfl (fun K hK=>?_) AllReadyH.nil;go_simp;refine CPR.out.mono ?_;rintro e w9 ⟨rfl,u9⟩
  go_wp2_with fail
  refine hK.out _ _ ?_ (fun hHeld=>?_)
  ·
   exact trivial
  clear hK K
  try simp only [put_y,put_z]
  refine wpT 10 ?_
  try simp only [put_y,put_z]
  refine wpAnyH_done (by kernel_rfl) ?_ _
  go_wp2_with fail
  go_meet
  case rel=>exact ⟨ps,rfl,HPS.out,hU8.then_non u9⟩
 case rest =>
  obtain ⟨z,rfl,hz,hwc⟩:=hcut;have HZZ:=Lib.hid hz;have HWC:=Lib.hid hwc;clear hz hwc CR CS HPZ hmn1 hmn2 hA2 hle;have C2:=Lib.hid (fun W=>pick_c how 2 W (by omega) (by omega));have CK:=Lib.hid (fun W=>knownRules_c W)
  have hkz:(kstr krB).size≤4000:=by rw [kstr_size];decide +kernel
  obtain ⟨ks,Hks⟩:=nm (kstr krB);rw [Hks.out] at CK hkz;have HKZ:=Lib.hid hkz;obtain ⟨B,hB⟩:∃B,(how % 2==0)=B:=⟨_,rfl⟩;clear hkz Hks
  go_wp2_with fail
  refine (C2.out _).mono ?_;rintro e w2 ⟨rfl,rfl⟩
  go_upto_if 21 with fail
  go_cut [7] (fun s wx=>TxQ w s wx)
  case first =>
   cases B with
   | true =>
    go_wp2_with fail
    refine (CK.out _).mono ?_;rintro e w3 ⟨rfl,u3⟩
    go_wp2_with fail
    go_meet
    case rel=>exact ⟨ks,rfl,HKZ.out,HWC.out.then_non u3⟩
   | false =>
    go_wp2_with fail
    go_meet
    case rel=>exact ⟨z,rfl,HZZ.out,HWC.out⟩
  case rest =>
   clear HZZ HWC hB C2 CK;obtain ⟨y,rfl,hy,hwy⟩:=hcut;have HWY:=Lib.hid hwy;clear hwy;have CA:=Lib.hid (fun W=>pick_c at_ ((y.size:Int)+1) W (by omega) (by omega));obtain ⟨k,hk⟩:∃k:Nat,at_ % ((y.size:Int)+1)=(k:Int):=Int.eq_ofNat_of_zero_le (Int.emod_nonneg _ (by omega))
   have hkl:k≤y.size:=by
    have:=Int.emod_lt_of_pos at_ (show (0:Int)<(y.size:Int)+1 by omega);omega
   rw [hk] at CA;clear hk;obtain ⟨q1,hq1⟩:∃q,IntKind.i64.wrap (how.tdiv 2)=q:=⟨_,rfl⟩;obtain ⟨q2,hq2⟩:∃q,IntKind.i64.wrap (how.tdiv 80)=q:=⟨_,rfl⟩;obtain ⟨q3,hq3⟩:∃q,IntKind.i64.wrap (at_.tdiv 9)=q:=⟨_,rfl⟩;obtain ⟨j2,hj2⟩:∃k:Nat,q2 % 2=(k:Int):=Int.eq_ofNat_of_zero_le (by omega)
   obtain ⟨j3,hj3⟩:∃k:Nat,q3 % 3=(k:Int):=Int.eq_ofNat_of_zero_le (by omega);have C2:=Lib.hid (fun W=>pick_c q2 2 W (by omega) (by omega));have C3:=Lib.hid (fun W=>pick_c q3 3 W (by omega) (by omega))
   have h2:j2≤1:=by omega
   have h3:j3≤2:=by omega
   rw [hj2] at C2;rw [hj3] at C3;clear hj2 hj3;obtain ⟨kj,hkj⟩:∃kj:Nat,kj=k+j3:=⟨_,rfl⟩
   have wkj:IntKind.i64.wrap ((k:Int)+(j3:Int))=(kj:Int):=by rw [i64w_of (by unfold I64;omega)];omega
   obtain ⟨mm,hmm⟩:∃mm:Nat,mm=min y.size kj:=⟨_,rfl⟩
   have hm1:(if (kj:Int)<(y.size:Int) then (kj:Int) else (y.size:Int))=(mm:Int):=by split <;> omega
   have hm2:(if kj<y.size then (kj:Int) else (y.size:Int))=(mm:Int):=by split <;> omega
   have hml:mm≤y.size:=by omega
   have HE1:Hid ((y.extract 0 k).size≤4000):=by show _≤_;have:=extract_le y 0 k;omega
   have HE3:Hid ((y.extract mm y.size).size≤4000):=by show _≤_;have:=extract_le y mm y.size;omega
   obtain ⟨e1,he1⟩:∃e,y.extract 0 k=e:=⟨_,rfl⟩;obtain ⟨e3,he3⟩:∃e,y.extract mm y.size=e:=⟨_,rfl⟩;rw [he1] at HE1;rw [he3] at HE3;clear hkj hmm
   go_wp2_with fail
   refine (CA.out _).mono ?_;rintro e w3 ⟨rfl,rfl⟩;clear CA
   go_upto_region 5 with fail
   obtain ⟨WW,hWW⟩:∃v:World,v=wc:=⟨_,rfl⟩;subst hWW;obtain ⟨wD,HwD⟩:=nm WW.drew
   have uD:Upd Non WW wD:=by rw [←HwD.out];exact Upd.refl.drew
   refine wp_region_held_drew (S:=fun _=>True) (by kernel_rfl) trivial (fun hHeld=>?_);rw [HwD.out];refine wpT 0 ?_
   try simp only [put_y,put_z]
   refine wpT 1 ?_
   try simp only [put_y,put_z]
   refine wpT 2 ?_
   try simp only [put_y,put_z]
   refine wpT 3 ?_
   try simp only [put_y,put_z]
   refine wpT 4 ?_
   try simp only [put_y,put_z]
   refine wpT 7 ?_
   try simp only [put_y,put_z]
   refine wpT 8 ?_
   try simp only [put_y,put_z]
   refine wpT 12 ?_
   try simp only [put_y,put_z]
   refine wpT 13 ?_
   try simp only [put_y,put_z]
   refine wpT 14 ?_
   try simp only [put_y,put_z]
   refine wpT 15 ?_
   try simp only [put_y,put_z]
   refine wpT 16 ?_
   try simp only [put_y,put_z]
   refine wpT 17 ?_
   try simp only [put_y,put_z]
   refine wpAnyH_ready (rs:=[5]) (by kernel_rfl) (by simp) ?_;refine AllReadyH.cons rfl (fun K hK=>?_) AllReadyH.nil;go_simp
   have hA:Ints (wD.alloc (.cells #[.int .i64 q1] 3)) (fun _=>True) (some ⟨wD.heap.size,0,none⟩) [q1]:=(Sl.new wD 3 [.int .i64 q1]).mono (fun _ _ _=>trivial)
   have u5:Upd Non wD (wD.alloc (.cells #[.int .i64 q1] 3)):=Upd.refl.alloc _;obtain ⟨W5,HW5⟩:=nm (wD.alloc (.cells #[.int .i64 q1] 3));rw [HW5.out] at hA u5 ⊢;refine hK.out _ _ ?_ (fun hHeld=>?_)
   ·
    exact trivial
   clear hK K
   try simp only [put_y,put_z]
   have CPC:=Lib.hid (l17pieces_c W5 _ _ 1 [q1] hA (by simp));clear hA;refine wpAnyH_ready (rs:=[6]) (by kernel_rfl) (by simp) ?_;refine AllReadyH.cons rfl (fun K hK=>?_) AllReadyH.nil;go_simp;refine CPC.out.mono ?_;rintro e w6 ⟨s1,rfl,b1,b2,u6⟩;have b2:=b2 (by simp)
   have hj2:j2≤s1.size:=by omega
   have HE2:Hid ((s1.extract 0 j2).size≤480):=by show _≤_;have:=extract_le s1 0 j2;omega
   obtain ⟨e2,he2⟩:∃e,s1.extract 0 j2=e:=⟨_,rfl⟩;rw [he2] at HE2
   have g1:¬9223372036854775807<e1.size+e2.size:=by have:=HE1.out;have:=HE2.out;omega
   have g2:¬9223372036854775807<e1.size+e2.size+e3.size:=by have:=HE1.out;have:=HE2.out;have:=HE3.out;omega
   go_wp2_with fail
   refine hK.out _ _ ?_ (fun hHeld=>?_)
   ·
    exact trivial
   clear hK K
   try simp only [put_y,put_z]
   refine wpAnyH_takeC (i:=9) (v:=?v1) rfl (by kernel_rfl) (by kernel_rfl) (by kernel_rfl) (fun _ _ _ h=>h) ⟨by rfl,?f1,?a1,?r1,?c1⟩ (by assumption) ?m1
   case r1=>intro w;go_simp;constructor <;> with_reducible rfl
   case c1=>intro W hSw;refine (C2.out W).mono ?_;rintro e w' ⟨rfl,rfl⟩;constructor <;> with_reducible rfl
   try simp only [put_y,put_z]
   refine wpT 10 ?_
   try simp only [put_y,put_z]
   refine wpT 11 ?_
   try simp only [put_y,put_z]
   refine wpAnyH_takeC (i:=18) (v:=?v2) rfl (by kernel_rfl) (by kernel_rfl) (by kernel_rfl) (fun _ _ _ h=>h) ⟨by rfl,?f2,?a2,?r2,?c2⟩ (by assumption) ?m2
   case r2=>intro w;go_simp;constructor <;> with_reducible rfl
   case c2=>intro W hSw;refine (C3.out W).mono ?_;rintro e w' ⟨rfl,rfl⟩;constructor <;> with_reducible rfl
   try simp only [put_y,put_z]
   refine wpT 19 ?_
   try simp only [put_y,put_z]
   refine wpT 20 ?_
   try simp only [put_y,put_z]
   refine wpT 21 ?_
   try simp only [put_y,put_z]
   refine wpT 22 ?_
   try simp only [put_y,put_z]
   refine wpT 23 ?_
   try simp only [put_y,put_z]
   refine wpAnyH_done (by kernel_rfl) ?_ _
   go_wp2_with fail
   go_ret;refine ⟨_,rfl,?_,((HWY.out.then_non uD).then_non u5).then_non u6⟩;have h1:=HE1.out;have h2:=HE2.out;have h3:=HE3.out;simp only [ByteArray.size_append'];omega
set_option maxRecDepth 100000 in
set_option maxHeartbeats 2000000 in
theorem rEqualPats_c (p:Pt):∀(q:Pt) (w:World) (F G:Nat→Prop) (KA KC:Option Addr) (kc kd:Nat),PtK w F p KA kc→PtK w G q KC kd→p.size≤1000000000000 →
  Calls Tryz.prog 57 #[pv p KA kc,pv q KC kd] w fun e w'=>e=.returned (.bool (ptE p q))∧Upd Non w w':=by
 induction p using Pt.ind with
 | h p ih =>
  intro q w F G KA KC kc kd hp hq hs;have hse:=Pt.size_eq p;have hle:=Pt.len_le p.kids;have HI:=Lib.hid ih;have HE:=Lib.hid (ptE_eq p q);obtain ⟨res,Hres⟩:=nm (ptE p q);rw [Hres.out] at HE ⊢;obtain ⟨W1,HW1⟩:=nm (w.alloc (.cells #[.int .i64 p.v,.int .i64 p.op,.int .i64 p.imm,.int .i64 p.iv,.slice KA p.kids.length kc] 40))
  have u1:Upd Non w W1:=by rw [←HW1.out];exact Upd.refl.alloc _
  have b1:Blk W1 w.heap.size 40 #[.int .i64 p.v,.int .i64 p.op,.int .i64 p.imm,.int .i64 p.iv,.slice KA p.kids.length kc]:=by rw [←HW1.out];exact Blk.new _ _ _
  have s1:W1.heap.size=w.heap.size+1:=by rw [←HW1.out];simp
  obtain ⟨W2,HW2⟩:=nm (W1.alloc (.cells #[.int .i64 q.v,.int .i64 q.op,.int .i64 q.imm,.int .i64 q.iv,.slice KC q.kids.length kd] 40))
  have u2:Upd Non W1 W2:=by rw [←HW2.out];exact Upd.refl.alloc _
  have b2:Blk W2 (w.heap.size+1) 40 #[.int .i64 q.v,.int .i64 q.op,.int .i64 q.imm,.int .i64 q.iv,.slice KC q.kids.length kd]:=by rw [←HW2.out,←s1];exact Blk.new _ _ _
  have b1:=b1.upd u2 (fun f=>f);have U2:=u1.then_non u2;have e1:=HW1.out;have e2:=HW2.out;have HB1:=Lib.hid b1;have HB2:=Lib.hid b2;have HU:=Lib.hid U2;have HP:=Lib.hid (PtK.upd U2 (fun _ _ _ f=>f) p KA kc hp);have HQ:=Lib.hid (PtK.upd U2 (fun _ _ _ f=>f) q KC kd hq);have c0:=b1.cell 0;have c1:=b1.cell 1;have c2:=b1.cell 2;have c3:=b1.cell 3;have c4:=b1.cell 4
  have d0:=b2.cell 0;have d1:=b2.cell 1;have d2:=b2.cell 2;have d3:=b2.cell 3;have d4:=b2.cell 4;unfold pv;clear ih hp hq u1 u2 b1 b2 U2 HW1 HW2
  have HV:Hid ((p.v != q.v)=!decide (p.v=q.v)):=by show _=_;by_cases h:p.v=q.v <;> simp [h]
  obtain ⟨pn,Hpn⟩:=nm p.kids.length;obtain ⟨qn,Hqn⟩:=nm q.kids.length;rw [Hpn.out] at c4 e1 hle HE;rw [Hqn.out] at d4 e2 HE;rw [Hpn.out,Hqn.out]
  by_cases h1:p.v=q.v
  ·
   by_cases h2:p.op=q.op
   ·
    by_cases h3:p.imm=q.imm
    ·
     by_cases h4:p.iv=q.iv
     ·
      by_cases h5:pn=qn
      ·
       have t1:(p.v != q.v)=false:=by simpa using h1
       have t2:(p.op != q.op)=false:=by simpa using h2
       have t3:(p.imm != q.imm)=false:=by simpa using h3
       have t4:(p.iv != q.iv)=false:=by simpa using h4
       have t5:((pn:Int) != (qn:Int))=false:=by simp [h5]
       have HR:Hid (res=ptEL p.kids q.kids):=by show _=_;rw [HE.out,decide_eq_true ⟨h1,h2,h3,h4,h5⟩,Bool.true_and]
       clear h1 h2 h3 h4;subst h5;obtain ⟨n,rfl⟩:∃m,m=pn:=⟨_,rfl⟩
       have hn12:n≤1000000000000:=by omega
       go_enter Tryz.func57,Tryz.ntmps57
       go_wp2_with fail
       clear e1 e2 c0 c1 c2 c3 d0 d1 d2 d3 t1 t2 t3 t4 t5
       go_loopg [5,44] n (fun g _ iv wr=>∃k:Nat,Hid (g=n - k)∧k≤n∧iv=.int .i64 k∧Hid (∀i (h:i<p.kids.length) (h2:i<q.kids.length),i<k→ptE p.kids[i] q.kids[i]=true)∧Hid (Upd Non W2 wr))
       case atStart=>exact ⟨0,rfl,Nat.zero_le _,rfl,fun i _ _ h=>by omega,Upd.refl⟩
       case round =>
        obtain ⟨k,Hg,hk,rfl,HA,Hu⟩:=hrel;have c4:=cell_upd c4 Hu.out (fun f=>f);have d4:=cell_upd d4 Hu.out (fun f=>f)
        by_cases hlt:k<n
        ·
         have hkl:k<p.kids.length:=by rw [Hpn.out];exact hlt
         have hkq:k<q.kids.length:=by rw [Hqn.out];exact hlt
         obtain ⟨b,o,rfl,hF,hbw,KB,c1_,g0,g1,g2,g3,g4,g5⟩:=(PtK.upd Hu.out (fun _ _ _ f=>f) p KA kc HP.out).at_ hkl;obtain ⟨b2,o2,rfl,hG,hbw2,KZ,c2_,k0,k1,k2,k3,k4,k5⟩:=(PtK.upd Hu.out (fun _ _ _ f=>f) q KC kd HQ.out).at_ hkq
         have hks:p.kids[k].size≤1000000000000:=by have:=Pt.kids_lt (List.getElem_mem hkl);omega
         have HNX:Hid (ptE p.kids[k] q.kids[k]=false→res=false):=fun h=>by rw [HR.out];exact ptEL_no hkl hkq h
         have HNY:Hid (ptE p.kids[k] q.kids[k]=true→∀i (h:i<p.kids.length) (h2:i<q.kids.length),i<k+1→ptE p.kids[i] q.kids[i]=true):=fun h i h1 h2 h3=>by
          by_cases e:i=k
          ·
           subst e;exact h
          ·
           exact HA.out i h1 h2 (by omega)
         have CR:=Lib.hid (fun W (u:Upd Non wr W)=>HI.out _ (List.getElem_mem hkl) q.kids[k] W F G KB KZ c1_ c2_ (PtK.upd u (fun _ _ _ f=>f) _ _ _ g5) (PtK.upd u (fun _ _ _ f=>f) _ _ _ k5) hks)
         generalize p.kids[k]=x at *;generalize q.kids[k]=z at *;unfold pv at CR;obtain ⟨B,HB⟩:=nm (ptE x z);rw [HB.out] at CR;clear g5 k5 hks
         go_upto_region 6 with fail
         go_cut [58] (fun s wx=>s=.bool (!B)∧Upd Non wr wx)
         case first =>
          obtain ⟨wD,HwD⟩:=nm wr.drew
          have uD:Upd Non wr wD:=by rw [←HwD.out];exact Upd.refl.drew
          refine wp_region_held_drew (S:=fun w'=>w'.cell? ⟨w.heap.size,4,none⟩=some (.slice (some ⟨b,o,none⟩) n kc)∧w'.cell? ⟨w.heap.size+1,4,none⟩=some (.slice (some ⟨b2,o2,none⟩) n kd)∧w'.cell? ⟨b,o+k * 5,none⟩=some (.int .i64 x.v)∧w'.cell? ⟨b,o+k * 5+1,none⟩=some (.int .i64 x.op)∧w'.cell? ⟨b,o+k * 5+2,none⟩=some (.int .i64 x.imm)∧w'.cell? ⟨b,o+k * 5+3,none⟩=some (.int .i64 x.iv)∧w'.cell? ⟨b,o+k * 5+4,none⟩=some (.slice KB x.kids.length c1_)∧w'.cell? ⟨b2,o2+k * 5,none⟩=some (.int .i64 z.v)∧w'.cell? ⟨b2,o2+k * 5+1,none⟩=some (.int .i64 z.op)∧w'.cell? ⟨b2,o2+k * 5+2,none⟩=some (.int .i64 z.imm)∧w'.cell? ⟨b2,o2+k * 5+3,none⟩=some (.int .i64 z.iv)∧w'.cell? ⟨b2,o2+k * 5+4,none⟩=some (.slice KZ z.kids.length c2_)) (by kernel_rfl) (by rw [HwD.out];exact ⟨cell_upd c4 uD (fun f=>f),cell_upd d4 uD (fun f=>f),cell_upd g0 uD (fun f=>f),cell_upd g1 uD (fun f=>f),cell_upd g2 uD (fun f=>f),cell_upd g3 uD (fun f=>f),cell_upd g4 uD (fun f=>f),cell_upd k0 uD (fun f=>f),cell_upd k1 uD (fun f=>f),cell_upd k2 uD (fun f=>f),cell_upd k3 uD (fun f=>f),cell_upd k4 uD (fun f=>f)⟩) (fun hHeld=>?_)
          rw [HwD.out] at hHeld ⊢;refine wpT 0 ?_
          try simp only [put_y,put_z]
          refine wpT 1 ?_
          try simp only [put_y,put_z]
          refine wpT 2 ?_
          try simp only [put_y,put_z]
          refine wpT 3 ?_
          try simp only [put_y,put_z]
          refine wpT 4 ?_
          try simp only [put_y,put_z]
          refine wpT 5 ?_
          try simp only [put_y,put_z]
          refine wpT 6 ?_
          try simp only [put_y,put_z]
          refine wpT 7 ?_
          try simp only [put_y,put_z]
          refine wpT 8 ?_
          try simp only [put_y,put_z]
          refine wpT 9 ?_
          try simp only [put_y,put_z]
          refine wpAnyH_ready (rs:=[10]) (by kernel_rfl) (by simp) ?_;refine AllReadyH.cons rfl (fun K hK=>?_) AllReadyH.nil;go_simp;refine (CR.out _ uD).mono ?_;rintro e w5 ⟨rfl,u5⟩;have h5:Upd Non wr w5:=uD.then_non u5
          go_wp2_with fail
          refine hK.out _ _ ?_ (fun hHeld=>?_)
          ·
           exact ⟨cell_upd c4 h5 (fun f=>f),cell_upd d4 h5 (fun f=>f),cell_upd g0 h5 (fun f=>f),cell_upd g1 h5 (fun f=>f),cell_upd g2 h5 (fun f=>f),cell_upd g3 h5 (fun f=>f),cell_upd g4 h5 (fun f=>f),cell_upd k0 h5 (fun f=>f),cell_upd k1 h5 (fun f=>f),cell_upd k2 h5 (fun f=>f),cell_upd k3 h5 (fun f=>f),cell_upd k4 h5 (fun f=>f)⟩
          clear hK K
          try simp only [put_y,put_z]
          refine wpT 11 ?_
          try simp only [put_y,put_z]
          refine wpAnyH_done (by kernel_rfl) ?_ _
          go_wp2_with fail
          go_meet
          case rel=>exact ⟨rfl,h5⟩
         case rest =>
          obtain ⟨rfl,hwc⟩:=hcut;have HUC:=Lib.hid (Hu.out.then_non hwc);have c4:=cell_upd c4 hwc (fun f=>f);clear CR g0 g1 g2 g3 g4 k0 k1 k2 k3 k4 hwc
          cases B with
          | false =>
           have HF:Hid (res=false):=HNX.out HB.out
           go_wp2_with fail
           go_ret;exact ⟨by rw [HF.out];rfl,HU.out.then_non HUC.out⟩
          | true =>
           have HA2:=Lib.hid (HNY.out HB.out)
           go_wp2_with fail
           go_roundg (n - (k+1))
           case measure=>rw [Hg.out];omega
           case rel=>exact ⟨k+1,rfl,by omega,by go_num,HA2,HUC⟩
        ·
         obtain rfl:n=k:=by omega
         have HT:Hid (res=true):=by
          show _=_;rw [HR.out]
          exact ptEL_of fun i h1 h2=>HA.out i h1 h2 (by rw [←Hpn.out];exact h1)
         go_wp2_with fail
         go_ret;exact ⟨by rw [HT.out];rfl,HU.out.then_non Hu.out⟩
      ·
       have t1:(p.v != q.v)=false:=by simpa using h1
       have t2:(p.op != q.op)=false:=by simpa using h2
       have t3:(p.imm != q.imm)=false:=by simpa using h3
       have t4:(p.iv != q.iv)=false:=by simpa using h4
       have t5:((pn:Int) != (qn:Int))=true:=by simpa using fun e=>h5 (by omega)
       have HR:Hid (res=false):=by show _=_;rw [HE.out,decide_eq_false (fun h=>h5 h.2.2.2.2),Bool.false_and]
       clear h1 h2 h3 h4 h5;go_enter Tryz.func57,Tryz.ntmps57
       go_wp2_with fail
       go_ret;exact ⟨by rw [HR.out];rfl,HU.out⟩
     ·
      have t1:(p.v != q.v)=false:=by simpa using h1
      have t2:(p.op != q.op)=false:=by simpa using h2
      have t3:(p.imm != q.imm)=false:=by simpa using h3
      have t4:(p.iv != q.iv)=true:=by simpa using h4
      have HR:Hid (res=false):=by show _=_;rw [HE.out,decide_eq_false (fun h=>h4 h.2.2.2.1),Bool.false_and]
      clear h1 h2 h3 h4;go_enter Tryz.func57,Tryz.ntmps57
      go_wp2_with fail
      go_ret;exact ⟨by rw [HR.out];rfl,HU.out⟩
    ·
     have t1:(p.v != q.v)=false:=by simpa using h1
     have t2:(p.op != q.op)=false:=by simpa using h2
     have t3:(p.imm != q.imm)=true:=by simpa using h3
     have HR:Hid (res=false):=by show _=_;rw [HE.out,decide_eq_false (fun h=>h3 h.2.2.1),Bool.false_and]
     clear h1 h2 h3;go_enter Tryz.func57,Tryz.ntmps57
     go_wp2_with fail
     go_ret;exact ⟨by rw [HR.out];rfl,HU.out⟩
   ·
    have t1:(p.v != q.v)=false:=by simpa using h1
    have t2:(p.op != q.op)=true:=by simpa using h2
    have HR:Hid (res=false):=by show _=_;rw [HE.out,decide_eq_false (fun h=>h2 h.2.1),Bool.false_and]
    clear h1 h2;go_enter Tryz.func57,Tryz.ntmps57
    go_wp2_with fail
    go_ret;exact ⟨by rw [HR.out];rfl,HU.out⟩
  ·
   have t1:(p.v != q.v)=true:=by simpa using h1
   have HR:Hid (res=false):=by show _=_;rw [HE.out,decide_eq_false (fun h=>h1 h.1),Bool.false_and]
   clear h1;go_enter Tryz.func57,Tryz.ntmps57
   go_wp2_with fail
   go_ret;exact ⟨by rw [HR.out];rfl,HU.out⟩
set_option maxRecDepth 100000 in
set_option maxHeartbeats 2000000 in
theorem samePattern_c (p:Pt):∀(q:Pt) (w:World) (F G:Nat→Prop) (KA KC:Option Addr) (kc kd:Nat),PtK w F p KA kc→PtK w G q KC kd→p.size≤1000000000000 →
  Calls Tryz.prog 43 #[pv p KA kc,pv q KC kd] w fun e w'=>e=.returned (.bool (ptE p q))∧Upd Non w w':=by
 induction p using Pt.ind with
 | h p ih =>
  intro q w F G KA KC kc kd hp hq hs;have hse:=Pt.size_eq p;have hle:=Pt.len_le p.kids;have HI:=Lib.hid ih;have HE:=Lib.hid (ptE_eq p q);obtain ⟨res,Hres⟩:=nm (ptE p q);rw [Hres.out] at HE ⊢;obtain ⟨W1,HW1⟩:=nm (w.alloc (.cells #[.int .i64 p.v,.int .i64 p.op,.int .i64 p.imm,.int .i64 p.iv,.slice KA p.kids.length kc] 40))
  have u1:Upd Non w W1:=by rw [←HW1.out];exact Upd.refl.alloc _
  have b1:Blk W1 w.heap.size 40 #[.int .i64 p.v,.int .i64 p.op,.int .i64 p.imm,.int .i64 p.iv,.slice KA p.kids.length kc]:=by rw [←HW1.out];exact Blk.new _ _ _
  have s1:W1.heap.size=w.heap.size+1:=by rw [←HW1.out];simp
  obtain ⟨W2,HW2⟩:=nm (W1.alloc (.cells #[.int .i64 q.v,.int .i64 q.op,.int .i64 q.imm,.int .i64 q.iv,.slice KC q.kids.length kd] 40))
  have u2:Upd Non W1 W2:=by rw [←HW2.out];exact Upd.refl.alloc _
  have b2:Blk W2 (w.heap.size+1) 40 #[.int .i64 q.v,.int .i64 q.op,.int .i64 q.imm,.int .i64 q.iv,.slice KC q.kids.length kd]:=by rw [←HW2.out,←s1];exact Blk.new _ _ _
  have b1:=b1.upd u2 (fun f=>f);have U2:=u1.then_non u2;have e1:=HW1.out;have e2:=HW2.out;have HB1:=Lib.hid b1;have HB2:=Lib.hid b2;have HU:=Lib.hid U2;have HP:=Lib.hid (PtK.upd U2 (fun _ _ _ f=>f) p KA kc hp);have HQ:=Lib.hid (PtK.upd U2 (fun _ _ _ f=>f) q KC kd hq);have c0:=b1.cell 0;have c1:=b1.cell 1;have c2:=b1.cell 2;have c3:=b1.cell 3;have c4:=b1.cell 4
  have d0:=b2.cell 0;have d1:=b2.cell 1;have d2:=b2.cell 2;have d3:=b2.cell 3;have d4:=b2.cell 4;unfold pv;clear ih hp hq u1 u2 b1 b2 U2 HW1 HW2
  have HV:Hid ((p.v != q.v)=!decide (p.v=q.v)):=by show _=_;by_cases h:p.v=q.v <;> simp [h]
  obtain ⟨pn,Hpn⟩:=nm p.kids.length;obtain ⟨qn,Hqn⟩:=nm q.kids.length;rw [Hpn.out] at c4 e1 hle HE;rw [Hqn.out] at d4 e2 HE;rw [Hpn.out,Hqn.out]
  by_cases h1:p.v=q.v
  ·
   by_cases h2:p.op=q.op
   ·
    by_cases h3:p.imm=q.imm
    ·
     by_cases h4:p.iv=q.iv
     ·
      by_cases h5:pn=qn
      ·
       have t1:(p.v != q.v)=false:=by simpa using h1
       have t2:(p.op != q.op)=false:=by simpa using h2
       have t3:(p.imm != q.imm)=false:=by simpa using h3
       have t4:(p.iv != q.iv)=false:=by simpa using h4
       have t5:((pn:Int) != (qn:Int))=false:=by simp [h5]
       have HR:Hid (res=ptEL p.kids q.kids):=by show _=_;rw [HE.out,decide_eq_true ⟨h1,h2,h3,h4,h5⟩,Bool.true_and]
       clear h1 h2 h3 h4;subst h5;obtain ⟨n,rfl⟩:∃m,m=pn:=⟨_,rfl⟩
       have hn12:n≤1000000000000:=by omega
       go_enter Tryz.func43,Tryz.ntmps43
       go_wp2_with fail
       clear e1 e2 c0 c1 c2 c3 d0 d1 d2 d3 t1 t2 t3 t4 t5
       go_loopg [5] n (fun g  iv wr=>∃k:Nat,Hid (g=n - k)∧k≤n∧iv=.int .i64 k∧Hid (∀i (h:i<p.kids.length) (h2:i<q.kids.length),i<k→ptE p.kids[i] q.kids[i]=true)∧Hid (Upd Non W2 wr))
       case atStart=>exact ⟨0,rfl,Nat.zero_le _,rfl,fun i _ _ h=>by omega,Upd.refl⟩
       case round =>
        obtain ⟨k,Hg,hk,rfl,HA,Hu⟩:=hrel;have c4:=cell_upd c4 Hu.out (fun f=>f);have d4:=cell_upd d4 Hu.out (fun f=>f)
        by_cases hlt:k<n
        ·
         have hkl:k<p.kids.length:=by rw [Hpn.out];exact hlt
         have hkq:k<q.kids.length:=by rw [Hqn.out];exact hlt
         obtain ⟨b,o,rfl,hF,hbw,KB,c1_,g0,g1,g2,g3,g4,g5⟩:=(PtK.upd Hu.out (fun _ _ _ f=>f) p KA kc HP.out).at_ hkl;obtain ⟨b2,o2,rfl,hG,hbw2,KZ,c2_,k0,k1,k2,k3,k4,k5⟩:=(PtK.upd Hu.out (fun _ _ _ f=>f) q KC kd HQ.out).at_ hkq
         have hks:p.kids[k].size≤1000000000000:=by have:=Pt.kids_lt (List.getElem_mem hkl);omega
         have HNX:Hid (ptE p.kids[k] q.kids[k]=false→res=false):=fun h=>by rw [HR.out];exact ptEL_no hkl hkq h
         have HNY:Hid (ptE p.kids[k] q.kids[k]=true→∀i (h:i<p.kids.length) (h2:i<q.kids.length),i<k+1→ptE p.kids[i] q.kids[i]=true):=fun h i h1 h2 h3=>by
          by_cases e:i=k
          ·
           subst e;exact h
          ·
           exact HA.out i h1 h2 (by omega)
         have CR:=Lib.hid (fun W (u:Upd Non wr W)=>HI.out _ (List.getElem_mem hkl) q.kids[k] W F G KB KZ c1_ c2_ (PtK.upd u (fun _ _ _ f=>f) _ _ _ g5) (PtK.upd u (fun _ _ _ f=>f) _ _ _ k5) hks)
         generalize p.kids[k]=x at *;generalize q.kids[k]=z at *;unfold pv at CR;obtain ⟨B,HB⟩:=nm (ptE x z);rw [HB.out] at CR;clear g5 k5 hks
         go_upto_region 6 with fail
         go_cut [59] (fun s wx=>s=.bool (!B)∧Upd Non wr wx)
         case first =>
          obtain ⟨wD,HwD⟩:=nm wr.drew
          have uD:Upd Non wr wD:=by rw [←HwD.out];exact Upd.refl.drew
          refine wp_region_held_drew (S:=fun w'=>w'.cell? ⟨w.heap.size,4,none⟩=some (.slice (some ⟨b,o,none⟩) n kc)∧w'.cell? ⟨w.heap.size+1,4,none⟩=some (.slice (some ⟨b2,o2,none⟩) n kd)∧w'.cell? ⟨b,o+k * 5,none⟩=some (.int .i64 x.v)∧w'.cell? ⟨b,o+k * 5+1,none⟩=some (.int .i64 x.op)∧w'.cell? ⟨b,o+k * 5+2,none⟩=some (.int .i64 x.imm)∧w'.cell? ⟨b,o+k * 5+3,none⟩=some (.int .i64 x.iv)∧w'.cell? ⟨b,o+k * 5+4,none⟩=some (.slice KB x.kids.length c1_)∧w'.cell? ⟨b2,o2+k * 5,none⟩=some (.int .i64 z.v)∧w'.cell? ⟨b2,o2+k * 5+1,none⟩=some (.int .i64 z.op)∧w'.cell? ⟨b2,o2+k * 5+2,none⟩=some (.int .i64 z.imm)∧w'.cell? ⟨b2,o2+k * 5+3,none⟩=some (.int .i64 z.iv)∧w'.cell? ⟨b2,o2+k * 5+4,none⟩=some (.slice KZ z.kids.length c2_)) (by kernel_rfl) (by rw [HwD.out];exact ⟨cell_upd c4 uD (fun f=>f),cell_upd d4 uD (fun f=>f),cell_upd g0 uD (fun f=>f),cell_upd g1 uD (fun f=>f),cell_upd g2 uD (fun f=>f),cell_upd g3 uD (fun f=>f),cell_upd g4 uD (fun f=>f),cell_upd k0 uD (fun f=>f),cell_upd k1 uD (fun f=>f),cell_upd k2 uD (fun f=>f),cell_upd k3 uD (fun f=>f),cell_upd k4 uD (fun f=>f)⟩) (fun hHeld=>?_)
          rw [HwD.out] at hHeld ⊢;refine wpT 0 ?_
          try simp only [put_y,put_z]
          refine wpT 1 ?_
          try simp only [put_y,put_z]
          refine wpT 2 ?_
          try simp only [put_y,put_z]
          refine wpT 3 ?_
          try simp only [put_y,put_z]
          refine wpT 4 ?_
          try simp only [put_y,put_z]
          refine wpT 5 ?_
          try simp only [put_y,put_z]
          refine wpT 6 ?_
          try simp only [put_y,put_z]
          refine wpT 7 ?_
          try simp only [put_y,put_z]
          refine wpT 8 ?_
          try simp only [put_y,put_z]
          refine wpT 9 ?_
          try simp only [put_y,put_z]
          refine wpAnyH_ready (rs:=[10]) (by kernel_rfl) (by simp) ?_;refine AllReadyH.cons rfl (fun K hK=>?_) AllReadyH.nil;go_simp;refine (CR.out _ uD).mono ?_;rintro e w5 ⟨rfl,u5⟩;have h5:Upd Non wr w5:=uD.then_non u5
          go_wp2_with fail
          refine hK.out _ _ ?_ (fun hHeld=>?_)
          ·
           exact ⟨cell_upd c4 h5 (fun f=>f),cell_upd d4 h5 (fun f=>f),cell_upd g0 h5 (fun f=>f),cell_upd g1 h5 (fun f=>f),cell_upd g2 h5 (fun f=>f),cell_upd g3 h5 (fun f=>f),cell_upd g4 h5 (fun f=>f),cell_upd k0 h5 (fun f=>f),cell_upd k1 h5 (fun f=>f),cell_upd k2 h5 (fun f=>f),cell_upd k3 h5 (fun f=>f),cell_upd k4 h5 (fun f=>f)⟩
          clear hK K
          try simp only [put_y,put_z]
          refine wpT 11 ?_
          try simp only [put_y,put_z]
          refine wpAnyH_done (by kernel_rfl) ?_ _
          go_wp2_with fail
          go_meet
          case rel=>exact ⟨rfl,h5⟩
         case rest =>
          obtain ⟨rfl,hwc⟩:=hcut;have HUC:=Lib.hid (Hu.out.then_non hwc);have c4:=cell_upd c4 hwc (fun f=>f);clear CR g0 g1 g2 g3 g4 k0 k1 k2 k3 k4 hwc
          cases B with
          | false =>
           have HF:Hid (res=false):=HNX.out HB.out
           go_wp2_with fail
           go_ret;exact ⟨by rw [HF.out];rfl,HU.out.then_non HUC.out⟩
          | true =>
           have HA2:=Lib.hid (HNY.out HB.out)
           go_wp2_with fail
           go_roundg (n - (k+1))
           case measure=>rw [Hg.out];omega
           case rel=>exact ⟨k+1,rfl,by omega,by go_num,HA2,HUC⟩
        ·
         obtain rfl:n=k:=by omega
         have HT:Hid (res=true):=by
          show _=_;rw [HR.out]
          exact ptEL_of fun i h1 h2=>HA.out i h1 h2 (by rw [←Hpn.out];exact h1)
         go_wp2_with fail
         go_ret;exact ⟨by rw [HT.out];rfl,HU.out.then_non Hu.out⟩
      ·
       have t1:(p.v != q.v)=false:=by simpa using h1
       have t2:(p.op != q.op)=false:=by simpa using h2
       have t3:(p.imm != q.imm)=false:=by simpa using h3
       have t4:(p.iv != q.iv)=false:=by simpa using h4
       have t5:((pn:Int) != (qn:Int))=true:=by simpa using fun e=>h5 (by omega)
       have HR:Hid (res=false):=by show _=_;rw [HE.out,decide_eq_false (fun h=>h5 h.2.2.2.2),Bool.false_and]
       clear h1 h2 h3 h4 h5;go_enter Tryz.func43,Tryz.ntmps43
       go_wp2_with fail
       go_ret;exact ⟨by rw [HR.out];rfl,HU.out⟩
     ·
      have t1:(p.v != q.v)=false:=by simpa using h1
      have t2:(p.op != q.op)=false:=by simpa using h2
      have t3:(p.imm != q.imm)=false:=by simpa using h3
      have t4:(p.iv != q.iv)=true:=by simpa using h4
      have HR:Hid (res=false):=by show _=_;rw [HE.out,decide_eq_false (fun h=>h4 h.2.2.2.1),Bool.false_and]
      clear h1 h2 h3 h4;go_enter Tryz.func43,Tryz.ntmps43
      go_wp2_with fail
      go_ret;exact ⟨by rw [HR.out];rfl,HU.out⟩
    ·
     have t1:(p.v != q.v)=false:=by simpa using h1
     have t2:(p.op != q.op)=false:=by simpa using h2
     have t3:(p.imm != q.imm)=true:=by simpa using h3
     have HR:Hid (res=false):=by show _=_;rw [HE.out,decide_eq_false (fun h=>h3 h.2.2.1),Bool.false_and]
     clear h1 h2 h3;go_enter Tryz.func43,Tryz.ntmps43
     go_wp2_with fail
     go_ret;exact ⟨by rw [HR.out];rfl,HU.out⟩
   ·
    have t1:(p.v != q.v)=false:=by simpa using h1
    have t2:(p.op != q.op)=true:=by simpa using h2
    have HR:Hid (res=false):=by show _=_;rw [HE.out,decide_eq_false (fun h=>h2 h.2.1),Bool.false_and]
    clear h1 h2;go_enter Tryz.func43,Tryz.ntmps43
    go_wp2_with fail
    go_ret;exact ⟨by rw [HR.out];rfl,HU.out⟩
  ·
   have t1:(p.v != q.v)=true:=by simpa using h1
   have HR:Hid (res=false):=by show _=_;rw [HE.out,decide_eq_false (fun h=>h1 h.1),Bool.false_and]
   clear h1;go_enter Tryz.func43,Tryz.ntmps43
   go_wp2_with fail
   go_ret;exact ⟨by rw [HR.out];rfl,HU.out⟩
set_option maxRecDepth 100000 in
set_option maxHeartbeats 2000000 in
theorem rEqual_c (r:Rl) (a:RlA) (s:Rl) (e:RlA) (w:World) (F G:Nat→Prop) (hr:RlK w F r a) (hs:RlK w G s e) (hz:RlSz r) :
  Calls Tryz.prog 25 #[rlv r a,rlv s e] w fun en w'=>en=.returned (.bool (rlE r s))∧Upd Non w w':=by
 have HE:Hid (rlE r s=(decide (r.vars=s.vars∧r.imms=s.imms∧r.conds.length=s.conds.length)&&ptE r.l s.l&&ptE r.r s.r&&decide (r.conds=s.conds))):=rfl
 obtain ⟨res,Hres⟩:=nm (rlE r s);rw [Hres.out] at HE ⊢;obtain ⟨W1,HW1⟩:=nm (w.alloc (.cells (rlCells r a) 43))
 have u1:Upd Non w W1:=by rw [←HW1.out];exact Upd.refl.alloc _
 have b1:Blk W1 w.heap.size 43 (rlCells r a):=by rw [←HW1.out];exact Blk.new _ _ _
 have s1:W1.heap.size=w.heap.size+1:=by rw [←HW1.out];simp
 obtain ⟨W2,HW2⟩:=nm (W1.alloc (.cells (rlCells s e) 43))
 have u2:Upd Non W1 W2:=by rw [←HW2.out];exact Upd.refl.alloc _
 have b2:Blk W2 (w.heap.size+1) 43 (rlCells s e):=by rw [←HW2.out,←s1];exact Blk.new _ _ _
 have b1:=b1.upd u2 (fun f=>f);have U2:=u1.then_non u2;have e1:=HW1.out;have e2:=HW2.out;have HU:=Lib.hid U2;have HKR:=Lib.hid (hr.upd U2 (fun _ _ _ f=>f));have HKS:=Lib.hid (hs.upd U2 (fun _ _ _ f=>f));have HB1:=Lib.hid b1;have HB2:=Lib.hid b2;have hb1:=b1;have hb2:=b2;unfold rlCells at hb1 hb2 e1 e2;have c1:=hb1.cell 1;have c2:=hb1.cell 2;have c3:=hb1.cell 3
 have c4:=hb1.cell 4;have c5:=hb1.cell 5;have c6:=hb1.cell 6;have c7:=hb1.cell 7;have c8:=hb1.cell 8;have c9:=hb1.cell 9;have c10:=hb1.cell 10;have c11:=hb1.cell 11;have c12:=hb1.cell 12;have c13:=hb1.cell 13;have d1:=hb2.cell 1;have d2:=hb2.cell 2;have d3:=hb2.cell 3;have d4:=hb2.cell 4;have d5:=hb2.cell 5;have d6:=hb2.cell 6;have d7:=hb2.cell 7
 have d8:=hb2.cell 8;have d9:=hb2.cell 9;have d10:=hb2.cell 10;have d11:=hb2.cell 11;have d12:=hb2.cell 12;have d13:=hb2.cell 13
 have CL:=Lib.hid (fun W (u:Upd Non W2 W)=>rEqualPats_c r.l s.l W F G a.la e.la a.lc e.lc (PtK.upd u (fun _ _ _ f=>f) _ _ _ HKR.out.l) (PtK.upd u (fun _ _ _ f=>f) _ _ _ HKS.out.l) hz.l)
 have CR:=Lib.hid (fun W (u:Upd Non W2 W)=>rEqualPats_c r.r s.r W F G a.ra e.ra a.rc e.rc (PtK.upd u (fun _ _ _ f=>f) _ _ _ HKR.out.r) (PtK.upd u (fun _ _ _ f=>f) _ _ _ HKS.out.r) hz.r)
 unfold pv at CL CR;unfold rlv rlCells;have hcz:=hz.c;obtain ⟨pn,Hpn⟩:=nm r.conds.length;obtain ⟨qn,Hqn⟩:=nm s.conds.length;rw [Hpn.out] at c11 e1 HE hcz;rw [Hqn.out] at d11 e2 HE;rw [Hpn.out,Hqn.out];obtain ⟨B1,HB1_⟩:=nm (ptE r.l s.l);obtain ⟨B2,HB2_⟩:=nm (ptE r.r s.r);rw [HB1_.out] at CL HE;rw [HB2_.out] at CR HE;clear hr hs u1 u2 b1 b2 U2 HW1 HW2 hb1 hb2 hz
 by_cases h1:r.vars=s.vars
 ·
  by_cases h2:r.imms=s.imms
  ·
   by_cases h3:pn=qn
   ·
    have t1:(r.vars != s.vars)=false:=by simpa using h1
    have t2:(r.imms != s.imms)=false:=by simpa using h2
    have t3:((pn:Int) != (qn:Int))=false:=by simp [h3]
    rw [decide_eq_true ⟨h1,h2,h3⟩,Bool.true_and] at HE;clear h1 h2;subst h3;obtain ⟨n,rfl⟩:∃m,m=pn:=⟨_,rfl⟩;go_enter Tryz.func25,Tryz.ntmps25
    go_wp2_with fail
    refine (CL.out _ Upd.refl).mono ?_;rintro en w3 ⟨rfl,u3⟩;clear CL e1 e2
    cases B1 with
    | false =>
     have HF:Hid (res=false):=by show _=_;rw [HE.out];rfl
     go_wp2_with fail
     go_ret;exact ⟨by rw [HF.out];rfl,HU.out.then_non u3⟩
    | true =>
     have c6:=cell_upd c6 u3 (fun f=>f);have c7:=cell_upd c7 u3 (fun f=>f);have c8:=cell_upd c8 u3 (fun f=>f);have c9:=cell_upd c9 u3 (fun f=>f);have c10:=cell_upd c10 u3 (fun f=>f);have c11:=cell_upd c11 u3 (fun f=>f);have d6:=cell_upd d6 u3 (fun f=>f);have d7:=cell_upd d7 u3 (fun f=>f);have d8:=cell_upd d8 u3 (fun f=>f)
     have d9:=cell_upd d9 u3 (fun f=>f);have d10:=cell_upd d10 u3 (fun f=>f);have d11:=cell_upd d11 u3 (fun f=>f)
     go_wp2_with fail
     refine (CR.out _ u3).mono ?_;rintro en w4 ⟨rfl,u4⟩;clear CR;have U4:Upd Non W2 w4:=u3.then_non u4
     cases B2 with
     | false =>
      have HF:Hid (res=false):=by show _=_;rw [HE.out];rfl
      go_wp2_with fail
      go_ret;exact ⟨by rw [HF.out];rfl,HU.out.then_non U4⟩
     | true =>
      have HD:Hid (res=decide (r.conds=s.conds)):=by show _=_;rw [HE.out];rfl
      have c11:=cell_upd c11 u4 (fun f=>f);have d11:=cell_upd d11 u4 (fun f=>f);have HU4:=Lib.hid U4;clear t1 t2 t3 U4 c1 c2 c3 c4 c5 c6 c7 c8 c9 c10 c12 c13 d1 d2 d3 d4 d5 d6 d7 d8 d9 d10 d12 d13
      go_wp2_with fail
      go_loopg [5,46] n (fun g _ iv wr=>∃k:Nat,Hid (g=n - k)∧k≤n∧iv=.int .i64 k∧Hid (r.conds.take k=s.conds.take k)∧Hid (Upd Non w4 wr))
      case atStart=>exact ⟨0,rfl,Nat.zero_le _,rfl,by show _=_;simp,Upd.refl⟩
      case round =>
       obtain ⟨k,Hg,hk,rfl,HA,Hu⟩:=hrel;have c11:=cell_upd c11 Hu.out (fun f=>f);have d11:=cell_upd d11 Hu.out (fun f=>f);have HUW:=Lib.hid (HU4.out.then_non Hu.out)
       by_cases hlt:k<n
       ·
        have hkl:k<r.conds.length:=by rw [Hpn.out];exact hlt
        have hkq:k<s.conds.length:=by rw [Hqn.out];exact hlt
        have hta:=(HKR.out.c.upd HUW.out (fun _ _ _ f=>f)).take hkl;have htb:=(HKS.out.c.upd HUW.out (fun _ _ _ f=>f)).take hkq
        have HNX:Hid (¬r.conds[k]=s.conds[k]→res=false):=fun h=>by
         rw [HD.out];refine decide_eq_false (fun q=>h ?_);simp only [q]
        have HNY:Hid (r.conds[k]=s.conds[k]→r.conds.take (k+1)=s.conds.take (k+1)):=fun h=>by rw [take_snoc' hkl,take_snoc' hkq,HA.out,h]
        generalize r.conds[k]=x at *;generalize s.conds[k]=z at *;obtain ⟨ca,Hca⟩:=nm a.ca;obtain ⟨ce,Hce⟩:=nm e.ca;rw [Hca.out] at hta c11;rw [Hce.out] at htb d11;obtain ⟨b,o,rfl,hbw,g0,g1,g2,g3⟩:=hta;obtain ⟨b2,o2,rfl,hbw2,k0,k1,k2,k3⟩:=htb
        go_upto_region 6 with fail
        go_cut [59] (fun s wx=>s=.bool (!decide (x=z))∧Upd Non wr wx)
        case first =>
         obtain ⟨wD,HwD⟩:=nm wr.drew
         have uD:Upd Non wr wD:=by rw [←HwD.out];exact Upd.refl.drew
         refine wp_region_held_drew (S:=fun w'=>w'.cell? ⟨w.heap.size,11,none⟩=some (.slice (some ⟨b,o,none⟩) n a.cc)∧w'.cell? ⟨w.heap.size+1,11,none⟩=some (.slice (some ⟨b2,o2,none⟩) n e.cc)∧w'.cell? ⟨b,o+k * 4,none⟩=some (.int .i64 x.kind)∧w'.cell? ⟨b,o+k * 4+1,none⟩=some (.int .i64 x.a)∧w'.cell? ⟨b,o+k * 4+2,none⟩=some (.int .i64 x.b)∧w'.cell? ⟨b,o+k * 4+3,none⟩=some (.int .i64 x.n)∧w'.cell? ⟨b2,o2+k * 4,none⟩=some (.int .i64 z.kind)∧w'.cell? ⟨b2,o2+k * 4+1,none⟩=some (.int .i64 z.a)∧w'.cell? ⟨b2,o2+k * 4+2,none⟩=some (.int .i64 z.b)∧w'.cell? ⟨b2,o2+k * 4+3,none⟩=some (.int .i64 z.n)) (by kernel_rfl) (by rw [HwD.out];exact ⟨cell_upd c11 uD (fun f=>f),cell_upd d11 uD (fun f=>f),cell_upd g0 uD (fun f=>f),cell_upd g1 uD (fun f=>f),cell_upd g2 uD (fun f=>f),cell_upd g3 uD (fun f=>f),cell_upd k0 uD (fun f=>f),cell_upd k1 uD (fun f=>f),cell_upd k2 uD (fun f=>f),cell_upd k3 uD (fun f=>f)⟩) (fun hHeld=>?_)
         rw [HwD.out] at hHeld ⊢
         have HXZ:Hid (x=z↔x.kind=z.kind∧x.a=z.a∧x.b=z.b∧x.n=z.n):=by
          show _↔_
          cases x;cases z;simp
         by_cases q0:x.kind=z.kind
         ·
          by_cases q1:x.a=z.a
          ·
           by_cases q2:x.b=z.b
           ·
            by_cases q3:x.n=z.n
            ·
             have HDC:Hid (decide (x=z)=true):=decide_eq_true (HXZ.out.2 ⟨q0,q1,q2,q3⟩);refine wpT 0 ?_
             try simp only [put_y,put_z]
             refine wpT 1 ?_
             try simp only [put_y,put_z]
             refine wpT 2 ?_
             try simp only [put_y,put_z]
             refine wpT 3 ?_
             try simp only [put_y,put_z]
             refine wpT 4 ?_
             try simp only [put_y,put_z]
             refine wpT 5 ?_
             try simp only [put_y,put_z]
             refine wpT 6 ?_
             try simp only [put_y,put_z]
             refine wpT 7 ?_
             try simp only [put_y,put_z]
             refine wpT 8 ?_
             try simp only [put_y,put_z]
             refine wpT 9 ?_
             try simp only [put_y,put_z]
             refine wpT 10 ?_
             try simp only [put_y,put_z]
             refine wpAnyH_done (by kernel_rfl) ?_ _
             go_wp2_with fail
             go_meet
             case rel=>exact ⟨by rw [HDC.out];rfl,uD⟩
            ·
             have HDC:Hid (decide (x=z)=false):=decide_eq_false (fun h=>q3 (HXZ.out.1 h).2.2.2);refine wpT 0 ?_
             try simp only [put_y,put_z]
             refine wpT 1 ?_
             try simp only [put_y,put_z]
             refine wpT 2 ?_
             try simp only [put_y,put_z]
             refine wpT 3 ?_
             try simp only [put_y,put_z]
             refine wpT 4 ?_
             try simp only [put_y,put_z]
             refine wpT 5 ?_
             try simp only [put_y,put_z]
             refine wpT 6 ?_
             try simp only [put_y,put_z]
             refine wpT 7 ?_
             try simp only [put_y,put_z]
             refine wpT 8 ?_
             try simp only [put_y,put_z]
             refine wpT 9 ?_
             try simp only [put_y,put_z]
             refine wpT 10 ?_
             try simp only [put_y,put_z]
             refine wpAnyH_done (by kernel_rfl) ?_ _
             go_wp2_with fail
             go_meet
             case rel=>exact ⟨by rw [HDC.out];rfl,uD⟩
           ·
            have HDC:Hid (decide (x=z)=false):=decide_eq_false (fun h=>q2 (HXZ.out.1 h).2.2.1);refine wpT 0 ?_
            try simp only [put_y,put_z]
            refine wpT 1 ?_
            try simp only [put_y,put_z]
            refine wpT 2 ?_
            try simp only [put_y,put_z]
            refine wpT 3 ?_
            try simp only [put_y,put_z]
            refine wpT 4 ?_
            try simp only [put_y,put_z]
            refine wpT 5 ?_
            try simp only [put_y,put_z]
            refine wpT 6 ?_
            try simp only [put_y,put_z]
            refine wpT 7 ?_
            try simp only [put_y,put_z]
            refine wpT 8 ?_
            try simp only [put_y,put_z]
            refine wpT 9 ?_
            try simp only [put_y,put_z]
            refine wpT 10 ?_
            try simp only [put_y,put_z]
            refine wpAnyH_done (by kernel_rfl) ?_ _
            go_wp2_with fail
            go_meet
            case rel=>exact ⟨by rw [HDC.out];rfl,uD⟩
          ·
           have HDC:Hid (decide (x=z)=false):=decide_eq_false (fun h=>q1 (HXZ.out.1 h).2.1);refine wpT 0 ?_
           try simp only [put_y,put_z]
           refine wpT 1 ?_
           try simp only [put_y,put_z]
           refine wpT 2 ?_
           try simp only [put_y,put_z]
           refine wpT 3 ?_
           try simp only [put_y,put_z]
           refine wpT 4 ?_
           try simp only [put_y,put_z]
           refine wpT 5 ?_
           try simp only [put_y,put_z]
           refine wpT 6 ?_
           try simp only [put_y,put_z]
           refine wpT 7 ?_
           try simp only [put_y,put_z]
           refine wpT 8 ?_
           try simp only [put_y,put_z]
           refine wpT 9 ?_
           try simp only [put_y,put_z]
           refine wpT 10 ?_
           try simp only [put_y,put_z]
           refine wpAnyH_done (by kernel_rfl) ?_ _
           go_wp2_with fail
           go_meet
           case rel=>exact ⟨by rw [HDC.out];rfl,uD⟩
         ·
          have HDC:Hid (decide (x=z)=false):=decide_eq_false (fun h=>q0 (HXZ.out.1 h).1);refine wpT 0 ?_
          try simp only [put_y,put_z]
          refine wpT 1 ?_
          try simp only [put_y,put_z]
          refine wpT 2 ?_
          try simp only [put_y,put_z]
          refine wpT 3 ?_
          try simp only [put_y,put_z]
          refine wpT 4 ?_
          try simp only [put_y,put_z]
          refine wpT 5 ?_
          try simp only [put_y,put_z]
          refine wpT 6 ?_
          try simp only [put_y,put_z]
          refine wpT 7 ?_
          try simp only [put_y,put_z]
          refine wpT 8 ?_
          try simp only [put_y,put_z]
          refine wpT 9 ?_
          try simp only [put_y,put_z]
          refine wpT 10 ?_
          try simp only [put_y,put_z]
          refine wpAnyH_done (by kernel_rfl) ?_ _
          go_wp2_with fail
          go_meet
          case rel=>exact ⟨by rw [HDC.out];rfl,uD⟩
        case rest =>
         obtain ⟨rfl,hwc⟩:=hcut;have HUC:=Lib.hid (Hu.out.then_non hwc);have c11:=cell_upd c11 hwc (fun f=>f);clear g0 g1 g2 g3 k0 k1 k2 k3 hwc;obtain ⟨B,HB⟩:=nm (decide (x=z));rw [HB.out]
         cases B with
         | false =>
          have HF:Hid (res=false):=HNX.out (of_decide_eq_false HB.out)
          go_wp2_with fail
          go_ret;exact ⟨by rw [HF.out];rfl,(HU.out.then_non HU4.out).then_non HUC.out⟩
         | true =>
          have HA2:=Lib.hid (HNY.out (of_decide_eq_true HB.out))
          go_wp2_with fail
          go_roundg (n - (k+1))
          case measure=>rw [Hg.out];omega
          case rel=>exact ⟨k+1,rfl,by omega,by go_num,HA2,HUC⟩
       ·
        obtain rfl:n=k:=by omega
        have HT:Hid (res=true):=by
         show _=_;rw [HD.out];have h:=HA.out;rw [←Hpn.out,List.take_length,Hpn.out,←Hqn.out,List.take_length] at h;exact decide_eq_true h
        go_wp2_with fail
        go_ret;exact ⟨by rw [HT.out];rfl,(HU.out.then_non HU4.out).then_non Hu.out⟩
   ·
    have t1:(r.vars != s.vars)=false:=by simpa using h1
    have t2:(r.imms != s.imms)=false:=by simpa using h2
    have t3:((pn:Int) != (qn:Int))=true:=by simpa using fun e=>h3 (by omega)
    have HR:Hid (res=false):=by show _=_;rw [HE.out,decide_eq_false (fun h=>h3 h.2.2)];rfl
    clear h1 h2 h3;go_enter Tryz.func25,Tryz.ntmps25
    go_wp2_with fail
    go_ret;exact ⟨by rw [HR.out];rfl,HU.out⟩
  ·
   have t1:(r.vars != s.vars)=false:=by simpa using h1
   have t2:(r.imms != s.imms)=true:=by simpa using h2
   have HR:Hid (res=false):=by show _=_;rw [HE.out,decide_eq_false (fun h=>h2 h.2.1)];rfl
   clear h1 h2;go_enter Tryz.func25,Tryz.ntmps25
   go_wp2_with fail
   go_ret;exact ⟨by rw [HR.out];rfl,HU.out⟩
 ·
  have t1:(r.vars != s.vars)=true:=by simpa using h1
  have HR:Hid (res=false):=by show _=_;rw [HE.out,decide_eq_false (fun h=>h1 h.1)];rfl
  clear h1;go_enter Tryz.func25,Tryz.ntmps25
  go_wp2_with fail
  go_ret;exact ⟨by rw [HR.out];rfl,HU.out⟩
set_option maxRecDepth 100000 in
set_option maxHeartbeats 2000000 in
theorem sameRule_c (r:Rl) (a:RlA) (s:Rl) (e:RlA) (w:World) (F G:Nat→Prop) (hr:RlK w F r a) (hs:RlK w G s e) (hz:RlSz r) :
  Calls Tryz.prog 20 #[rlv r a,rlv s e] w fun en w'=>en=.returned (.bool (rlE r s))∧Upd Non w w':=by
 have HE:Hid (rlE r s=(decide (r.vars=s.vars∧r.imms=s.imms∧r.conds.length=s.conds.length)&&ptE r.l s.l&&ptE r.r s.r&&decide (r.conds=s.conds))):=rfl
 obtain ⟨res,Hres⟩:=nm (rlE r s);rw [Hres.out] at HE ⊢;obtain ⟨W1,HW1⟩:=nm (w.alloc (.cells (rlCells r a) 43))
 have u1:Upd Non w W1:=by rw [←HW1.out];exact Upd.refl.alloc _
 have b1:Blk W1 w.heap.size 43 (rlCells r a):=by rw [←HW1.out];exact Blk.new _ _ _
 have s1:W1.heap.size=w.heap.size+1:=by rw [←HW1.out];simp
 obtain ⟨W2,HW2⟩:=nm (W1.alloc (.cells (rlCells s e) 43))
 have u2:Upd Non W1 W2:=by rw [←HW2.out];exact Upd.refl.alloc _
 have b2:Blk W2 (w.heap.size+1) 43 (rlCells s e):=by rw [←HW2.out,←s1];exact Blk.new _ _ _
 have b1:=b1.upd u2 (fun f=>f);have U2:=u1.then_non u2;have e1:=HW1.out;have e2:=HW2.out;have HU:=Lib.hid U2;have HKR:=Lib.hid (hr.upd U2 (fun _ _ _ f=>f));have HKS:=Lib.hid (hs.upd U2 (fun _ _ _ f=>f));have HB1:=Lib.hid b1;have HB2:=Lib.hid b2;have hb1:=b1;have hb2:=b2;unfold rlCells at hb1 hb2 e1 e2;have c1:=hb1.cell 1;have c2:=hb1.cell 2;have c3:=hb1.cell 3
 have c4:=hb1.cell 4;have c5:=hb1.cell 5;have c6:=hb1.cell 6;have c7:=hb1.cell 7;have c8:=hb1.cell 8;have c9:=hb1.cell 9;have c10:=hb1.cell 10;have c11:=hb1.cell 11;have c12:=hb1.cell 12;have c13:=hb1.cell 13;have d1:=hb2.cell 1;have d2:=hb2.cell 2;have d3:=hb2.cell 3;have d4:=hb2.cell 4;have d5:=hb2.cell 5;have d6:=hb2.cell 6;have d7:=hb2.cell 7
 have d8:=hb2.cell 8;have d9:=hb2.cell 9;have d10:=hb2.cell 10;have d11:=hb2.cell 11;have d12:=hb2.cell 12;have d13:=hb2.cell 13
 have CL:=Lib.hid (fun W (u:Upd Non W2 W)=>samePattern_c r.l s.l W F G a.la e.la a.lc e.lc (PtK.upd u (fun _ _ _ f=>f) _ _ _ HKR.out.l) (PtK.upd u (fun _ _ _ f=>f) _ _ _ HKS.out.l) hz.l)
 have CR:=Lib.hid (fun W (u:Upd Non W2 W)=>samePattern_c r.r s.r W F G a.ra e.ra a.rc e.rc (PtK.upd u (fun _ _ _ f=>f) _ _ _ HKR.out.r) (PtK.upd u (fun _ _ _ f=>f) _ _ _ HKS.out.r) hz.r)
 unfold pv at CL CR;unfold rlv rlCells;have hcz:=hz.c;obtain ⟨pn,Hpn⟩:=nm r.conds.length;obtain ⟨qn,Hqn⟩:=nm s.conds.length;rw [Hpn.out] at c11 e1 HE hcz;rw [Hqn.out] at d11 e2 HE;rw [Hpn.out,Hqn.out];obtain ⟨B1,HB1_⟩:=nm (ptE r.l s.l);obtain ⟨B2,HB2_⟩:=nm (ptE r.r s.r);rw [HB1_.out] at CL HE;rw [HB2_.out] at CR HE;clear hr hs u1 u2 b1 b2 U2 HW1 HW2 hb1 hb2 hz
 by_cases h1:r.vars=s.vars
 ·
  by_cases h2:r.imms=s.imms
  ·
   by_cases h3:pn=qn
   ·
    have t1:(r.vars != s.vars)=false:=by simpa using h1
    have t2:(r.imms != s.imms)=false:=by simpa using h2
    have t3:((pn:Int) != (qn:Int))=false:=by simp [h3]
    rw [decide_eq_true ⟨h1,h2,h3⟩,Bool.true_and] at HE;clear h1 h2;subst h3;obtain ⟨n,rfl⟩:∃m,m=pn:=⟨_,rfl⟩;go_enter Tryz.func20,Tryz.ntmps20
    go_wp2_with fail
    refine (CL.out _ Upd.refl).mono ?_;rintro en w3 ⟨rfl,u3⟩;clear CL e1 e2
    cases B1 with
    | false =>
     have HF:Hid (res=false):=by show _=_;rw [HE.out];rfl
     go_wp2_with fail
     go_ret;exact ⟨by rw [HF.out];rfl,HU.out.then_non u3⟩
    | true =>
     have c6:=cell_upd c6 u3 (fun f=>f);have c7:=cell_upd c7 u3 (fun f=>f);have c8:=cell_upd c8 u3 (fun f=>f);have c9:=cell_upd c9 u3 (fun f=>f);have c10:=cell_upd c10 u3 (fun f=>f);have c11:=cell_upd c11 u3 (fun f=>f);have d6:=cell_upd d6 u3 (fun f=>f);have d7:=cell_upd d7 u3 (fun f=>f);have d8:=cell_upd d8 u3 (fun f=>f)
     have d9:=cell_upd d9 u3 (fun f=>f);have d10:=cell_upd d10 u3 (fun f=>f);have d11:=cell_upd d11 u3 (fun f=>f)
     go_wp2_with fail
     refine (CR.out _ u3).mono ?_;rintro en w4 ⟨rfl,u4⟩;clear CR;have U4:Upd Non W2 w4:=u3.then_non u4
     cases B2 with
     | false =>
      have HF:Hid (res=false):=by show _=_;rw [HE.out];rfl
      go_wp2_with fail
      go_ret;exact ⟨by rw [HF.out];rfl,HU.out.then_non U4⟩
     | true =>
      have HD:Hid (res=decide (r.conds=s.conds)):=by show _=_;rw [HE.out];rfl
      have c11:=cell_upd c11 u4 (fun f=>f);have d11:=cell_upd d11 u4 (fun f=>f);have HU4:=Lib.hid U4;clear t1 t2 t3 U4 c1 c2 c3 c4 c5 c6 c7 c8 c9 c10 c12 c13 d1 d2 d3 d4 d5 d6 d7 d8 d9 d10 d12 d13
      go_wp2_with fail
      go_loopg [5] n (fun g  iv wr=>∃k:Nat,Hid (g=n - k)∧k≤n∧iv=.int .i64 k∧Hid (r.conds.take k=s.conds.take k)∧Hid (Upd Non w4 wr))
      case atStart=>exact ⟨0,rfl,Nat.zero_le _,rfl,by show _=_;simp,Upd.refl⟩
      case round =>
       obtain ⟨k,Hg,hk,rfl,HA,Hu⟩:=hrel;have c11:=cell_upd c11 Hu.out (fun f=>f);have d11:=cell_upd d11 Hu.out (fun f=>f);have HUW:=Lib.hid (HU4.out.then_non Hu.out)
       by_cases hlt:k<n
       ·
        have hkl:k<r.conds.length:=by rw [Hpn.out];exact hlt
        have hkq:k<s.conds.length:=by rw [Hqn.out];exact hlt
        have hta:=(HKR.out.c.upd HUW.out (fun _ _ _ f=>f)).take hkl;have htb:=(HKS.out.c.upd HUW.out (fun _ _ _ f=>f)).take hkq
        have HNX:Hid (¬r.conds[k]=s.conds[k]→res=false):=fun h=>by
         rw [HD.out];refine decide_eq_false (fun q=>h ?_);simp only [q]
        have HNY:Hid (r.conds[k]=s.conds[k]→r.conds.take (k+1)=s.conds.take (k+1)):=fun h=>by rw [take_snoc' hkl,take_snoc' hkq,HA.out,h]
        generalize r.conds[k]=x at *;generalize s.conds[k]=z at *;obtain ⟨ca,Hca⟩:=nm a.ca;obtain ⟨ce,Hce⟩:=nm e.ca;rw [Hca.out] at hta c11;rw [Hce.out] at htb d11;obtain ⟨b,o,rfl,hbw,g0,g1,g2,g3⟩:=hta;obtain ⟨b2,o2,rfl,hbw2,k0,k1,k2,k3⟩:=htb
        go_upto_region 6 with fail
        go_cut [60] (fun s wx=>s=.bool (!decide (x=z))∧Upd Non wr wx)
        case first =>
         obtain ⟨wD,HwD⟩:=nm wr.drew
         have uD:Upd Non wr wD:=by rw [←HwD.out];exact Upd.refl.drew
         refine wp_region_held_drew (S:=fun w'=>w'.cell? ⟨w.heap.size,11,none⟩=some (.slice (some ⟨b,o,none⟩) n a.cc)∧w'.cell? ⟨w.heap.size+1,11,none⟩=some (.slice (some ⟨b2,o2,none⟩) n e.cc)∧w'.cell? ⟨b,o+k * 4,none⟩=some (.int .i64 x.kind)∧w'.cell? ⟨b,o+k * 4+1,none⟩=some (.int .i64 x.a)∧w'.cell? ⟨b,o+k * 4+2,none⟩=some (.int .i64 x.b)∧w'.cell? ⟨b,o+k * 4+3,none⟩=some (.int .i64 x.n)∧w'.cell? ⟨b2,o2+k * 4,none⟩=some (.int .i64 z.kind)∧w'.cell? ⟨b2,o2+k * 4+1,none⟩=some (.int .i64 z.a)∧w'.cell? ⟨b2,o2+k * 4+2,none⟩=some (.int .i64 z.b)∧w'.cell? ⟨b2,o2+k * 4+3,none⟩=some (.int .i64 z.n)) (by kernel_rfl) (by rw [HwD.out];exact ⟨cell_upd c11 uD (fun f=>f),cell_upd d11 uD (fun f=>f),cell_upd g0 uD (fun f=>f),cell_upd g1 uD (fun f=>f),cell_upd g2 uD (fun f=>f),cell_upd g3 uD (fun f=>f),cell_upd k0 uD (fun f=>f),cell_upd k1 uD (fun f=>f),cell_upd k2 uD (fun f=>f),cell_upd k3 uD (fun f=>f)⟩) (fun hHeld=>?_)
         rw [HwD.out] at hHeld ⊢
         have HXZ:Hid (x=z↔x.kind=z.kind∧x.a=z.a∧x.b=z.b∧x.n=z.n):=by
          show _↔_
          cases x;cases z;simp
         by_cases q0:x.kind=z.kind
         ·
          by_cases q1:x.a=z.a
          ·
           by_cases q2:x.b=z.b
           ·
            by_cases q3:x.n=z.n
            ·
             have HDC:Hid (decide (x=z)=true):=decide_eq_true (HXZ.out.2 ⟨q0,q1,q2,q3⟩);refine wpT 0 ?_
             try simp only [put_y,put_z]
             refine wpT 1 ?_
             try simp only [put_y,put_z]
             refine wpT 2 ?_
             try simp only [put_y,put_z]
             refine wpT 3 ?_
             try simp only [put_y,put_z]
             refine wpT 4 ?_
             try simp only [put_y,put_z]
             refine wpT 5 ?_
             try simp only [put_y,put_z]
             refine wpT 6 ?_
             try simp only [put_y,put_z]
             refine wpT 7 ?_
             try simp only [put_y,put_z]
             refine wpT 8 ?_
             try simp only [put_y,put_z]
             refine wpT 9 ?_
             try simp only [put_y,put_z]
             refine wpT 10 ?_
             try simp only [put_y,put_z]
             refine wpAnyH_done (by kernel_rfl) ?_ _
             go_wp2_with fail
             go_meet
             case rel=>exact ⟨by rw [HDC.out];rfl,uD⟩
            ·
             have HDC:Hid (decide (x=z)=false):=decide_eq_false (fun h=>q3 (HXZ.out.1 h).2.2.2);refine wpT 0 ?_
             try simp only [put_y,put_z]
             refine wpT 1 ?_
             try simp only [put_y,put_z]
             refine wpT 2 ?_
             try simp only [put_y,put_z]
             refine wpT 3 ?_
             try simp only [put_y,put_z]
             refine wpT 4 ?_
             try simp only [put_y,put_z]
             refine wpT 5 ?_
             try simp only [put_y,put_z]
             refine wpT 6 ?_
             try simp only [put_y,put_z]
             refine wpT 7 ?_
             try simp only [put_y,put_z]
             refine wpT 8 ?_
             try simp only [put_y,put_z]
             refine wpT 9 ?_
             try simp only [put_y,put_z]
             refine wpT 10 ?_
             try simp only [put_y,put_z]
             refine wpAnyH_done (by kernel_rfl) ?_ _
             go_wp2_with fail
             go_meet
             case rel=>exact ⟨by rw [HDC.out];rfl,uD⟩
           ·
            have HDC:Hid (decide (x=z)=false):=decide_eq_false (fun h=>q2 (HXZ.out.1 h).2.2.1);refine wpT 0 ?_
            try simp only [put_y,put_z]
            refine wpT 1 ?_
            try simp only [put_y,put_z]
            refine wpT 2 ?_
            try simp only [put_y,put_z]
            refine wpT 3 ?_
            try simp only [put_y,put_z]
            refine wpT 4 ?_
            try simp only [put_y,put_z]
            refine wpT 5 ?_
            try simp only [put_y,put_z]
            refine wpT 6 ?_
            try simp only [put_y,put_z]
            refine wpT 7 ?_
            try simp only [put_y,put_z]
            refine wpT 8 ?_
            try simp only [put_y,put_z]
            refine wpT 9 ?_
            try simp only [put_y,put_z]
            refine wpT 10 ?_
            try simp only [put_y,put_z]
            refine wpAnyH_done (by kernel_rfl) ?_ _
            go_wp2_with fail
            go_meet
            case rel=>exact ⟨by rw [HDC.out];rfl,uD⟩
          ·
           have HDC:Hid (decide (x=z)=false):=decide_eq_false (fun h=>q1 (HXZ.out.1 h).2.1);refine wpT 0 ?_
           try simp only [put_y,put_z]
           refine wpT 1 ?_
           try simp only [put_y,put_z]
           refine wpT 2 ?_
           try simp only [put_y,put_z]
           refine wpT 3 ?_
           try simp only [put_y,put_z]
           refine wpT 4 ?_
           try simp only [put_y,put_z]
           refine wpT 5 ?_
           try simp only [put_y,put_z]
           refine wpT 6 ?_
           try simp only [put_y,put_z]
           refine wpT 7 ?_
           try simp only [put_y,put_z]
           refine wpT 8 ?_
           try simp only [put_y,put_z]
           refine wpT 9 ?_
           try simp only [put_y,put_z]
           refine wpT 10 ?_
           try simp only [put_y,put_z]
           refine wpAnyH_done (by kernel_rfl) ?_ _
           go_wp2_with fail
           go_meet
           case rel=>exact ⟨by rw [HDC.out];rfl,uD⟩
         ·
          have HDC:Hid (decide (x=z)=false):=decide_eq_false (fun h=>q0 (HXZ.out.1 h).1);refine wpT 0 ?_
          try simp only [put_y,put_z]
          refine wpT 1 ?_
          try simp only [put_y,put_z]
          refine wpT 2 ?_
          try simp only [put_y,put_z]
          refine wpT 3 ?_
          try simp only [put_y,put_z]
          refine wpT 4 ?_
          try simp only [put_y,put_z]
          refine wpT 5 ?_
          try simp only [put_y,put_z]
          refine wpT 6 ?_
          try simp only [put_y,put_z]
          refine wpT 7 ?_
          try simp only [put_y,put_z]
          refine wpT 8 ?_
          try simp only [put_y,put_z]
          refine wpT 9 ?_
          try simp only [put_y,put_z]
          refine wpT 10 ?_
          try simp only [put_y,put_z]
          refine wpAnyH_done (by kernel_rfl) ?_ _
          go_wp2_with fail
          go_meet
          case rel=>exact ⟨by rw [HDC.out];rfl,uD⟩
        case rest =>
         obtain ⟨rfl,hwc⟩:=hcut;have HUC:=Lib.hid (Hu.out.then_non hwc);have c11:=cell_upd c11 hwc (fun f=>f);clear g0 g1 g2 g3 k0 k1 k2 k3 hwc;obtain ⟨B,HB⟩:=nm (decide (x=z));rw [HB.out]
         cases B with
         | false =>
          have HF:Hid (res=false):=HNX.out (of_decide_eq_false HB.out)
          go_wp2_with fail
          go_ret;exact ⟨by rw [HF.out];rfl,(HU.out.then_non HU4.out).then_non HUC.out⟩
         | true =>
          have HA2:=Lib.hid (HNY.out (of_decide_eq_true HB.out))
          go_wp2_with fail
          go_roundg (n - (k+1))
          case measure=>rw [Hg.out];omega
          case rel=>exact ⟨k+1,rfl,by omega,by go_num,HA2,HUC⟩
       ·
        obtain rfl:n=k:=by omega
        have HT:Hid (res=true):=by
         show _=_;rw [HD.out];have h:=HA.out;rw [←Hpn.out,List.take_length,Hpn.out,←Hqn.out,List.take_length] at h;exact decide_eq_true h
        go_wp2_with fail
        go_ret;exact ⟨by rw [HT.out];rfl,(HU.out.then_non HU4.out).then_non Hu.out⟩
   ·
    have t1:(r.vars != s.vars)=false:=by simpa using h1
    have t2:(r.imms != s.imms)=false:=by simpa using h2
    have t3:((pn:Int) != (qn:Int))=true:=by simpa using fun e=>h3 (by omega)
    have HR:Hid (res=false):=by show _=_;rw [HE.out,decide_eq_false (fun h=>h3 h.2.2)];rfl
    clear h1 h2 h3;go_enter Tryz.func20,Tryz.ntmps20
    go_wp2_with fail
    go_ret;exact ⟨by rw [HR.out];rfl,HU.out⟩
  ·
   have t1:(r.vars != s.vars)=false:=by simpa using h1
   have t2:(r.imms != s.imms)=true:=by simpa using h2
   have HR:Hid (res=false):=by show _=_;rw [HE.out,decide_eq_false (fun h=>h2 h.2.1)];rfl
   clear h1 h2;go_enter Tryz.func20,Tryz.ntmps20
   go_wp2_with fail
   go_ret;exact ⟨by rw [HR.out];rfl,HU.out⟩
 ·
  have t1:(r.vars != s.vars)=true:=by simpa using h1
  have HR:Hid (res=false):=by show _=_;rw [HE.out,decide_eq_false (fun h=>h1 h.1)];rfl
  clear h1;go_enter Tryz.func20,Tryz.ntmps20
  go_wp2_with fail
  go_ret;exact ⟨by rw [HR.out];rfl,HU.out⟩
set_option maxRecDepth 100000 in
set_option maxHeartbeats 2000000 in
theorem sameRules_c (L M:List Rl) (w:World) (F G:Nat→Prop) (A B:Option Addr) (c d:Nat) (hL:RlsV w F A L) (hM:RlsV w G B M) (hz:∀r∈L,RlSz r) (hn:L.length≤1000000000000) :
  Calls Tryz.prog 12 #[.slice A L.length c,.slice B M.length d] w fun en w'=>en=.returned (.bool (rlsE L M))∧Upd Non w w':=by
 have HE:Hid (∀h:rlsE L M=false,rlsE L M=false):=fun h=>h
 have HL:=Lib.hid hL;have HM:=Lib.hid hM;have HZ:=Lib.hid hz
 have HLE:Hid (L.length≠M.length→rlsE L M=false):=fun h=>by
  cases hq:rlsE L M with
  | false=>rfl
  | true=>exact absurd (rlsE_len hq) h
 have HNO:Hid (∀i (h1:i<L.length) (h2:i<M.length),(¬L[i].name=M[i].name∨rlE L[i] M[i]=false)→rlsE L M=false):=fun i h1 h2 h=>rlsE_no h1 h2 h
 have HYES:Hid (L.length=M.length→(∀i (h1:i<L.length) (h2:i<M.length),L[i].name=M[i].name∧rlE L[i] M[i]=true)→rlsE L M=true):=fun h k=>rlsE_of h k
 obtain ⟨res,Hres⟩:=nm (rlsE L M);rw [Hres.out] at HLE HNO HYES ⊢;clear HE Hres hL hM hz;obtain ⟨n,Hn⟩:=nm L.length;obtain ⟨m,Hm⟩:=nm M.length;rw [Hn.out] at hn HLE;rw [Hm.out] at HLE;rw [Hn.out,Hm.out]
 by_cases hnm:n=m
 ·
  have t0:((n:Int) != (m:Int))=false:=by simp [hnm]
  subst hnm;obtain ⟨nn,rfl⟩:∃q,q=n:=⟨_,rfl⟩;go_enter Tryz.func12,Tryz.ntmps12
  go_wp2_with fail
  go_loopg [5] nn (fun g iv wr=>∃k:Nat,Hid (g=nn - k)∧k≤nn∧iv=.int .i64 k∧Hid (∀i (h1:i<L.length) (h2:i<M.length),i<k→L[i].name=M[i].name∧rlE L[i] M[i]=true)∧Hid (Upd Non w wr))
  case atStart=>exact ⟨0,rfl,Nat.zero_le _,rfl,fun i _ _ h=>by omega,Upd.refl⟩
  case round =>
   obtain ⟨k,Hg,hk,rfl,HA,HU⟩:=hrel
   by_cases hlt:k<nn
   ·
    have hkl:k<L.length:=by rw [Hn.out];exact hlt
    have hkm:k<M.length:=by rw [Hm.out];exact hlt
    have HX:=Lib.hid (HL.out.upd HU.out (fun _ _ _ f=>f));have HY:=Lib.hid (HM.out.upd HU.out (fun _ _ _ f=>f));obtain ⟨b,o,a,rfl,_,hbw,hat,hrk⟩:=HX.out.at_ hkl;obtain ⟨b2,o2,e,rfl,_,hbw2,hat2,hsk⟩:=HY.out.at_ hkm;have HRZ:=Lib.hid (HZ.out _ (List.getElem_mem hkl));have HN1:Hid (¬L[k].name=M[k].name∨rlE L[k] M[k]=false→res=false):=HNO.out k hkl hkm
    have HA2:Hid (L[k].name=M[k].name→rlE L[k] M[k]=true→∀i (h1:i<L.length) (h2:i<M.length),i<k+1→L[i].name=M[i].name∧rlE L[i] M[i]=true):=fun g1 g2 i h1 h2 h=>by
     by_cases q:i<k
     ·
      exact HA.out i h1 h2 q
     ·
      obtain rfl:i=k:=by omega
      exact ⟨g1,g2⟩
    clear HX HY;generalize L[k]=r at *;generalize M[k]=s at *;obtain ⟨wD,HwD⟩:=nm wr.drew
    have uD:Upd Non wr wD:=by rw [←HwD.out];exact Upd.refl.drew
    have CS:=Lib.hid (fun W (u:Upd Non wr W)=>sameRule_c r a s e W F G (hrk.upd u (fun _ _ _ f=>f)) (hsk.upd u (fun _ _ _ f=>f)) HRZ.out)
    have HRS:Hid (∀W,Upd Non wr W→RlAt W b (o+k * 14) r a∧RlAt W b2 (o2+k * 14) s e):=fun W u=>⟨hat.upd u (fun f=>f),hat2.upd u (fun f=>f)⟩
    have HrD:=Lib.hid (hat.upd uD (fun f=>f));have HsD:=Lib.hid (hat2.upd uD (fun f=>f));clear hat hat2 hrk hsk;unfold rlv rlCells at CS;unfold RlAt at HRS HrD HsD;obtain ⟨E,HE⟩:=nm (rlE r s);rw [HE.out] at CS HN1 HA2;obtain ⟨na,Hna⟩:=nm r.name;obtain ⟨nb,Hnb⟩:=nm s.name;rw [Hna.out,Hnb.out] at CS HN1 HA2;rw [Hna.out] at HrD;rw [Hnb.out] at HsD;rw [Hna.out,Hnb.out] at HRS
    go_upto_region 6 with fail
    go_cut [39] (fun v wx=>v=.bool (!(decide (na=nb)&&E))∧Upd Non wr wx)
    case first =>
     refine wp_region_held_drew (S:=fun w'=>(w'.cell? ⟨b,o+k * 14,none⟩=some (.string na)∧w'.cell? ⟨b,o+k * 14+1,none⟩=some (.int .i64 r.l.v)∧w'.cell? ⟨b,o+k * 14+2,none⟩=some (.int .i64 r.l.op)∧w'.cell? ⟨b,o+k * 14+3,none⟩=some (.int .i64 r.l.imm)∧w'.cell? ⟨b,o+k * 14+4,none⟩=some (.int .i64 r.l.iv)∧w'.cell? ⟨b,o+k * 14+5,none⟩=some (.slice a.la r.l.kids.length a.lc)∧w'.cell? ⟨b,o+k * 14+6,none⟩=some (.int .i64 r.r.v)∧w'.cell? ⟨b,o+k * 14+7,none⟩=some (.int .i64 r.r.op)∧w'.cell? ⟨b,o+k * 14+8,none⟩=some (.int .i64 r.r.imm)∧w'.cell? ⟨b,o+k * 14+9,none⟩=some (.int .i64 r.r.iv)∧w'.cell? ⟨b,o+k * 14+10,none⟩=some (.slice a.ra r.r.kids.length a.rc)∧w'.cell? ⟨b,o+k * 14+11,none⟩=some (.slice a.ca r.conds.length a.cc)∧w'.cell? ⟨b,o+k * 14+12,none⟩=some (.int .i64 r.vars)∧w'.cell? ⟨b,o+k * 14+13,none⟩=some (.int .i64 r.imms))∧w'.cell? ⟨b2,o2+k * 14,none⟩=some (.string nb)∧w'.cell? ⟨b2,o2+k * 14+1,none⟩=some (.int .i64 s.l.v)∧w'.cell? ⟨b2,o2+k * 14+2,none⟩=some (.int .i64 s.l.op)∧w'.cell? ⟨b2,o2+k * 14+3,none⟩=some (.int .i64 s.l.imm)∧w'.cell? ⟨b2,o2+k * 14+4,none⟩=some (.int .i64 s.l.iv)∧w'.cell? ⟨b2,o2+k * 14+5,none⟩=some (.slice e.la s.l.kids.length e.lc)∧w'.cell? ⟨b2,o2+k * 14+6,none⟩=some (.int .i64 s.r.v)∧w'.cell? ⟨b2,o2+k * 14+7,none⟩=some (.int .i64 s.r.op)∧w'.cell? ⟨b2,o2+k * 14+8,none⟩=some (.int .i64 s.r.imm)∧w'.cell? ⟨b2,o2+k * 14+9,none⟩=some (.int .i64 s.r.iv)∧w'.cell? ⟨b2,o2+k * 14+10,none⟩=some (.slice e.ra s.r.kids.length e.rc)∧w'.cell? ⟨b2,o2+k * 14+11,none⟩=some (.slice e.ca s.conds.length e.cc)∧w'.cell? ⟨b2,o2+k * 14+12,none⟩=some (.int .i64 s.vars)∧w'.cell? ⟨b2,o2+k * 14+13,none⟩=some (.int .i64 s.imms)) (by kernel_rfl) (by rw [HwD.out];exact ⟨HrD.out,HsD.out⟩) (fun hHeld=>?_)
     rw [HwD.out] at hHeld ⊢
     by_cases hq:na=nb
     ·
      have hq1:(na.toList != nb.toList)=false:=by simp [hq]
      have hq2:(na.toList==nb.toList)=true:=by simp [hq]
      have HQ:Hid (decide (na=nb)=true):=decide_eq_true hq;clear hq;refine wpT 0 ?_
      try simp only [put_y,put_z]
      refine wpT 1 ?_
      try simp only [put_y,put_z]
      refine wpT 2 ?_
      try simp only [put_y,put_z]
      refine wpT 3 ?_
      try simp only [put_y,put_z]
      refine wpT 4 ?_
      try simp only [put_y,put_z]
      refine wpT 5 ?_
      try simp only [put_y,put_z]
      refine wpT 6 ?_
      try simp only [put_y,put_z]
      refine wpT 7 ?_
      try simp only [put_y,put_z]
      refine wpT 8 ?_
      try simp only [put_y,put_z]
      refine wpT 9 ?_
      try simp only [put_y,put_z]
      refine wpT 10 ?_
      try simp only [put_y,put_z]
      refine wpT 11 ?_
      try simp only [put_y,put_z]
      refine wpT 12 ?_
      try simp only [put_y,put_z]
      refine wpT 13 ?_
      try simp only [put_y,put_z]
      refine wpT 14 ?_
      try simp only [put_y,put_z]
      refine wpT 15 ?_
      try simp only [put_y,put_z]
      refine wpT 16 ?_
      try simp only [put_y,put_z]
      refine wpT 17 ?_
      try simp only [put_y,put_z]
      refine wpT 18 ?_
      try simp only [put_y,put_z]
      refine wpT 19 ?_
      try simp only [put_y,put_z]
      refine wpAnyH_ready (rs:=[20]) (by kernel_rfl) (by simp) ?_;refine AllReadyH.cons rfl (fun K hK=>?_) AllReadyH.nil;go_simp;refine (CS.out _ uD).mono ?_;rintro en w5 ⟨rfl,u5⟩;have h5:Upd Non wr w5:=uD.then_non u5
      go_wp2_with fail
      refine hK.out _ _ ?_ (fun hHeld=>?_)
      ·
       exact HRS.out w5 h5
      clear hK K
      try simp only [put_y,put_z]
      refine wpT 21 ?_
      try simp only [put_y,put_z]
      refine wpT 22 ?_
      try simp only [put_y,put_z]
      refine wpAnyH_done (by kernel_rfl) ?_ _
      go_wp2_with fail
      go_meet
      case rel=>exact ⟨by rw [HQ.out];rfl,h5⟩
     ·
      have hq1:(na.toList != nb.toList)=true:=by simpa using fun q=>hq (by rw [ByteArray.toList_eq,ByteArray.toList_eq] at q;cases na;cases nb;simpa using q)
      have hq2:(na.toList==nb.toList)=false:=by simpa using fun q=>hq (by rw [ByteArray.toList_eq,ByteArray.toList_eq] at q;cases na;cases nb;simpa using q)
      have HQ:Hid (decide (na=nb)=false):=decide_eq_false hq;clear hq;refine wpT 0 ?_
      try simp only [put_y,put_z]
      refine wpT 1 ?_
      try simp only [put_y,put_z]
      refine wpT 2 ?_
      try simp only [put_y,put_z]
      refine wpT 3 ?_
      try simp only [put_y,put_z]
      refine wpT 4 ?_
      try simp only [put_y,put_z]
      refine wpT 5 ?_
      try simp only [put_y,put_z]
      refine wpT 6 ?_
      try simp only [put_y,put_z]
      refine wpT 7 ?_
      try simp only [put_y,put_z]
      refine wpT 8 ?_
      try simp only [put_y,put_z]
      refine wpT 9 ?_
      try simp only [put_y,put_z]
      refine wpT 10 ?_
      try simp only [put_y,put_z]
      refine wpT 11 ?_
      try simp only [put_y,put_z]
      refine wpU 12 ?_
      try simp only [put_y,put_z]
      refine wpU 13 ?_
      try simp only [put_y,put_z]
      refine wpU 14 ?_
      try simp only [put_y,put_z]
      refine wpU 15 ?_
      try simp only [put_y,put_z]
      refine wpU 16 ?_
      try simp only [put_y,put_z]
      refine wpU 17 ?_
      try simp only [put_y,put_z]
      refine wpU 18 ?_
      try simp only [put_y,put_z]
      refine wpU 19 ?_
      try simp only [put_y,put_z]
      refine wpU 20 ?_
      try simp only [put_y,put_z]
      refine wpU 21 ?_
      try simp only [put_y,put_z]
      refine wpT 22 ?_
      try simp only [put_y,put_z]
      refine wpAnyH_done (by kernel_rfl) ?_ _
      go_wp2_with fail
      go_meet
      case rel=>exact ⟨by rw [HQ.out];rfl,uD⟩
    case rest =>
     obtain ⟨rfl,hwc⟩:=hcut;have HUC:=Lib.hid (HU.out.then_non hwc);clear hwc;obtain ⟨D,HD⟩:=nm (decide (na=nb)&&E);rw [HD.out]
     cases D with
     | false =>
      have HF:Hid (res=false):=HN1.out (by
       have h:=HD.out;rw [Bool.and_eq_false_iff] at h
       exact h.imp of_decide_eq_false id)
      go_wp2_with fail
      go_ret;exact ⟨by rw [HF.out];rfl,HUC.out⟩
     | true =>
      have HA3:Hid (∀i (h1:i<L.length) (h2:i<M.length),i<k+1→L[i].name=M[i].name∧rlE L[i] M[i]=true):=by
       have h:=HD.out;rw [Bool.and_eq_true] at h;exact HA2.out (of_decide_eq_true h.1) h.2
      go_wp2_with fail
      go_roundg (nn - (k+1))
      case measure=>rw [Hg.out];omega
      case rel=>exact ⟨k+1,rfl,by omega,by go_num,HA3,HUC⟩
   ·
    obtain rfl:nn=k:=by omega
    have HT:Hid (res=true):=HYES.out (by rw [Hn.out,Hm.out]) fun i h1 h2=>HA.out i h1 h2 (by rw [←Hn.out];exact h1)
    go_wp2_with fail
    go_ret;exact ⟨by rw [HT.out];rfl,HU.out⟩
 ·
  have t0:((n:Int) != (m:Int))=true:=by simpa using fun e=>hnm (by omega)
  have HF:Hid (res=false):=HLE.out hnm;clear hnm;go_enter Tryz.func12,Tryz.ntmps12
  go_wp2_with fail
  go_ret;exact ⟨by rw [HF.out];rfl,Upd.refl⟩
theorem imp_sz {r:Rl} (h:implF r=true):RlSz r:=by
 have k:=imp_ok h;have h1:=k.sizes;have h2:=k.few;have h3:=k.name;simp only [nameF,Bool.and_eq_true,decide_eq_true_eq] at h3;exact ⟨by omega,by omega,by omega,by omega⟩
theorem loop_imp {T:List (Bs×Nat)} {fin n:Nat} {ax:Bs→Option Rl}:∀(f:Nat) (x:PS) (out Q:List Rl),(∀r∈out,implF r=true)→out.length≤160→loopF T fin ax n f x out=.ok Q→(∀r∈Q,implF r=true)∧Q.length≤160
 | 0,x,out,Q,_,_,h=>by cases h
 | f+1,x,out,Q,h1,h2,h=>by
  rw [loopF] at h
  split at h
  ·
   split at h
   ·
    cases h
   ·
    split at h
    ·
     cases h
    ·
     split at h
     ·
      cases h
     ·
      rename_i hv
      split at h
      ·
       cases h
      ·
       split at h
       ·
        cases h
       ·
        rename_i h6;refine loop_imp f _ _ Q (fun r hr=>?_) ?_ h
        ·
         rcases List.mem_append.1 hr with hr | hr
         ·
          exact h1 r hr
         ·
          rw [List.mem_singleton] at hr;subst hr
          simpa using hv
        ·
         rw [List.length_append,List.length_singleton];omega
  ·
   injection h with h
   subst h;exact ⟨h1,h2⟩
theorem parse_imp {s:Bs} {Q:List Rl} (h:parseF s=.ok Q):(∀r∈Q,implF r=true)∧Q.length≤160:=by
 unfold parseF parseG at h
 split at h
 ·
  cases h
 ·
  exact loop_imp _ _ _ _ (fun r hr=>by cases hr) (Nat.zero_le _) h
def outF (R:Except Er (List Rl)):List Rl×Int×Int:=match R with | .error er=>([],er.1,er.2) | .ok Q=>(Q,0,0)
theorem parse_any {R:Except Er (List Rl)} {Q:List Rl} {a b:Int} (ho:outF R=(Q,a,b)) {w w':World} {e:Ending} (h:ParseP R w e w') :
  ∃A c,e=.returned (.tuple #[.slice A Q.length c,.agg #[.int .i64 a,.int .i64 b]])∧RlsV w' (fun k=>w.heap.size≤k) A Q∧Upd Non w w':=by
 obtain ⟨u,h⟩:=h
 rcases h with ⟨er,h,rfl⟩ | ⟨Q',A,c,h,rfl,hv,_⟩
 ·
  subst h
  injection ho with h1 h2
  injection h2 with h2 h3
  subst h1 h2 h3;exact ⟨none,0,rfl,.inl rfl,u⟩
 ·
  subst h
  injection ho with h1 h2
  injection h2 with h2 h3
  subst h1 h2 h3;exact ⟨A,c,rfl,hv,u⟩
theorem out_ok {s:Bs} {Q:List Rl} {a b:Int} (ho:outF (parseF s)=(Q,a,b)):(∀r∈Q,RlSz r)∧Q.length≤160:=by
 cases hp:parseF s with
 | error er =>
  rw [hp] at ho
  injection ho with h1 _
  subst h1;exact ⟨fun r hr=>(by cases hr),Nat.zero_le _⟩
 | ok Q' =>
  rw [hp] at ho
  injection ho with h1 _
  subst h1;obtain ⟨h2,h3⟩:=parse_imp hp;exact ⟨fun r hr=>imp_sz (h2 r hr),h3⟩
def six (z0 z1 z2 z3 z4 z5:ByteArray):List ByteArray:=[z0,z1,z2,z3,z4,z5]
def sixW (w:World) (z0 z1 z2 z3 z4 z5:ByteArray):World:=w.alloc (.cells #[.string z0,.string z1,.string z2,.string z3,.string z4,.string z5] 9)
theorem sixW_eq (w:World) (z0 z1 z2 z3 z4 z5:ByteArray):w.alloc (.cells #[.string z0,.string z1,.string z2,.string z3,.string z4,.string z5] 9)=sixW w z0 z1 z2 z3 z4 z5:=rfl
theorem sixW_is (w:World) (z0 z1 z2 z3 z4 z5:ByteArray):Blk (sixW w z0 z1 z2 z3 z4 z5) w.heap.size 9 ((six z0 z1 z2 z3 z4 z5).map fun z=>Value.string z).toArray∧Upd Non w (sixW w z0 z1 z2 z3 z4 z5):=⟨Blk.new _ _ _,Upd.refl.alloc _⟩
set_option maxRecDepth 100000 in
set_option maxHeartbeats 4000000 in
theorem RuReference_c (w:World) (s0:ByteArray) (F:Nat→Prop) (A:Option Addr) (c:Nat) (xs:List Int) (how at_:Int) (hx:Ints w F A xs) (hc:xs.length≤c) (hI:∀x∈xs,I64 x) (hn:xs.length≤100000000000000):Calls Tryz.prog 3 #[.string s0,.slice A xs.length c,.int .i64 how,.int .i64 at_] w fun e w'=>e=.returned (.bool true)∧Upd Non w w':=by
 have CE:=Lib.hid (fun W=>RuExamples_c W)
 by_cases h200:200<s0.size
 ·
  have t1:decide (200<s0.size)=true:=decide_eq_true h200;have t2:decide ((200:Int)<(s0.size:Int))=true:=decide_eq_true (by omega);clear hx hc hI hn;go_enter Tryz.func3,Tryz.ntmps3
  go_wp2_with fail
  refine (CE.out w).mono ?_;rintro e w1 ⟨rfl,u1⟩
  go_wp2_with fail
  go_ret;exact ⟨rfl,u1⟩
 ·
  have t1:decide (200<s0.size)=false:=decide_eq_false h200;have t2:decide ((200:Int)<(s0.size:Int))=false:=decide_eq_false (by omega);have CPc:=Lib.hid (fun W (u:Upd Non w W)=>l17pieces_c W F A c xs (hx.upd u (fun _ _ _ f=>f)) hn);have CTx:=Lib.hid (fun W (u:Upd Non w W)=>l17text_c W F A c xs how at_ (hx.upd u (fun _ _ _ f=>f)) hc hI hn)
  have CK:=Lib.hid (fun W=>knownRules_c W)
  have hkz:(kstr krB).size≤4000:=by rw [kstr_size];decide +kernel
  obtain ⟨ks,Hks⟩:=nm (kstr krB);rw [Hks.out] at CK hkz;obtain ⟨n,Hn⟩:=nm xs.length;rw [Hn.out] at CPc CTx hn ⊢;clear hx hc hI Hks;go_enter Tryz.func3,Tryz.ntmps3
  go_wp2_with fail
  refine (CPc.out w Upd.refl).mono ?_;rintro e w1 ⟨z1,rfl,b1,_,u1⟩
  go_wp2_with fail
  refine (CTx.out w1 u1).mono ?_;rintro e w2 ⟨z2,rfl,b2,u2⟩;have U2:=u1.then_non u2
  go_wp2_with fail
  refine (CK.out w2).mono ?_;rintro e w3 ⟨rfl,u3⟩;have U3:=U2.then_non u3
  go_wp2_with fail
  refine (CPc.out w3 U3).mono ?_;rintro e w4 ⟨z3,rfl,b3,_,u4⟩;have U4:=U3.then_non u4
  have g3:¬9223372036854775807<ks.size+z3.size:=by omega
  go_wp2_with fail
  refine (CPc.out w4 U4).mono ?_;rintro e w5 ⟨z4,rfl,b4,_,u5⟩;have U5:=U4.then_non u5
  have g4:¬9223372036854775807<8+z4.size:=by omega
  go_wp2_with fail
  refine (CPc.out w5 U5).mono ?_;rintro e w6 ⟨z5,rfl,b5,_,u6⟩;have HU6:=Lib.hid (U5.then_non u6)
  have g5:¬9223372036854775807<29+z5.size:=by omega
  clear u1 u2 u3 u4 u5 u6 U2 U3 U4 U5 CPc CTx CK b1 b2
  go_upto_region 4 with fail
  rw [sixW_eq]
  obtain ⟨HB0,HU0⟩:=sixW_is w6 s0 z1 z2 (ks++z3) (({ data:=#[114,117,108,101,32,114,58,32] }:ByteArray)++z4) (({ data:=#[114,117,108,101,32,114,58,32,40,97,100,100,32,63,97,32,63,98,41,32,61,62,32,63,97,32,105,102,32] }:ByteArray)++z5)
  obtain ⟨W,HW⟩:=nm (sixW w6 s0 z1 z2 (ks++z3) (({ data:=#[114,117,108,101,32,114,58,32] }:ByteArray)++z4) (({ data:=#[114,117,108,101,32,114,58,32,40,97,100,100,32,63,97,32,63,98,41,32,61,62,32,63,97,32,105,102,32] }:ByteArray)++z5))
  obtain ⟨L6,HL6⟩:∃L6:List ByteArray,six s0 z1 z2 (ks++z3) (({ data:=#[114,117,108,101,32,114,58,32] }:ByteArray)++z4) (({ data:=#[114,117,108,101,32,114,58,32,40,97,100,100,32,63,97,32,63,98,41,32,61,62,32,63,97,32,105,102,32] }:ByteArray)++z5)=L6:=⟨_,rfl⟩
  have HLL:Hid (L6.length=6):=by show _=_;rw [←HL6];rfl
  rw [HW.out] at HB0 HU0 ⊢;rw [HL6] at HB0;have HB:=Lib.hid HB0;have HUW:=Lib.hid (HU6.out.then_non HU0);obtain ⟨p2,hp2⟩:∃p:ByteArray,p=ks++z3:=⟨_,rfl⟩;obtain ⟨p3,hp3⟩:∃p:ByteArray,p=({ data:=#[114,117,108,101,32,114,58,32] }:ByteArray)++z4:=⟨_,rfl⟩;rw [←hp2,←hp3];clear HB0 HU0 HL6 HW g3 g4 g5 hp2 hp3 b3 b4 b5
  go_loopg [10,11,12,13,14,38] 6 (fun g _ _ _ _ _ iv wr=>∃k:Nat,Hid (g=6 - k)∧k≤6∧iv=.int .i64 k∧Hid (Upd Non W wr))
  case atStart=>exact ⟨0,rfl,Nat.zero_le _,rfl,Upd.refl⟩
  case round =>
   obtain ⟨k,Hg,hk,rfl,HU⟩:=hrel
   by_cases hlt:k<6
   ·
    have ti:decide ((k:Int)<6)=true:=decide_eq_true (by omega)
    have hkl:k<L6.length:=by rw [HLL.out];exact hlt
    have hcell:wr.cell? ⟨w6.heap.size,k,none⟩=some (.string L6[k]):=by
     rw [(HB.out.upd HU.out (fun f=>f)).cell];simp [hkl]
    obtain ⟨zz,Hzz⟩:=nm L6[k];rw [Hzz.out] at hcell;have CP:=Lib.hid (rParse_all zz wr);have CX:=Lib.hid (fun W=>xParse_c zz W);obtain ⟨⟨Q,a,b⟩,HO⟩:=nm (outF (parseF (kx zz)));have HOK:=Lib.hid (out_ok HO.out);obtain ⟨R,HR⟩:=nm (parseF (kx zz));rw [HR.out] at CP CX HO;obtain ⟨m,Hm⟩:=nm Q.length
    go_wp2_with fail
    refine CP.out.mono ?_;rintro e w3 h;obtain ⟨A1,c1,rfl,hv1,u3⟩:=parse_any HO.out h;rw [Hm.out];clear CP h hcell;obtain ⟨W4,HW4⟩:=nm (w3.alloc (.cells #[.int .i64 a,.int .i64 b] 31))
    have u4:Upd Non w3 W4:=by rw [←HW4.out];exact Upd.refl.alloc _
    have b4:Blk W4 w3.heap.size 31 #[.int .i64 a,.int .i64 b]:=by rw [←HW4.out];exact Blk.new _ _ _
    have HV4:=Lib.hid (hv1.upd u4 (fun _ _ _ f=>f));have HB4:=Lib.hid b4;have HU4:=Lib.hid ((HU.out.then_non u3).then_non u4);clear u3 u4 b4 hv1
    go_upto_region 7 with fail
    rw [HW4.out]
    go_wp2_with fail
    refine (CX.out W4).mono ?_;rintro e w5 h;obtain ⟨A2,c2,rfl,hv2,u5⟩:=parse_any HO.out h;rw [Hm.out];clear CX h;obtain ⟨W6,HW6⟩:=nm (w5.alloc (.cells #[.int .i64 a,.int .i64 b] 31))
    have u6:Upd Non w5 W6:=by rw [←HW6.out];exact Upd.refl.alloc _
    have b6:Blk W6 w5.heap.size 31 #[.int .i64 a,.int .i64 b]:=by rw [←HW6.out];exact Blk.new _ _ _
    have b46:=HB4.out.upd (u5.then_non u6) (fun f=>f);have y0:=b46.cell 0;have y1:=b46.cell 1;have x0:=b6.cell 0;have x1:=b6.cell 1;have HVA:=Lib.hid (HV4.out.upd (u5.then_non u6) (fun _ _ _ f=>f));have HVB:=Lib.hid (hv2.upd u6 (fun _ _ _ f=>f));have HU8:=Lib.hid ((HU4.out.then_non u5).then_non u6)
    have CS:=Lib.hid (sameRules_c Q Q W6 _ _ A1 A2 c1 c2 HVA.out HVB.out HOK.out.1 (by have:=HOK.out.2;omega));rw [rlsE_refl,Hm.out] at CS;clear u5 u6 b6 b46 hv2 HV4 HU4 HB4
    go_upto_region 8 with fail
    rw [HW6.out]
    go_wp2_with fail
    refine CS.out.mono ?_;rintro e w8 ⟨rfl,u8⟩;clear x0 x1 y0 y1 CS
    go_wp2_with fail
    go_roundg (6 - (k+1))
    case measure=>rw [Hg.out];omega
    case rel=>exact ⟨k+1,rfl,by omega,by go_num,HU8.out.then_non u8⟩
   ·
    obtain rfl:k=6:=by omega
    go_wp2_with fail
    refine (CE.out _).mono ?_;rintro e w9 ⟨rfl,u9⟩
    go_wp2_with fail
    go_ret;exact ⟨rfl,(HUW.out.then_non HU.out).then_non u9⟩
end Go.Proofs.YtblkgjdhaibhgaaGreat
