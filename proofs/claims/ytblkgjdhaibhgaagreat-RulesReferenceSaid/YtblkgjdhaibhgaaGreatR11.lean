/-
  Lemmas and walks that the claim rests on, part 11 (packed by a program).
-/
import Derived.Test.YtblkgjdhaibhgaaGreatR10
import Derived.Test.YtblkgjdhaibhgaaGreatR8
namespace Go.Proofs.YtblkgjdhaibhgaaGreat
open Go.RowKit
theorem ptE_sound (p:Pt):∀q,ptE p q=true→p=q:=by
 induction p using Pt.ind with
 | h p ih =>
  intro q h;rw [ptE_eq,Bool.and_eq_true,decide_eq_true_eq] at h;obtain ⟨⟨h1,h2,h3,h4,h5⟩,h6⟩:=h
  have hk:∀(ks ls:List Pt),(∀k∈ks,∀q,ptE k q=true→k=q)→ks.length=ls.length→ptEL ks ls=true→ks=ls:=by
   intro ks
   induction ks with
   | nil=>intro ls _ hl _;exact (List.eq_nil_of_length_eq_zero hl.symm).symm
   | cons k ks ihl =>
    intro ls hm hl he
    cases ls with
    | nil=>cases hl
    | cons l ls =>
     rw [ptEL,Bool.and_eq_true] at he;rw [hm k List.mem_cons_self l he.1,ihl ls (fun k hk=>hm k (List.mem_cons_of_mem _ hk)) (Nat.succ.inj hl) he.2]
  have h7:=hk p.kids q.kids ih h5 h6
  cases p
  cases q
  simp only [Pt.v,Pt.op,Pt.imm,Pt.iv,Pt.kids] at h1 h2 h3 h4 h7;subst h1 h2 h3 h4 h7;rfl
theorem rlE_sound {r s:Rl} (hn:r.name=s.name) (h:rlE r s=true):r=s:=by
 unfold rlE at h;simp only [Bool.and_eq_true,decide_eq_true_eq] at h;obtain ⟨⟨⟨⟨h1,h2,_⟩,h3⟩,h4⟩,h5⟩:=h;have h6:=ptE_sound _ _ h3;have h7:=ptE_sound _ _ h4
 cases r
 cases s
 dsimp only at *;subst hn h1 h2 h5 h6 h7;rfl
def axTy (x:Bs×Bs):Bs:=x.1++[32,58,32]++x.2++[32,59]
def axN (x:Bs×Bs):Except Er (Rl×PS):=ruleN (goodT (toksF (axTy x))) (axTy x).length ⟨0,[],[]⟩
theorem axy_all:axL.all (fun x=>match parseG (fun _=>none) (axTx x),axN x with | .ok [r],.ok (q,_)=>decide (r.name=q.name)&&rlE r q | _,_=>false)=true:=by decide +kernel
theorem axy {x:Bs×Bs} (h:x∈axL):∃r z,parseG (fun _=>none) (axTx x)=.ok [r]∧axN x=.ok (r,z):=by
 have h1:=List.all_eq_true.1 axy_all x h
 split at h1
 ·
  rename_i r q z e1 e2;rw [Bool.and_eq_true,decide_eq_true_eq] at h1;obtain rfl:=rlE_sound h1.1 h1.2;exact ⟨r,z,e1,e2⟩
 ·
  cases h1
theorem xok_toks {s:Bs} (hs:s.length≤20000) (hl:(goodT (toksF s)).length≤s.length):XOk (goodT (toksF s)) :=
 ⟨fun _ ht=>(tokL_s _ _ _ _ (goodT_mem ht) rfl).1,fun t ht=>by have h3:t.1.length≤s.length:=(tokL_s _ _ _ _ (goodT_mem ht) rfl).2;omega,by omega⟩
set_option maxRecDepth 100000 in
theorem xAxiomTexts_c (w:World):Calls Tryz.prog 40 #[] w fun e w'=>e=.returned (.slice (some ⟨w.heap.size,0,none⟩) 44 44)∧Blk w' w.heap.size 9 axCs.toArray∧Upd Non w w':=by
 go_enter Tryz.func40,Tryz.ntmps40
 go_wp2_with fail
 go_ret;exact ⟨rfl,Blk.new _ _ _,Upd.refl.alloc _⟩
set_option maxRecDepth 100000 in
set_option maxHeartbeats 4000000 in
theorem xAxiom_c (s:Bs) (w:World):Calls Tryz.prog 19 #[.string (kstr s)] w (AxP axiomF s w):=by
 have HX:Hid (axiomF s=match axL.find? (fun x=>decide (x.1=s)) with
  | none=>none
  | some x=>match parseG (fun _=>none) (axTx x) with
   | .ok [r]=>some r
   | _=>none):=axiomF_eq s
 obtain ⟨W1,HW1⟩:=nm (w.alloc (.cells #[.string ⟨#[]⟩,.int .i64 0,.int .i64 0,.int .i64 0,.int .i64 0,.slice none 0 0,.int .i64 0,.int .i64 0,.int .i64 0,.int .i64 0,.slice none 0 0,.slice none 0 0,.int .i64 0,.int .i64 0] 43))
 have e1:=HW1.out
 have u1:Upd Non w W1:=by rw [←e1];exact Upd.refl.alloc _
 have b1:Blk W1 w.heap.size 43 z14:=by rw [←e1];exact Blk.new _ _ _
 have s1:W1.heap.size=w.heap.size+1:=by rw [←e1];simp
 have CA:=Lib.hid (xAxiomTexts_c W1);rw [s1] at CA;obtain ⟨qs,Hqs⟩:=nm (kstr s);rw [Hqs.out];have HB1:=Lib.hid b1;have HU1:=Lib.hid u1;clear u1 b1 s1;go_enter Tryz.func19,Tryz.ntmps19
 go_wp2_with fail
 refine CA.out.mono ?_;rintro e w2 ⟨rfl,hbt,hu2⟩;have HT:=Lib.hid hbt;have HB2:=Lib.hid (HB1.out.upd hu2 (fun f=>f));have HU2:=Lib.hid (HU1.out.then_non hu2);clear hbt hu2 CA HB1 HU1 e1
 go_wp2_with fail
 go_loopg [5] 22 (fun g iv wr=>∃j k:Nat,Hid (g=22 - j)∧j≤22∧Hid (k=j * 2)∧iv=.int .i64 k∧Hid (wr=w2)∧Hid (∀x∈axL.take j,¬x.1=s))
 case atStart=>exact ⟨0,0,rfl,Nat.zero_le _,rfl,rfl,rfl,fun x hx=>by simp at hx⟩
 case round =>
  obtain ⟨j,k,Hg,hj,Hk,rfl,HWR,HN⟩:=hrel;have hwr:=HWR.out;subst hwr;have hb:=HT.out;have hr:=HB2.out
  by_cases hlt:j<22
  ·
   have hal:j<axL.length:=hlt
   have hk44:k+1<44:=by rw [Hk.out];omega
   obtain ⟨k0,k1⟩:=axCs_get hal;rw [←Hk.out] at k0 k1
   have c0:wr.cell? ⟨w.heap.size+1,k,none⟩=some (.string (kstr axL[j].1)):=by rw [hb.cell];simpa using k0
   have c1:wr.cell? ⟨w.heap.size+1,k+1,none⟩=some (.string (kstr axL[j].2)):=by rw [hb.cell];simpa using k1
   have HM:Hid (axL[j]∈axL):=List.getElem_mem hal
   have HDR:Hid (axL=axL.take j++axL[j]::axL.drop (j+1)):=by
    show axL=_;rw [←List.drop_eq_getElem_cons hal,List.take_append_drop]
   have HTK:Hid (axL.take (j+1)=axL.take j++[axL[j]]):=take_snoc' hal;generalize axL[j]=xx at *;obtain ⟨D,HD⟩:=nm (decide (xx.1=s))
   have hD:((kstr xx.1).toList==qs.toList)=D:=by rw [←Hqs.out,str_beq,HD.out]
   obtain ⟨qa,Hqa⟩:=nm (kstr xx.1);obtain ⟨qb,Hqb⟩:=nm (kstr xx.2);rw [Hqa.out] at c0 hD;rw [Hqb.out] at c1;clear k0 k1 hb hr
   cases D with
   | false =>
    go_wp2_with fail
    go_roundg (22 - (j+1))
    case measure=>rw [Hg.out];omega
    case rel =>
     refine ⟨j+1,k+2,rfl,by omega,by show _=_;rw [Hk.out];omega,by go_num,rfl,fun y hy=>?_⟩;rw [HTK.out] at hy
     rcases List.mem_append.1 hy with hy | hy
     ·
      exact HN.out y hy
     ·
      rw [List.mem_singleton] at hy;subst hy;exact of_decide_eq_false HD.out
   | true =>
    obtain ⟨rl,z,hpr,hax⟩:=axy HM.out;obtain ⟨la,lb⟩:=ax_size HM.out;have hxs:xx.1=s:=of_decide_eq_true HD.out
    have hqa:qa=qs:=by rw [←Hqa.out,←Hqs.out,hxs]
    rw [Hqa.out,hqa] at la;rw [Hqb.out] at lb
    have hkx:kx (((qs++{ data:=#[32,58,32] })++qb)++{ data:=#[32,59] })=axTy xx:=by
     rw [←Hqs.out,←Hqb.out,←hxs];simp [kx,kstr,axTy]
    have hsz:(((qs++{ data:=#[32,58,32] })++qb)++{ data:=#[32,59] }).size≤3000:=by
     simp only [ByteArray.size_append];show qs.size+3+qb.size+2≤3000;omega
    obtain ⟨str,Hstr⟩:=nm (((qs++{ data:=#[32,58,32] })++qb)++{ data:=#[32,59] });have estr:=Hstr.out;rw [estr] at hkx hsz;have CT:=Lib.hid (xTokens_c str wr (by omega));have hkl:(kx str).length=str.size:=kx_len _
    have HXO:Hid ((goodT (toksF (axTy xx))).length≤str.size→XOk (goodT (toksF (axTy xx)))):=fun q=>by
     rw [hkx] at hkl;exact xok_toks (by omega) (by omega)
    have HAX:Hid (ruleN (goodT (toksF (axTy xx))) str.size ⟨0,[],[]⟩=.ok (rl,z)):=by
     show _=_;rw [←hax,←hkl,hkx];rfl
    rw [hkx] at CT;obtain ⟨T,HTT⟩:=nm (goodT (toksF (axTy xx)));rw [HTT.out] at CT HAX HXO;obtain ⟨m,Hm⟩:=nm str.size;have hm:=Hm.out;rw [hm] at HAX HXO CT hsz;have HPR:=Lib.hid hpr;clear hkx hpr hkl hax hxs hqa hal
    go_upto_region 7 with fail
    clear estr
    go_wp2_with fail
    refine CT.out.mono ?_;rintro e w4 ⟨A,c,mm,rfl,ho4,hat4,hlen4,hf4,hm4,u4⟩;clear hf4 hm4;have hT:=HXO.out hlen4
    obtain ⟨W5,HW5⟩:=nm (w4.alloc (.cells #[.slice A T.length c,.int .i64 0,.int .i64 (m:Nat),.int .i64 0,.int .i64 0,.string ⟨#[]⟩,.string ⟨#[]⟩,.bool false] 88))
    have u5:Upd Non w4 W5:=by rw [←HW5.out];exact Upd.refl.alloc _
    have b5:Blk W5 w4.heap.size 88 (xcells A T.length c m ⟨0,0,0,[],[],false⟩):=by rw [←HW5.out];exact Blk.new _ _ _
    have hxd:XdS W5 w4.heap.size A c T m ⟨0,0,0,[],[],false⟩:=⟨b5,((xt_view ho4).upd u5 (fun _ _ _ f=>f)).mono (fun k hk q=>Own.lt ho4 q),Own.le ho4⟩
    have CR:=Lib.hid (xRule_c hT hxd ⟨Nat.zero_le _,Nat.zero_le _,Nat.zero_le _⟩);have HU5:=Lib.hid ((HU2.out.then_non u4).then_non u5);have HR5:=Lib.hid ((HB2.out.upd u4 (fun f=>f)).upd u5 (fun f=>f));have hl4:=u4.size;have hl2:=HU2.out.size;have hl5:=u5.size;have hlw:=HB2.out.lt
    have hch:w.heap.size<W5.heap.size:=Nat.lt_of_lt_of_le (Nat.lt_of_lt_of_le HB2.out.lt hl4) hl5;clear ho4 hat4 u4 u5 b5 hxd CT hT HXO
    go_upto_region 9 with fail
    rw [HW5.out]
    go_wp2_with fail
    refine CR.out.mono ?_;rintro e w6 ⟨R,a,y,rfl,hrk,hx1,hx2,hx3,u6,hx4,hx5,hres⟩;clear hx1 hx2 hx3 hx4 hx5
    have HE:Hid (R=rl):=by
     have h1:=hres.1 rfl;rw [show (⟨0,0,0,[],[],false⟩:Xs).ps=⟨0,[],[]⟩ from rfl,HAX.out] at h1;exact h1.2.2.symm
    have b0:=HR5.out.upd u6 (by omega);unfold z14 at b0;have z0:=b0.cell 0;have z1:=b0.cell 1;have z2:=b0.cell 2;have z3:=b0.cell 3;have z4:=b0.cell 4;have z5:=b0.cell 5;have z6:=b0.cell 6;have z7:=b0.cell 7;have z8:=b0.cell 8;have z9:=b0.cell 9;have z10:=b0.cell 10;have z11:=b0.cell 11;have z12:=b0.cell 12;have z13:=b0.cell 13;have zf:=b0.frozen
    have HRK:=Lib.hid hrk;have HU6:Hid (Upd Non w w6):=HU5.out.trans u6 (fun k hk e=>by omega);have HB0:=Lib.hid b0;clear hrk hres u6 CR b0 HAX;unfold rlv rlCells
    go_wp2_with fail
    rw [set14_eq]
    obtain ⟨W8,HW8⟩:=nm (set14 w6 w.heap.size (.string R.name) (.int .i64 R.l.v) (.int .i64 R.l.op) (.int .i64 R.l.imm) (.int .i64 R.l.iv) (.slice a.la R.l.kids.length a.lc) (.int .i64 R.r.v) (.int .i64 R.r.op) (.int .i64 R.r.imm) (.int .i64 R.r.iv) (.slice a.ra R.r.kids.length a.rc) (.slice a.ca R.conds.length a.cc) (.int .i64 R.vars) (.int .i64 R.imms))
    rw [HW8.out]
    have us:Upd (·=w.heap.size) w6 W8:=by rw [←HW8.out];exact set14_upd _ _ _ _ _ _ _ _ _ _ _ _ _ _ _ _
    have b8:Blk W8 w.heap.size 43 (rlCells R a):=by rw [←HW8.out];exact set14_blk HB0.out _ _ _ _ _ _ _ _ _ _ _ _ _ _
    have hU8:Upd Non w W8:=HU6.out.trans us (fun k hk e=>Nat.lt_irrefl _ (e ▸ hk))
    have hK8:RlK W8 (fun k=>w.heap.size≤k) R a:=(HRK.out.upd us (fun k _ q e=>Nat.lt_irrefl _ (Nat.lt_of_lt_of_le hch (e ▸ q)))).mono (fun k _ q=>Nat.le_trans (Nat.le_of_lt hch) q)
    clear HW8 us;refine bodyPost_ret (results_cell_row_tmp rfl _ _ w.heap.size 43 _ (0,0) _ rfl b8 Tryz.underlying43 rfl (by kernel_rfl)) rfl ?_;refine ⟨R,a,true,rfl,hK8,hU8,fun _=>?_,fun q=>(by cases q)⟩;rw [HX.out,HDR.out,find_take HN.out (of_decide_eq_true HD.out)];dsimp only;rw [HPR.out,HE.out]
  ·
   obtain rfl:j=22:=by omega
   have hk44:k=44:=Hk.out;subst hk44;clear hb;unfold z14 at hr;have z0:=hr.cell 0;have z1:=hr.cell 1;have z2:=hr.cell 2;have z3:=hr.cell 3;have z4:=hr.cell 4;have z5:=hr.cell 5;have z6:=hr.cell 6;have z7:=hr.cell 7;have z8:=hr.cell 8;have z9:=hr.cell 9;have z10:=hr.cell 10;have z11:=hr.cell 11;have z12:=hr.cell 12;have z13:=hr.cell 13;have zf:=hr.frozen
   go_wp2_with fail
   rw [set14_eq]
   have us:=set14_upd wr w.heap.size (.string ⟨#[]⟩) (.int .i64 0) (.int .i64 0) (.int .i64 0) (.int .i64 0) (.slice none 0 0) (.int .i64 0) (.int .i64 0) (.int .i64 0) (.int .i64 0) (.slice none 0 0) (.slice none 0 0) (.int .i64 0) (.int .i64 0)
   have b5:=set14_blk hr (.string ⟨#[]⟩) (.int .i64 0) (.int .i64 0) (.int .i64 0) (.int .i64 0) (.slice none 0 0) (.int .i64 0) (.int .i64 0) (.int .i64 0) (.int .i64 0) (.slice none 0 0) (.slice none 0 0) (.int .i64 0) (.int .i64 0)
   refine bodyPost_ret (results_cell_row_tmp rfl _ _ w.heap.size 43 _ (0,0) _ rfl b5 Tryz.underlying43 rfl (by kernel_rfl)) rfl ?_
   refine ⟨⟨⟨#[]⟩,.mk 0 0 0 0 [],.mk 0 0 0 0 [],[],0,0⟩,⟨none,0,none,0,none,0⟩,false,rfl,⟨PtK.leaf,PtK.leaf,CondsV.nil,Nat.le_refl _⟩,HU2.out.trans us (fun k hk e=>by omega),fun q=>(by cases q),fun _=>?_⟩
   rw [HX.out,List.find?_eq_none.2];intro y hy
   simpa using HN.out y (by rw [List.take_of_length_le (show axL.length≤22 from Nat.le_refl _)];exact hy)
theorem tokL_pn:∀(f:Nat) (s:Bs) (o:Nat),∀t∈tokL f s o,isPn (t.s.headD 0)=true→t.s.length=1
 | 0,s,o,t,h,hp=>by rw [tokL,List.mem_singleton] at h;subst h;cases hp
 | f+1,[],o,t,h,hp=>by rw [tokL,List.mem_singleton] at h;subst h;cases hp
 | f+1,c::r,o,t,h,hp=>by
  unfold tokL at h
  split at h
  ·
   exact tokL_pn f _ _ t h hp
  ·
   split at h
   ·
    exact tokL_pn f _ _ t h hp
   ·
    split at h
    ·
     rcases List.mem_cons.1 h with rfl | h
     ·
      rfl
     ·
      exact tokL_pn f _ _ t h hp
    ·
     rename_i h3
     rcases List.mem_cons.1 h with rfl | h
     ·
      have h31:isPn c=false:=by
       simp only [Bool.or_eq_true,decide_eq_true_eq,not_or] at h3
       simpa using h3.1.1
      exfalso
      dsimp only at hp
      cases hw:wlen (c::r) with
      | zero=>rw [hw] at hp;cases hp
      | succ n =>
       rw [hw,List.take_succ_cons,List.headD_cons,h31] at hp
       cases hp
     ·
      exact tokL_pn f _ _ t h hp
theorem wlen_len:∀s:Bs,wlen s≤s.length
 | []=>Nat.le_refl _
 | c::r=>by
  have:=wlen_len r;unfold wlen;rw [List.length_cons]
  split <;> omega
theorem clen_len:∀s:Bs,clen s≤s.length
 | []=>Nat.le_refl _
 | c::r=>by
  have:=clen_len r;unfold clen;rw [List.length_cons]
  split <;> omega
theorem tokL_pos:∀(f:Nat) (s:Bs) (o:Nat),∀t∈tokL f s o,t.bad=false→t.pos<o+s.length
 | 0,s,o,t,h,hb=>by rw [tokL,List.mem_singleton] at h;subst h;cases hb
 | f+1,[],o,t,h,hb=>by rw [tokL,List.mem_singleton] at h;subst h;cases hb
 | f+1,c::r,o,t,h,hb=>by
  unfold tokL at h;rw [List.length_cons]
  split at h
  ·
   have:=tokL_pos f _ _ t h hb;omega
  ·
   split at h
   ·
    have:=tokL_pos f _ _ t h hb;have hc:=clen_len (c::r);rw [List.length_drop,List.length_cons] at this;rw [List.length_cons] at hc;omega
   ·
    split at h
    ·
     rcases List.mem_cons.1 h with rfl | h
     ·
      show o<_;omega
     ·
      have:=tokL_pos f _ _ t h hb;omega
    ·
     rcases List.mem_cons.1 h with rfl | h
     ·
      show o<_;omega
     ·
      have:=tokL_pos f _ _ t h hb;have hc:=wlen_len (c::r);rw [List.length_drop,List.length_cons] at this;rw [List.length_cons] at hc;omega
def xdl (s:Bs):Bool:=decide (s.length=1)&&isPn (s.headD 0)
structure XPk (T:List (Bs×Nat)) (n:Nat):Prop where
 pn:∀t∈T,isPn (t.1.headD 0)=true→t.1.length=1
 pos:∀t∈T,t.2<n
theorem xpk_toks (s:Bs):XPk (goodT (toksF s)) s.length :=
 ⟨fun _ ht hp=>tokL_pn _ _ _ _ (goodT_mem ht) hp,fun t ht=>by have h:t.2<0+s.length:=tokL_pos _ _ _ _ (goodT_mem ht) rfl;omega⟩
section
variable {T:List (Bs×Nat)} {fin n:Nat} {s:Bs} {x y:Xs}
theorem xdl_tok (hP:XPk T n) {i:Nat} (ht:tkF T i=some s):xdl s=isPn (s.headD 0):=by
 have hl:=xtk_lt ht;unfold tkF at ht;rw [List.getElem?_eq_getElem hl] at ht
 injection ht with ht
 unfold xdl
 cases h:isPn (s.headD 0) with
 | false=>simp
 | true =>
  have h2:=hP.pn _ (List.getElem_mem hl);have ht2:T[i].1=s:=ht;rw [ht2] at h2;simp [h2 h]
theorem off_lt (hP:XPk T n) (i:Nat):decide (offF T fin i<n)=(decide (i<T.length) || decide (fin<n)):=by
 unfold offF
 by_cases h:i<T.length
 ·
  rw [List.getElem?_eq_getElem h];simp [h,hP.pos _ (List.getElem_mem h)]
 ·
  rw [List.getElem?_eq_none (by omega)];simp [h]
def Xs.st (x:Xs):St:=⟨x.i,x.why,x.ea,none,0,x.vs,none,0,x.ms,x.left⟩
def xLt (T:List (Bs×Nat)) (fin:Nat):List Tok:=T.map (fun t=>⟨t.1,t.2,false⟩)++[⟨[],fin,true⟩]
theorem xlok (h:XOk T):LOk (xLt T fin) T fin:=by
 have hl:=h.len;refine ⟨by simp [xLt],fun i hi=>?_,⟨[],?_⟩,h.ne,h.sz,by simp [xLt];omega⟩
 ·
  unfold xLt;rw [List.getElem?_append_left (by simpa using hi),List.getElem?_map,List.getElem?_eq_getElem hi];rfl
 ·
  unfold xLt;rw [List.getElem?_append_right (by simp)];simp
theorem any_ok2 {z:PS} (ht:tkF T z.i=some s) (hp:isPn (s.headD 0)=false):anyF T fin z=.ok (s,{ z with i:=z.i+1 }):=by
 unfold anyF;rw [wrd_some ht,if_neg (by rw [hp];decide)]
theorem any_ok (ht:tkF T x.i=some s) (hp:isPn (s.headD 0)=false):anyF T fin x.ps=.ok (s,{ x.ps with i:=x.i+1 }):=any_ok2 (z:=x.ps) ht hp
theorem any_pn {z:PS} (ht:tkF T z.i=some s) (hp:isPn (s.headD 0)=true):anyF T fin z=.error (serr T fin z.i):=by
 unfold anyF;rw [wrd_some ht,if_pos hp]
theorem any_none {z:PS} (ht:tkF T z.i=none):anyF T fin z=.error (serr T fin z.i):=wrd_none ht
theorem bindE_ok {α β:Type} {v:α} {g:α→Except Er β}:bindE (.ok v) g=g v:=rfl
theorem itemX_ax (hP:XPk T n) {ax:Bs→Option Rl} {y y1 y2 y3:Xs} {rl:Rl} {b:Bool} (h0:y.why=0) (ht:tkF T y.i=some [97,120,105,111,109]) (h1:y1={ y with i:=y.i+1 }) (hs:nxS T y1=s) (h2:nxY T fin y1=y2) (h3:y3=if xdl s then y2.fail 2 (offF T fin (y.i+1)) else y2)
  (hb:(b=true→ax s=some rl)∧(b=false→ax s=none)) :
  ResX y (exY T fin [59] y3) (itemF T fin ax y.ps) (fun v=>v.2=offF T fin (y.i+1)∧(b=true→v.1=some rl)∧(b=false→v.1=none)):=by
 refine ⟨fun _=>?_,fun q=>absurd h0 q⟩
 have h10:y1.why=0:=by rw [h1];exact h0
 have h1i:y1.i=y.i+1:=by rw [h1]
 unfold itemF;rw [show y.ps.i=y.i from rfl,if_pos ht,show ({ y.ps with i:=y.i+1 }:PS)=y1.ps by rw [h1];rfl]
 by_cases q:y1.i<T.length
 ·
  obtain ⟨t,htk⟩:=tk_some q;obtain ⟨e1,e2,_⟩:=nx_some (fin:=fin) h10 htk;rw [e1] at hs;subst hs;rw [e2] at h2;have hd:=xdl_tok hP htk
  cases hp:isPn (t.headD 0) with
  | true =>
   rw [any_pn (z:=y1.ps) htk hp];dsimp only;rw [hd,hp,if_pos rfl] at h3;rw [h3,←h2,xfail_zero (show ({ y1 with i:=y1.i+1 }:Xs).why=0 from h10),exY_err (show (2:Int)≠0 by decide)];refine ⟨rfl,?_⟩;show ((offF T fin (y.i+1):Nat):Int)=(offF T fin y1.i:Nat);rw [h1i]
  | false =>
   rw [any_ok htk hp];dsimp only;rw [hd,hp,if_neg (by decide)] at h3
   have e3:({ y1.ps with i:=y1.i+1 }:PS)=y3.ps:=by rw [h3,←h2];rfl
   rw [e3]
   have h30:y3.why=0:=by rw [h3,←h2];exact h10
   have e:=exY_res (T:=T) (fin:=fin) (s:=[59]) h30
   cases he:expF T fin [59] y3.ps with
   | error er=>rw [he] at e;exact e
   | ok u=>rw [he] at e;exact ⟨e.1,e.2,rfl,hb.1,hb.2⟩
 ·
  obtain ⟨e1,e2⟩:=nx_none (T:=T) (fin:=fin) (x:=y1) (fun r=>q r.2);rw [e1] at hs;subst hs;rw [e2,xfail_zero h10] at h2;rw [any_none (z:=y1.ps) (tk_none q)];dsimp only;rw [show xdl []=false from rfl,if_neg (by decide)] at h3;rw [h3,←h2,exY_err (show (2:Int)≠0 by decide)];exact ⟨rfl,rfl⟩
theorem itemX_ru (hP:XPk T n) {ax:Bs→Option Rl} {y y1 yE yR:Xs} {rl:Rl} (h0:y.why=0) (ht:tkF T y.i=some [114,117,108,101]) (h1:y1={ y with i:=y.i+1 }) (hn:rl.name=kstr (nxS T y1)) (hr:ResX y1 yE (ruleN T fin y1.ps) (fun v=>v=rl))
  (hR:yR=if xdl (kx rl.name) then { yE with why:=2,ea:=(offF T fin (y.i+1):Nat) } else yE) :
  ResX y yR (itemF T fin ax y.ps) (fun v=>v.2=offF T fin (y.i+1)∧(true=true→v.1=some rl)∧(true=false→v.1=none)):=by
 refine ⟨fun _=>?_,fun q=>absurd h0 q⟩
 have h10:y1.why=0:=by rw [h1];exact h0
 have h1i:y1.i=y.i+1:=by rw [h1]
 rw [hn,kx_kstr] at hR;unfold itemF;rw [show y.ps.i=y.i from rfl,if_neg (by rw [ht];decide)]
 have e0:expF T fin [114,117,108,101] y.ps=.ok y1.ps:=by
  unfold expF;rw [show y.ps.i=y.i from rfl,if_pos ht,h1];rfl
 rw [e0];dsimp only;rw [ruleF_eq];have h2:=hr.1 h10;have h3:({ y1.ps with vs:=[],ms:=[] }:PS).i=y1.i:=rfl
 by_cases q:y1.i<T.length
 ·
  obtain ⟨t,htk⟩:=tk_some q;obtain ⟨e1,_,_⟩:=nx_some (fin:=fin) h10 htk;rw [e1] at hR;have hd:=xdl_tok hP htk
  cases hp:isPn (t.headD 0) with
  | true =>
   rw [any_pn (z:={ y1.ps with vs:=[],ms:=[] }) htk hp];rw [hd,hp,if_pos rfl] at hR;rw [hR];unfold bindE;refine ⟨rfl,?_⟩;show ((offF T fin (y.i+1):Nat):Int)=(offF T fin y1.i:Nat);rw [h1i]
  | false =>
   rw [show anyF T fin { y1.ps with vs:=[],ms:=[] }=.ok (t,⟨y1.i+1,[],[]⟩) from any_ok2 (z:={ y1.ps with vs:=[],ms:=[] }) htk hp];rw [hd,hp,if_neg (by decide)] at hR;unfold ruleN at h2;rw [show y1.ps.i=y1.i from rfl,htk] at h2;rw [hR];rw [bindE_ok];dsimp only at h2
   cases hg:rg2 T fin t ⟨y1.i+1,[],[]⟩ with
   | error e=>rw [hg] at h2;exact h2
   | ok v =>
    rw [hg] at h2;obtain ⟨r2,z2⟩:=v;exact ⟨h2.1,h2.2.1,by rw [←h1i];rfl,fun _=>congrArg some h2.2.2,fun q=>by cases q⟩
 ·
  obtain ⟨e1,_⟩:=nx_none (T:=T) (fin:=fin) (x:=y1) (fun r=>q r.2);rw [e1] at hR;rw [show xdl []=false from rfl,if_neg (by decide)] at hR;rw [any_none (z:={ y1.ps with vs:=[],ms:=[] }) (tk_none q)];unfold ruleN at h2;rw [show y1.ps.i=y1.i from rfl,tk_none q] at h2;rw [hR];exact h2
theorem itemX_no {ax:Bs→Option Rl} {y:Xs} (h1:¬tkF T y.i=some [97,120,105,111,109]) (h2:¬tkF T y.i=some [114,117,108,101]):itemF T fin ax y.ps=.error (serr T fin y.i):=by
 unfold itemF;rw [show y.ps.i=y.i from rfl,if_neg h1];unfold expF;rw [show y.ps.i=y.i from rfl,if_neg h2]
def PndX (T:List (Bs×Nat)) (fin:Nat) (ax:Bs→Option Rl) (n:Nat) (R:Except Er (List Rl)) (y:Xs) (Q:List Rl) (fu:Nat) (rl:Rl) (tp:Nat):Prop :=
 (y.why≠0→R=.error (y.why,y.ea))∧(y.why=0→(Q.any (fun q=>decide (q.name=rl.name))=true→R=.error (4,tp))∧(Q.any (fun q=>decide (q.name=rl.name))=false→(Q.length=160→R=.error (6,tp))∧(Q.length≠160→LpR T fin ax n R y.st (Q++[rl]) fu)))
variable {ax:Bs→Option Rl} {R:Except Er (List Rl)} {Q:List Rl} {fu tp:Nat} {rl:Rl}
theorem PndX.of {b v:Bool} {k:Int} (h:RndR T fin ax n R y.st Q fu rl tp b) (hv:b=true→v=implF rl) (hk:k=if b then 1 else 3) (hb:b=false→v=false) {y':Xs} (hy:y'=if v then y else y.fail k tp):PndX T fin ax n R y' Q fu rl tp:=by
 by_cases h0:y.why=0
 ·
  obtain ⟨_,h2⟩:=h;obtain ⟨_,h3,h4⟩:=h2 h0
  cases b with
  | false =>
   rw [hb rfl,if_neg (by decide)] at hy;rw [hy,xfail_zero h0];rw [if_neg (by decide)] at hk;subst hk;exact ⟨fun _=>h3 rfl,fun q=>absurd q (show (3:Int)≠0 by decide)⟩
  | true =>
   obtain ⟨_,h5,h6⟩:=h4 rfl;rw [if_pos rfl] at hk;subst hk;rw [hv rfl] at hy
   cases hi:implF rl with
   | false =>
    rw [hi,if_neg (by decide)] at hy;rw [hy,xfail_zero h0];exact ⟨fun _=>h5 hi,fun q=>absurd q (show (1:Int)≠0 by decide)⟩
   | true =>
    rw [hi,if_pos rfl] at hy;rw [hy];exact ⟨fun q=>absurd h0 q,fun _=>h6 hi⟩
 ·
  have e:y'=y:=by
   rw [hy]
   split
   ·
    rfl
   ·
    exact xfail_why h0
  rw [e];exact ⟨h.1,fun q=>absurd q h0⟩
theorem PndX.done (h:PndX T fin ax n R y Q fu rl tp) (hq:Q.length≤160∨y.why≠0) {y6 y7:Xs} (h6:y6=if Q.any (fun q=>decide (q.name=rl.name)) then y.fail 4 tp else y) (h7:y7=if 160≤Q.length then y6.fail 6 tp else y6):LpR T fin ax n R y7.st (Q++[rl]) fu:=by
 by_cases h0:y.why=0
 ·
  obtain ⟨k1,k2⟩:=h.2 h0
  cases hd:Q.any (fun q=>decide (q.name=rl.name)) with
  | true =>
   rw [hd,if_pos rfl,xfail_zero h0] at h6
   have e:y7=y6:=by
    rw [h7]
    split
    ·
     exact xfail_why (by rw [h6];show (4:Int)≠0;decide)
    ·
     rfl
   rw [e,h6];exact ⟨fun q=>absurd q (show (4:Int)≠0 by decide),fun _=>k1 hd⟩
  | false =>
   rw [hd,if_neg (by decide)] at h6;subst h6;obtain ⟨k3,k4⟩:=k2 hd
   by_cases hl:Q.length=160
   ·
    rw [if_pos (by omega),xfail_zero h0] at h7;rw [h7];exact ⟨fun q=>absurd q (show (6:Int)≠0 by decide),fun _=>k3 hl⟩
   ·
    rw [if_neg (by rcases hq with hq | hq;omega;exact absurd h0 hq)] at h7;rw [h7];exact k4 hl
 ·
  have e6:y6=y:=by
   rw [h6]
   split
   ·
    exact xfail_why h0
   ·
    rfl
  have e7:y7=y:=by
   rw [h7,e6]
   split
   ·
    exact xfail_why h0
   ·
    rfl
  rw [e7];exact ⟨fun q=>absurd q h0,h.1⟩
end
structure PxS (w0 w:World) (p:Nat) (A:Option Addr) (c:Nat) (T:List (Bs×Nat)) (fin:Nat) (y:Xs) (OA:Option Addr) (oc:Nat) (Q:List Rl):Prop where
 xd:XdS w p A c T fin y
 er:Blk w w0.heap.size 31 #[.int .i64 0,.int .i64 0]
 out:RlO w (fun k=>p<k) OA Q.length oc Q
 oat:∀k,At OA k→p<k
 lt:w0.heap.size<p
 upd:Upd Non w0 w
section
variable {w0 w w':World} {p:Nat} {A:Option Addr} {c:Nat} {T:List (Bs×Nat)} {fin:Nat} {y y':Xs} {OA:Option Addr} {oc:Nat} {Q:List Rl}
theorem PxS.call (h:PxS w0 w p A c T fin y OA oc Q) (hr:XdS w' p A c T fin y') (u:Upd (·=p) w w'):PxS w0 w' p A c T fin y' OA oc Q:=by
 have h1:=h.lt
 exact ⟨hr,h.er.upd u (by omega),h.out.upd u (fun k hk e=>by have:=h.oat k hk;omega) (fun k _ q e=>by omega),h.oat,h1,h.upd.trans u (fun k hk e=>by omega)⟩
theorem PxS.non (h:PxS w0 w p A c T fin y OA oc Q) (u:Upd Non w w'):PxS w0 w' p A c T fin y OA oc Q:=h.call (h.xd.non u) (upd_eq u)
theorem PxS.app (h:PxS w0 w p A c T fin y OA oc Q) {rl:Rl} {a:RlA} {m:Nat} (hk:RlK w (fun k=>m≤k) rl a) (hm:p<m) (hA:∀k,At OA k→k<m) {cs:List Value} (hc:RsCells w (fun k=>p<k∧¬At OA k) cs Q) {w3 w4:World} (u2:Upd Non w w3) {OB:Option Addr} {ob:Nat} (ho:Own w4 43 14 OB (Q.length+1) ob (cs++(rlCells rl a).toList)) (u3:Upd (At OA) w3 w4) (hat:∀k,At OB k→At OA k∨k=w3.heap.size):PxS w0 w4 p A c T fin y OB ob (Q++[rl]):=by
 have hlt:=h.lt;have hp:=h.xd.blk.lt;have s2:=u2.size;have hoat:=h.oat;have hc3:RsCells w3 (fun k=>p<k∧¬At OA k) cs Q:=hc.mono u2 (fun _ _ _ f=>f) (fun _ _ q=>q)
 have hk3:RlK w3 (fun k=>p<k∧¬At OA k) rl a:=(hk.upd u2 (fun _ _ _ f=>f)).mono (fun k _ q=>⟨Nat.lt_of_lt_of_le hm q,fun r=>Nat.lt_irrefl _ (Nat.lt_of_lt_of_le (hA k r) q)⟩)
 refine ⟨(h.xd.non u2).upd u3 (fun k _ q=>hoat k q),(h.er.upd u2 (fun f=>f)).upd u3 (fun q=>by have:=hoat _ q;omega),?_,fun k q=>?_,hlt,(h.upd.then_non u2).trans u3 (fun k hk q=>by have:=hoat k q;omega)⟩
 ·
  have:=RlO.snoc (G':=fun k=>p<k) rfl hc3 hk3 ho u3 hat (fun _ _ q=>q);rw [List.length_append,List.length_singleton];exact this
 ·
  rcases hat k q with r | r
  ·
   exact hoat k r
  ·
   omega
theorem PxS.res (h:PxS w0 w p A c T fin y OA oc Q) (a b:Value):Blk (setE2 w w0.heap.size a b) w0.heap.size 31 #[a,b]∧Upd Non w0 (setE2 w w0.heap.size a b)∧Blk (setE2 w w0.heap.size a b) p 88 (xcells A T.length c fin y)∧RlsV (setE2 w w0.heap.size a b) (fun k=>w0.heap.size≤k) OA Q:=by
 have u:=setE2_upd w w0.heap.size a b;have hlt:=h.lt;refine ⟨setE2_blk h.er a b,h.upd.trans u (fun k hk e=>by omega),h.xd.blk.upd u (by omega),?_⟩
 ·
  have hv:RlsV w (fun k=>w0.heap.size<k) OA Q:=h.out.view (fun k q=>by have:=h.oat k q;omega) (fun k _ q=>by omega);exact (hv.upd u (fun k _ q e=>by omega)).mono (fun k _ q=>Nat.le_of_lt q)
structure PxG (m:Nat) (w0 w:World) (p:Nat) (A:Option Addr) (c:Nat) (T:List (Bs×Nat)) (fin:Nat) (y:Xs) (OA:Option Addr) (oc:Nat) (Q:List Rl):Prop where
 xd:XdS w p A c T fin y
 er:Blk w w0.heap.size 31 #[.int .i64 0,.int .i64 0]
 out:RlO w (fun k=>p<k∧k<m) OA Q.length oc Q
 oat:∀k,At OA k→p<k∧k<m
 lt:w0.heap.size<p
 pm:p<m
 upd:Upd Non w0 w
theorem PxS.pg (h:PxS w0 w p A c T fin y OA oc Q):PxG w.heap.size w0 w p A c T fin y OA oc Q :=
 ⟨h.xd,h.er,h.out.mono (fun _ hk q=>⟨q,hk⟩),fun k q=>⟨h.oat k q,h.out.lt q⟩,h.lt,h.xd.blk.lt,h.upd⟩
theorem PxG.px {m:Nat} (h:PxG m w0 w p A c T fin y OA oc Q):PxS w0 w p A c T fin y OA oc Q :=
 ⟨h.xd,h.er,h.out.mono (fun _ _ q=>q.1),fun k q=>(h.oat k q).1,h.lt,h.upd⟩
theorem PxG.call {m:Nat} (h:PxG m w0 w p A c T fin y OA oc Q) (hr:XdS w' p A c T fin y') (u:Upd (·=p) w w'):PxG m w0 w' p A c T fin y' OA oc Q:=by
 have h1:=h.lt
 exact ⟨hr,h.er.upd u (by omega),h.out.upd u (fun k hk e=>by have:=h.oat k hk;omega) (fun k _ q e=>by omega),h.oat,h1,h.pm,h.upd.trans u (fun k hk e=>by omega)⟩
theorem PxG.non {m:Nat} (h:PxG m w0 w p A c T fin y OA oc Q) (u:Upd Non w w'):PxG m w0 w' p A c T fin y OA oc Q:=h.call (h.xd.non u) (upd_eq u)
theorem PxG.set {m g:Nat} (h:PxG m w0 w p A c T fin y OA oc Q) (u:Upd (·=g) w w') (hg:m≤g):PxG m w0 w' p A c T fin y OA oc Q:=by
 have h1:=h.lt;have h2:=h.pm
 exact ⟨h.xd.upd u (fun k _ e=>by omega),h.er.upd u (by omega),h.out.upd u (fun k hk e=>by have:=h.oat k hk;omega) (fun k _ q e=>by omega),h.oat,h1,h2,h.upd.trans u (fun k hk e=>by omega)⟩
theorem XdS.err (h:XdS w p A c T fin y) (a b:Int):XdS ((w.setCell ⟨p,3,none⟩ (.int .i64 a)).setCell ⟨p,4,none⟩ (.int .i64 b)) p A c T fin { y with why:=a,ea:=b }:=by
 refine h.set ((updCell w p 3 _).trans (updCell _ p 4 _) (fun _ _ q=>q)) ?_;have:=(h.blk.set_ 3 (.int .i64 a)).set_ 4 (.int .i64 b)
 simpa [xcells] using this
end
end Go.Proofs.YtblkgjdhaibhgaaGreat
