/-
  Lemmas and walks that the claim rests on, part 8 (packed by a program).
-/
import Derived.Test.YtblkgjdhaibhgaaGreatV6
import Derived.Test.YtblkgjdhaibhgaaGreatV7
import Derived.Test.YtblkgjdhaibhgaaGreatV4
import Derived.Test.YtblkgjdhaibhgaaGreatV3
import Derived.Test.YtblkgjdhaibhgaaGreatV5
namespace Go.Proofs.YtblkgjdhaibhgaaGreat
open Go.RowKit
def axTx (x:Bs×Bs):Bs:=[114,117,108,101,32]++x.1++[58,32]++x.2++[59]
theorem axiomF_eq (s:Bs):axiomF s=match axL.find? (fun x=>decide (x.1=s)) with
  | none=>none
  | some x=>match parseG (fun _=>none) (axTx x) with
   | .ok [r]=>some r
   | _=>none:=by
 unfold axiomF axText
 cases h:axL.find? (fun x=>decide (x.1=s)) with
 | none=>rfl
 | some x =>
  have:=List.find?_some h;simp only [decide_eq_true_eq] at this;subst this;rfl
def szB (r:Rl):Bool:=decide (r.l.size≤1000000000000)&&decide (r.r.size≤1000000000000)&&decide (r.conds.length≤1000000000000)&&decide (r.name.size≤1000000000000000)
theorem ax_all:axL.all (fun x=>match parseG (fun _=>none) (axTx x) with | .ok [r]=>szB r | _=>false)=true:=by decide +kernel
theorem ax_tok:axL.all (fun x=>(goodT (toksF (axTx x))).all (fun t=>!decide (t.1=[97,120,105,111,109])))=true:=by decide +kernel
theorem ax_parse {x:Bs×Bs} (h:x∈axL):∃r,parseG (fun _=>none) (axTx x)=.ok [r]∧RlSz r:=by
 have h1:=List.all_eq_true.1 ax_all x h
 split at h1
 ·rename_i r he;simp only [szB,Bool.and_eq_true,decide_eq_true_eq] at h1;exact ⟨r,he,h1.1.1.1,h1.1.1.2,h1.1.2,h1.2⟩
 ·cases h1
theorem ax_none {x:Bs×Bs} (h:x∈axL):¬∃i,tkF (goodT (toksF (axTx x))) i=some [97,120,105,111,109]:=by
 rintro ⟨i,hi⟩;have h1:=List.all_eq_true.1 ax_tok x h;have hl:=tkF_lt hi;unfold tkF at hi;rw [List.getElem?_eq_getElem hl] at hi;have h2:=List.all_eq_true.1 h1 _ (List.getElem_mem hl);simp only [Option.map_some,Option.some.injEq] at hi;rw [hi] at h2;exact absurd h2 (by decide)
theorem ax_len:axL.all (fun x=>decide (x.1.length≤1000)&&decide (x.2.length≤1000))=true:=by decide +kernel
theorem ax_size {x:Bs×Bs} (h:x∈axL):(kstr x.1).size≤1000∧(kstr x.2).size≤1000:=by
 have h1:=List.all_eq_true.1 ax_len x h;simp only [Bool.and_eq_true,decide_eq_true_eq] at h1;rw [←kx_len,←kx_len,kx_kstr,kx_kstr];exact h1
theorem axiomF_sz (s:Bs) (r:Rl) (h:axiomF s=some r):RlSz r:=by
 rw [axiomF_eq] at h
 split at h
 ·cases h
 ·rename_i x hx;obtain ⟨r2,h1,h2⟩:=ax_parse (List.mem_of_find?_eq_some hx);rw [h1] at h;injection h with h
  subst h;exact h2
theorem find_take {x:Bs×Bs} {s:Bs} {l:List (Bs×Bs)} (hn:∀y∈l,¬y.1=s) (hx:x.1=s) (r:List (Bs×Bs)):(l++x::r).find? (fun x=>decide (x.1=s))=some x:=by
 rw [List.find?_append]
 have : l.find? (fun x=>decide (x.1=s))=none:=by
  rw [List.find?_eq_none];intro y hy;simpa using hn y hy
 rw [this,List.find?_cons_of_pos (by simpa using hx)];rfl
def axCs:List Value:=axL.flatMap fun x=>[.string (kstr x.1),.string (kstr x.2)]
theorem axCs_get {i:Nat} (h:i<axL.length):axCs[i * 2]?=some (.string (kstr axL[i].1))∧axCs[i * 2+1]?=some (.string (kstr axL[i].2)):=by
 have : ∀(l:List (Bs×Bs)) (i:Nat) (h:i<l.length),(l.flatMap fun x=>[Value.string (kstr x.1),Value.string (kstr x.2)])[i * 2]?=some (.string (kstr l[i].1))∧(l.flatMap fun x=>[Value.string (kstr x.1),Value.string (kstr x.2)])[i * 2+1]?=some (.string (kstr l[i].2)):=by
  intro l
  induction l with
  | nil=>intro i h;simp at h
  | cons x l ih =>
   intro i h
   cases i with
   | zero=>exact ⟨rfl,rfl⟩
   | succ i =>
    have:=ih i (by simpa using h);rw [show (i+1) * 2=i * 2+1+1 by omega];exact this
 exact this axL i h
end Go.Proofs.YtblkgjdhaibhgaaGreat
namespace Go.Proofs.YtblkgjdhaibhgaaGreat
open Go.RowKit
set_option maxRecDepth 100000 in
theorem raxioms_c (w:World):Calls Tryz.prog 39 #[] w fun e w'=>e=.returned (.slice (some ⟨w.heap.size,0,none⟩) 22 22)∧Blk w' w.heap.size 82 axCs.toArray∧Upd Non w w':=by
 go_enter Tryz.func39,Tryz.ntmps39;go_wp2_with fail
 go_ret;exact ⟨rfl,Blk.new _ _ _,Upd.refl.alloc _⟩
end Go.Proofs.YtblkgjdhaibhgaaGreat
namespace Go.Proofs.YtblkgjdhaibhgaaGreat
open Go.RowKit
set_option maxRecDepth 100000 in
set_option maxHeartbeats 1000000 in
theorem rAxiom_c (s:Bs) (w:World):Calls Tryz.prog 18 #[.string (kstr s)] w (AxP axiomF s w):=by
 have HX:Hid (axiomF s=match axL.find? (fun x=>decide (x.1=s)) with
  | none=>none
  | some x=>match parseG (fun _=>none) (axTx x) with
   | .ok [r]=>some r
   | _=>none):=axiomF_eq s
 obtain ⟨W1,HW1⟩:=nm (w.alloc (.cells #[.string ⟨#[]⟩,.int .i64 0,.int .i64 0,.int .i64 0,.int .i64 0,.slice none 0 0,.int .i64 0,.int .i64 0,.int .i64 0,.int .i64 0,.slice none 0 0,.slice none 0 0,.int .i64 0,.int .i64 0] 43))
 have e1:=HW1.out;have u1:Upd Non w W1:=by rw [←e1];exact Upd.refl.alloc _
 have b1:Blk W1 w.heap.size 43 z14:=by rw [←e1];exact Blk.new _ _ _
 have s1:W1.heap.size=w.heap.size+1:=by rw [←e1];simp
 have CA:=h_ (raxioms_c W1);rw [s1] at CA;obtain ⟨qs,Hqs⟩:=nm (kstr s);rw [Hqs.out];have HB1:=h_ b1;have HU1:=h_ u1;clear u1 b1 s1;go_enter Tryz.func18,Tryz.ntmps18;go_wp2_with fail
 refine CA.out.mono ?_;rintro e w2 ⟨rfl,hbt,hu2⟩;have HT:=h_ hbt;have HB2:=h_ (HB1.out.upd hu2 (fun f=>f));have HU2:=h_ (HU1.out.then_non hu2);clear hbt hu2 CA HB1 HU1 e1;go_wp2_with fail
 go_loopg [5,6,7,10] 22 (fun g _ _ _ iv wr=>∃j:Nat,Hid (g=22 - j)∧j≤22∧iv=.int .i64 j∧Hid (Upd Non w2 wr)∧Hid (∀x∈axL.take j,¬x.1=s))
 case atStart=>exact ⟨0,rfl,Nat.zero_le _,rfl,Upd.refl,fun x hx=>by simp at hx⟩
 case round =>
  obtain ⟨j,Hg,hj,rfl,HU,HN⟩:=hrel;have hb:=HT.out.upd HU.out (fun f=>f);have hr:=HB2.out.upd HU.out (fun f=>f);have HR:=h_ hr;have hUw:=HU2.out.then_non HU.out;have HUW:=h_ hUw;clear hUw;by_cases hlt:j<22
  ·have hal:j<axL.length:=hlt;obtain ⟨k0,k1⟩:=axCs_get hal;have c0:wr.cell? ⟨w.heap.size+1,j * 2,none⟩=some (.string (kstr axL[j].1)):=by rw [hb.cell];simpa using k0
   have c1:wr.cell? ⟨w.heap.size+1,j * 2+1,none⟩=some (.string (kstr axL[j].2)):=by rw [hb.cell];simpa using k1
   have HM:Hid (axL[j]∈axL):=List.getElem_mem hal
   have HDR:Hid (axL=axL.take j++axL[j]::axL.drop (j+1)):=by
    show axL=_;rw [←List.drop_eq_getElem_cons hal,List.take_append_drop]
   have HTK:Hid (axL.take (j+1)=axL.take j++[axL[j]]):=take_snoc' hal;generalize axL[j]=xx at *;obtain ⟨D,HD⟩:=nm (decide (xx.1=s));have hD:((kstr xx.1).toList==qs.toList)=D:=by rw [←Hqs.out,str_beq,HD.out]
   obtain ⟨qa,Hqa⟩:=nm (kstr xx.1);obtain ⟨qb,Hqb⟩:=nm (kstr xx.2);rw [Hqa.out] at c0 hD;rw [Hqb.out] at c1;clear k0 k1 hb hr
   cases D with
   | false =>
    go_wp2_with fail
    go_roundg (22 - (j+1))
    case measure=>rw [Hg.out];omega
    case rel =>
     refine ⟨j+1,rfl,by omega,by go_num,HU.out.then_non (Upd.refl.alloc _),fun y hy=>?_⟩;rw [HTK.out] at hy;rcases List.mem_append.1 hy with hy | hy
     ·exact HN.out y hy
     ·rw [List.mem_singleton] at hy;subst hy;exact of_decide_eq_false HD.out
   | true =>
    obtain ⟨rl,hpr,hsz⟩:=ax_parse HM.out;obtain ⟨la,lb⟩:=ax_size HM.out;rw [Hqa.out] at la;rw [Hqb.out] at lb
    have hkx:kx (((({ data:=#[114,117,108,101,32] }:ByteArray)++qa)++{ data:=#[58,32] })++qb++{ data:=#[59] })=axTx xx:=by
     rw [←Hqa.out,←Hqb.out];simp [kx,kstr,axTx]
    obtain ⟨W3,HW3⟩:=nm (wr.alloc (.cells #[.string qa,.string qb] 82));have CP:=h_ (rParse_c (fun _=>none) (fun _ _ q=>by cases q) (((({ data:=#[114,117,108,101,32] }:ByteArray)++qa)++{ data:=#[58,32] })++qb++{ data:=#[59] }) (fun q=>by rw [hkx] at q;exact absurd q (ax_none HM.out)) W3)
    rw [hkx,hpr] at CP;have e3:=HW3.out;have HPR:=h_ hpr;have u3:Upd Non wr W3:=by rw [←e3];exact Upd.refl.alloc _
    have HU3:=h_ (HUW.out.then_non u3);have HR3:=h_ (HR.out.upd u3 (fun f=>f));have b3:Blk W3 wr.heap.size 82 #[.string qa,.string qb]:=by rw [←e3];exact Blk.new _ _ _
    have z0:=b3.cell 0;have z1:=b3.cell 1;clear hkx hpr u3 hsz b3;go_wp2_with fail
    refine CP.out.mono ?_;rintro e w4 ⟨hu4,h⟩;rcases h with ⟨er,h,_⟩ | ⟨Q,A,c,h,rfl,hv,hle⟩
    ·cases h
    injection h with h
    subst h;obtain ⟨b,o,a,rfl,_,hb4,hat,hrk⟩:=hv.at_ (i:=0) (by simp);unfold RlAt at hat;rw [List.getElem_cons_zero,Nat.zero_mul,Nat.add_zero] at hat;rw [List.getElem_cons_zero] at hrk;obtain ⟨x0,x1,x2,x3,x4,x5,x6,x7,x8,x9,x10,x11,x12,x13⟩:=hat;have b0:=HR3.out.upd hu4 (fun f=>f);have hbl:=b0.lt;unfold z14 at b0;have z0:=b0.cell 0;have z1:=b0.cell 1;have z2:=b0.cell 2;have z3:=b0.cell 3;have z4:=b0.cell 4;have z5:=b0.cell 5;have z6:=b0.cell 6;have z7:=b0.cell 7;have z8:=b0.cell 8;have z9:=b0.cell 9;have z10:=b0.cell 10;have z11:=b0.cell 11;have z12:=b0.cell 12;have z13:=b0.cell 13;have zf:=b0.frozen;have HRK:=h_ hrk;have HU4:=h_ (HU3.out.then_non hu4);have hle3:=HU3.out.size;have hlw3:=HR3.out.lt;clear hv hle hrk hu4 CP e3;go_wp2_with fail
    rw [set14_eq];obtain ⟨W8,HW8⟩:=nm (set14 w4 w.heap.size (.string rl.name) (.int .i64 rl.l.v) (.int .i64 rl.l.op) (.int .i64 rl.l.imm) (.int .i64 rl.l.iv) (.slice a.la rl.l.kids.length a.lc) (.int .i64 rl.r.v) (.int .i64 rl.r.op) (.int .i64 rl.r.imm) (.int .i64 rl.r.iv) (.slice a.ra rl.r.kids.length a.rc) (.slice a.ca rl.conds.length a.cc) (.int .i64 rl.vars) (.int .i64 rl.imms))
    rw [HW8.out];have us:Upd (·=w.heap.size) w4 W8:=by rw [←HW8.out];exact set14_upd _ _ _ _ _ _ _ _ _ _ _ _ _ _ _ _
    have b5:Blk W8 w.heap.size 43 (rlCells rl a):=by rw [←HW8.out];exact set14_blk b0 _ _ _ _ _ _ _ _ _ _ _ _ _ _
    have ua:Upd Non W8 (W8.alloc (.cells #[.int .i64 0,.int .i64 0] 31)):=Upd.refl.alloc _;refine bodyPost_ret (results_cell_row_tmp rfl _ _ w.heap.size 43 _ (0,0) _ rfl (b5.upd ua (fun f=>f)) Tryz.underlying43 rfl (by kernel_rfl)) rfl ?_;refine ⟨rl,a,true,rfl,?_,(HU4.out.trans us (fun k hk e=>by omega)).then_non ua,fun _=>?_,fun q=>(by cases q)⟩
    ·exact ((HRK.out.upd us (fun k _ q e=>by have:=q;omega)).upd ua (fun _ _ _ f=>f)).mono (fun k _ q=>Nat.le_trans hle3 q)
    ·rw [HX.out,HDR.out,find_take HN.out (of_decide_eq_true HD.out)];dsimp only;rw [HPR.out]
  ·obtain rfl:j=22:=by omega
   clear hb;unfold z14 at hr;have z0:=hr.cell 0;have z1:=hr.cell 1;have z2:=hr.cell 2;have z3:=hr.cell 3;have z4:=hr.cell 4;have z5:=hr.cell 5;have z6:=hr.cell 6;have z7:=hr.cell 7;have z8:=hr.cell 8;have z9:=hr.cell 9;have z10:=hr.cell 10;have z11:=hr.cell 11;have z12:=hr.cell 12;have z13:=hr.cell 13;have zf:=hr.frozen;go_wp2_with fail
   rw [set14_eq];have us:=set14_upd wr w.heap.size (.string ⟨#[]⟩) (.int .i64 0) (.int .i64 0) (.int .i64 0) (.int .i64 0) (.slice none 0 0) (.int .i64 0) (.int .i64 0) (.int .i64 0) (.int .i64 0) (.slice none 0 0) (.slice none 0 0) (.int .i64 0) (.int .i64 0)
   have b5:=set14_blk HR.out (.string ⟨#[]⟩) (.int .i64 0) (.int .i64 0) (.int .i64 0) (.int .i64 0) (.slice none 0 0) (.int .i64 0) (.int .i64 0) (.int .i64 0) (.int .i64 0) (.slice none 0 0) (.slice none 0 0) (.int .i64 0) (.int .i64 0)
   refine bodyPost_ret (results_cell_row_tmp rfl _ _ w.heap.size 43 _ (0,0) _ rfl b5 Tryz.underlying43 rfl (by kernel_rfl)) rfl ?_;refine ⟨⟨⟨#[]⟩,.mk 0 0 0 0 [],.mk 0 0 0 0 [],[],0,0⟩,⟨none,0,none,0,none,0⟩,false,rfl,⟨PtK.leaf,PtK.leaf,CondsV.nil,Nat.le_refl _⟩,HUW.out.trans us (fun k hk e=>by omega),fun q=>(by cases q),fun _=>?_⟩
   rw [HX.out,List.find?_eq_none.2];intro y hy;simpa using HN.out y (by rw [List.take_of_length_le (show axL.length≤22 from Nat.le_refl _)];exact hy)
mutual
def ptE:Pt→Pt→Bool
 | .mk v op imm iv ks,q=>decide (v=q.v∧op=q.op∧imm=q.imm∧iv=q.iv∧ks.length=q.kids.length)&&ptEL ks q.kids
def ptEL:List Pt→List Pt→Bool
 | [],_=>true
 | k::ks,ls=>match ls with
  | []=>true
  | l::ls=>ptE k l&&ptEL ks ls
end
theorem ptE_eq (p q:Pt):ptE p q=(decide (p.v=q.v∧p.op=q.op∧p.imm=q.imm∧p.iv=q.iv∧p.kids.length=q.kids.length)&&ptEL p.kids q.kids):=by
 cases p
 rw [ptE];rfl
theorem ptEL_of:∀{ks ls:List Pt},(∀i (h:i<ks.length) (h2:i<ls.length),ptE ks[i] ls[i]=true)→ptEL ks ls=true
 | [],_,_=>by simp [ptEL]
 | k::ks,[],_=>by simp [ptEL]
 | k::ks,l::ls,h=>by
  simp only [ptEL,Bool.and_eq_true];exact ⟨h 0 (Nat.zero_lt_succ _) (Nat.zero_lt_succ _),ptEL_of fun i h1 h2=>h (i+1) (Nat.succ_lt_succ h1) (Nat.succ_lt_succ h2)⟩
theorem ptEL_no:∀{ks ls:List Pt} {i:Nat} (h1:i<ks.length) (h2:i<ls.length),ptE ks[i] ls[i]=false→ptEL ks ls=false
 | k::ks,l::ls,0,_,_,h=>by
  simp only [ptEL,Bool.and_eq_false_iff];exact .inl h
 | k::ks,l::ls,i+1,h1,h2,h=>by
  simp only [ptEL,Bool.and_eq_false_iff];exact .inr (ptEL_no (Nat.lt_of_succ_lt_succ h1) (Nat.lt_of_succ_lt_succ h2) h)
theorem ptE_refl (p:Pt):ptE p p=true:=by
 induction p using Pt.ind with
 | h p ih =>
  rw [ptE_eq,Bool.and_eq_true];exact ⟨by simp,ptEL_of fun i h _=>ih _ (List.getElem_mem h)⟩
def rlE (r s:Rl):Bool:=decide (r.vars=s.vars∧r.imms=s.imms∧r.conds.length=s.conds.length)&&ptE r.l s.l&&ptE r.r s.r&&decide (r.conds=s.conds)
theorem rlE_refl (r:Rl):rlE r r=true:=by simp [rlE,ptE_refl]
theorem CondsV.take {w:World} {F:Nat→Prop} {A:Option Addr} {cs:List Cd} (h:CondsV w F A cs) {i:Nat} (hi:i<cs.length):∃b o,A=some ⟨b,o,none⟩∧b<w.heap.size∧w.cell? ⟨b,o+i * 4,none⟩=some (.int .i64 cs[i].kind)∧w.cell? ⟨b,o+i * 4+1,none⟩=some (.int .i64 cs[i].a)∧w.cell? ⟨b,o+i * 4+2,none⟩=some (.int .i64 cs[i].b)∧w.cell? ⟨b,o+i * 4+3,none⟩=some (.int .i64 cs[i].n):=by
 obtain ⟨b,o,h1,_,h2,h3⟩:=h.at_ hi;exact ⟨b,o,h1,h2,h3⟩
def hdF (r:Rl):Bs:=[114,117,108,101,32]++kx r.name++[58,32]++fmtF r.l++[32,61,62,32]++fmtF r.r
theorem fmtR_hd (r:Rl):fmtR r=hdF r++fmtCs r.conds true++[59,10]:=rfl
theorem hd_eq (r:Rl):kx ((((({ data:=#[114,117,108,101,32] }:ByteArray)++r.name)++{ data:=#[58,32] })++kstr (fmtF r.l))++{ data:=#[32,61,62,32] }++kstr (fmtF r.r))=hdF r:=by
 simp [kx,kstr,hdF]
theorem hdF_len {r:Rl} (h:FmR r):(hdF r).length≤1600:=by
 have e1:=fmtF_len _ h.l;have e2:=fmtF_len _ h.r;have e5:=h.ls;have e6:=h.rs;have e7:(kx r.name).length≤16:=by rw [kx_len];exact h.n
 unfold hdF;simp only [List.length_append,List.length_cons,List.length_nil];omega
set_option maxRecDepth 100000 in
set_option maxHeartbeats 2000000 in
theorem rPrint_c (w:World) (F:Nat→Prop) (A:Option Addr) (c:Nat) (L:List Rl) (hv:RlsV w F A L) (hz:∀r∈L,RlSz r) (hi:∀r∈L,RlI r) (hn:L.length≤1000000) :
  Calls Tryz.prog 14 #[.slice A L.length c] w fun e w'=>e=.returned (.string (kstr (printF L)))∧Upd Non w w':=by
 have HV:=h_ hv;have HZ:=h_ hz;have HI:=h_ hi;obtain ⟨res,Hres⟩:=nm (kstr (printF L));rw [Hres.out];obtain ⟨n,Hn⟩:=nm L.length;rw [Hn.out] at hn ⊢;clear hv hz hi;go_enter Tryz.func14,Tryz.ntmps14;go_wp2_with fail
 go_loopg [3,5,6,7,8,11] n (fun g v _ _ _ _ iv wr=>∃(k:Nat) (BA:Option Addr) (bc:Nat) (bs:Bs),Hid (g=n - k)∧k≤n∧iv=.int .i64 k∧v=.slice BA bs.length bc∧Hid (Own wr 5 1 BA bs.length bc (u8s bs))∧Hid (∀q,At BA q→w.heap.size≤q)∧Hid (bs=fmtRs (L.take k))∧bs.length≤2000 * k∧Hid (∀r∈L.take k,implF r=true)∧Hid (Upd Non w wr))
 case atStart=>exact ⟨0,none,0,[],rfl,Nat.zero_le _,rfl,rfl,Own.none_,fun _ q=>(At.none_ q).elim,rfl,by simp,fun r hr=>by simp at hr,Upd.refl⟩
 case round =>
  obtain ⟨k,BA,bc,bs,Hg,hk,rfl,rfl,HO,HA,HB,hbl,HI2,HU⟩:=hrel;by_cases hlt:k<n
  ·have hkl:k<L.length:=by rw [Hn.out];exact hlt
   obtain ⟨b,o,a,rfl,_,hbw0,hat0,hrk0⟩:=HV.out.at_ hkl;have hbw:b<wr.heap.size:=Nat.lt_of_lt_of_le hbw0 HU.out.size;have hat:=hat0.upd HU.out (fun f=>f);have hrk:=hrk0.upd HU.out (fun _ _ _ f=>f);have HRW:=h_ hrk0;clear hat0 hrk0 hbw0;unfold RlAt at hat;have HRZ:=h_ (HZ.out _ (List.getElem_mem hkl));have HRI:=h_ (HI.out _ (List.getElem_mem hkl));have HTK:Hid (L.take (k+1)=L.take k++[L[k]]):=take_snoc' hkl;have HME:Hid (L[k]∈L):=List.getElem_mem hkl;generalize L[k]=r at *;obtain ⟨x0,x1,x2,x3,x4,x5,x6,x7,x8,x9,x10,x11,x12,x13⟩:=hat;have CV:=h_ (rlValid_c r a F _ (hrk.upd (Upd.refl.alloc (S:=Non) (.cells (rlCells r a) 43)) (fun _ _ _ f=>f)) HRZ.out);have hb3:=Blk.new wr 43 (rlCells r a);have HB3:=h_ hb3;have HRK:=h_ hrk;unfold rlv rlCells at CV;obtain ⟨v,Hv⟩:=nm (implF r);rw [Hv.out] at CV;clear hb3 hrk;go_wp2_with fail
   refine CV.out.mono ?_;rintro e w4 ⟨rfl,hu4⟩;clear CV x0 x1 x2 x3 x4 x5 x6 x7 x8 x9 x10 x11 x12 x13;have HU4:=h_ ((HU.out.alloc (.cells (rlCells r a) 43)).then_non hu4);have HB4:=h_ (HB3.out.upd hu4 (fun f=>f));have u34:Upd Non wr w4:=(Upd.refl.alloc (S:=Non) (.cells (rlCells r a) 43)).then_non hu4;have HO4:=h_ (Own.upd HO.out u34 (fun _ _ f=>f));have HRK4:=h_ (HRK.out.upd u34 (fun _ _ _ f=>f));clear HO HB3 HRK hu4 u34
   cases v with
   | false =>
    go_wp2_with fail
    go_ret;refine ⟨?_,HU4.out⟩;rw [←Hres.out,show printF L=[] from if_neg (fun q=>by have:=List.all_eq_true.1 q r HME.out;rw [Hv.out] at this;cases this)];rfl
   | true =>
    have HF:=h_ (impl_fm Hv.out HRI.out);have hnl:r.name.size≤16:=HF.out.n;have hlz:r.l.size≤24:=HF.out.ls;have hrz:r.r.size≤24:=HF.out.rs;have hl1:(kstr (fmtF r.l)).size≤720:=ksz (by have:=fmtF_len _ HF.out.l;omega);have hl2:(kstr (fmtF r.r)).size≤720:=ksz (by have:=fmtF_len _ HF.out.r;omega);have CL:=h_ (fun W (u:Upd Non w4 W)=>rFormat_c r.l W F a.la a.lc (PtK.upd u (fun _ _ _ f=>f) _ _ _ HRK4.out.l) HF.out.l (by omega));have CR:=h_ (fun W (u:Upd Non w4 W)=>rFormat_c r.r W F a.ra a.rc (PtK.upd u (fun _ _ _ f=>f) _ _ _ HRK4.out.r) HF.out.r (by omega));have HE:=h_ (hd_eq r);have hsz:(hdF r).length≤1600:=hdF_len HF.out;obtain ⟨f1,Hf1⟩:=nm (kstr (fmtF r.l));obtain ⟨f2,Hf2⟩:=nm (kstr (fmtF r.r));rw [Hf1.out] at CL HE hl1;rw [Hf2.out] at CR HE hl2;unfold pv at CL CR;have HAO:=HA
    go_upto_region 7 with fail
    go_cut [3] (fun v wx=>∃(BB:Option Addr) (bb:Nat) (bs2:Bs),v=.slice BB bs2.length bb∧Hid (Own wx 5 1 BB bs2.length bb (u8s bs2))∧Hid (∀q,At BB q→w.heap.size≤q)∧Hid (bs2=bs++hdF r)∧Hid (Upd (At BA) w4 wx))
    case first =>
     obtain ⟨wD,HwD⟩:=nm w4.drew;have uD:Upd Non w4 wD:=by rw [←HwD.out];exact Upd.refl.drew
     have hbD:=HB4.out.upd uD (fun f=>f);unfold rlCells at hbD;have hq1:¬(9223372036854775807<5+r.name.size):=by omega
     have hq2:¬(9223372036854775807<5+r.name.size+2):=by omega
     have hq3:¬(9223372036854775807<5+r.name.size+2+f1.size):=by omega
     have hq4:¬(9223372036854775807<5+r.name.size+2+f1.size+4):=by omega
     have hq5:¬(9223372036854775807<5+r.name.size+2+f1.size+4+f2.size):=by omega
     refine wp_region_held_drew (S:=fun w'=>w'.cell? ⟨wr.heap.size,0,none⟩=some (.string r.name)∧w'.cell? ⟨wr.heap.size,1,none⟩=some (.int .i64 r.l.v)∧w'.cell? ⟨wr.heap.size,2,none⟩=some (.int .i64 r.l.op)∧w'.cell? ⟨wr.heap.size,3,none⟩=some (.int .i64 r.l.imm)∧w'.cell? ⟨wr.heap.size,4,none⟩=some (.int .i64 r.l.iv)∧w'.cell? ⟨wr.heap.size,5,none⟩=some (.slice a.la r.l.kids.length a.lc)∧w'.cell? ⟨wr.heap.size,6,none⟩=some (.int .i64 r.r.v)∧w'.cell? ⟨wr.heap.size,7,none⟩=some (.int .i64 r.r.op)∧w'.cell? ⟨wr.heap.size,8,none⟩=some (.int .i64 r.r.imm)∧w'.cell? ⟨wr.heap.size,9,none⟩=some (.int .i64 r.r.iv)∧w'.cell? ⟨wr.heap.size,10,none⟩=some (.slice a.ra r.r.kids.length a.rc)) (by kernel_rfl) (by rw [HwD.out];exact ⟨hbD.cell 0,hbD.cell 1,hbD.cell 2,hbD.cell 3,hbD.cell 4,hbD.cell 5,hbD.cell 6,hbD.cell 7,hbD.cell 8,hbD.cell 9,hbD.cell 10⟩) (fun hHeld=>?_)
     rw [HwD.out] at hHeld ⊢;refine wpT 0 ?_;(try simp only [y_,z_]);refine wpT 1 ?_;(try simp only [y_,z_]);refine wpT 2 ?_;(try simp only [y_,z_]);refine wpT 3 ?_;(try simp only [y_,z_]);refine wpT 4 ?_;(try simp only [y_,z_]);refine wpT 5 ?_;(try simp only [y_,z_]);refine wpT 6 ?_;(try simp only [y_,z_]);refine wpT 10 ?_;(try simp only [y_,z_]);refine wpT 11 ?_;(try simp only [y_,z_]);refine aR_ (rs:=[7]) (by kernel_rfl) (by simp) ?_;refine aC_ rfl (fun K hK=>?_) aN_;go_simp;refine (CL.out _ uD).mono ?_;rintro e w5 ⟨rfl,u5⟩;have h5:Upd Non w4 w5:=uD.then_non u5;have hb5:=HB4.out.upd h5 (fun f=>f);unfold rlCells at hb5;go_wp2_with fail
     refine hK.out _ _ ?_ (fun hHeld=>?_)
     ·exact ⟨hb5.cell 0,hb5.cell 1,hb5.cell 2,hb5.cell 3,hb5.cell 4,hb5.cell 5,hb5.cell 6,hb5.cell 7,hb5.cell 8,hb5.cell 9,hb5.cell 10⟩
     clear hK K;(try simp only [y_,z_]);refine wpT 8 ?_;(try simp only [y_,z_]);refine wpT 9 ?_;(try simp only [y_,z_]);refine aR_ (rs:=[12]) (by kernel_rfl) (by simp) ?_;refine aC_ rfl (fun K hK=>?_) aN_;go_simp;refine (CR.out _ h5).mono ?_;rintro e w6 ⟨rfl,u6⟩;have h6:Upd Non w4 w6:=h5.then_non u6;have hb6:=HB4.out.upd h6 (fun f=>f);unfold rlCells at hb6;go_wp2_with fail
     refine hK.out _ _ ?_ (fun hHeld=>?_)
     ·exact ⟨hb6.cell 0,hb6.cell 1,hb6.cell 2,hb6.cell 3,hb6.cell 4,hb6.cell 5,hb6.cell 6,hb6.cell 7,hb6.cell 8,hb6.cell 9,hb6.cell 10⟩
     clear hK K;(try simp only [y_,z_]);refine wpT 13 ?_;(try simp only [y_,z_]);refine aR_ (rs:=[14]) (by kernel_rfl) (by simp) ?_;refine aC_ rfl (fun K hK=>?_) aN_;have ho6:=Own.upd HO4.out h6 (fun _ _ f=>f);have hs6:=h6.size;have hU6:=HU4.out.size;have hsq:((((({ data:=#[114,117,108,101,32] }:ByteArray)++r.name)++{ data:=#[58,32] })++f1)++{ data:=#[32,61,62,32] }++f2).size≤1600:=by rw [←kx_len,HE.out];exact hsz
     refine step_apps rfl rfl rfl ho6 HA.out (by omega) rfl (by omega) ?_;intro BB bb w7 ho7 hu7 hat7;rw [HE.out] at ho7;have h7:Upd (At BA) w4 w7:=(h6.mono (fun _ _ f=>f.elim)).trans hu7 (fun _ _ q=>q);have hne:¬At BA wr.heap.size:=Own.ne_blk ho6 hb6 (by decide);have hb7:=hb6.upd hu7 hne;refine hK.out _ _ ?_ (fun hHeld=>?_)
     ·exact ⟨hb7.cell 0,hb7.cell 1,hb7.cell 2,hb7.cell 3,hb7.cell 4,hb7.cell 5,hb7.cell 6,hb7.cell 7,hb7.cell 8,hb7.cell 9,hb7.cell 10⟩
     clear hK K;(try simp only [y_,z_]);refine wpT 15 ?_;(try simp only [y_,z_]);refine aD_ (by kernel_rfl) ?_ _;have HLE:Hid ((((((({ data:=#[114,117,108,101,32] }:ByteArray)++r.name)++{ data:=#[58,32] })++f1)++{ data:=#[32,61,62,32] }++f2).size=(hdF r).length)):=by show _=_;rw [←kx_len,HE.out]
     have HLS:Hid (5+r.name.size+2+f1.size+4+f2.size=(hdF r).length):=by
      show _=_;rw [←HLE.out];simp only [ByteArray.size_append',ByteArray.size_mk'];rfl
     have HO7:=h_ ho7;have HU7:=h_ h7;have HA7:=h_ hat7;clear ho7 hu7 hat7 h7 hb7 hb6 hb5 hbD ho6 h6 h5 uD hq1 hq2 hq3 hq4 hq5;go_wp2_with fail
     go_meet
     case rel =>
      refine ⟨BB,bb,bs++hdF r,?_,?_,HA7,rfl,HU7⟩
      ·rw [List.length_append,←HLS.out]
      ·show Own _ _ _ _ _ _ _;have:=HO7.out;rw [HLE.out] at this;rw [List.length_append];exact this
    case rest =>
     clear CL CR HE hl1 hl2;obtain ⟨BB,bb,bs2,rfl,HO,HA,HBS,HUC⟩:=hcut;have hne:¬At BA wr.heap.size:=Own.ne_blk HO4.out HB4.out (by decide);have hbc:=HB4.out.upd HUC.out hne;unfold rlCells at hbc;have c11:=hbc.cell 11;have hwlt:w.heap.size≤wr.heap.size:=HU.out.size;have HUW:Hid (Upd Non w wc):=HU4.out.trans HUC.out (fun q hq e=>by have:=HAO.out q e;omega);obtain ⟨m,Hm⟩:=nm r.conds.length;obtain ⟨ca,Hca⟩:=nm a.ca;rw [Hm.out,Hca.out] at c11;have hm6:m≤6:=by rw [←Hm.out];exact HF.out.few
     have hb2l:bs2.length≤2000 * k+1600:=by rw [HBS.out,List.length_append];omega
     clear hbc;go_wp2_with fail
     go_loopg [3,6,7,8,36] m (fun g v _ _ _ iv wq=>∃(q:Nat) (BB:Option Addr) (bb:Nat) (b3:Bs),Hid (g=m - q)∧q≤m∧iv=.int .i64 q∧v=.slice BB b3.length bb∧Hid (Own wq 5 1 BB b3.length bb (u8s b3))∧Hid (∀q,At BB q→w.heap.size≤q)∧Hid (b3=bs2++fmtCs (r.conds.take q) true)∧b3.length≤bs2.length+50 * q∧Hid (Upd Non w wq))
     case atStart=>exact ⟨0,BB,bb,bs2,rfl,Nat.zero_le _,rfl,rfl,HO,HA,by show _=_;simp [fmtCs],by omega,HUW⟩
     case round =>
      clear HO HA HUC HUW hne c11;obtain ⟨q,BB,bb,b3,Hgq,hq,rfl,rfl,HO,HA,HB3,hb3l,HUQ⟩:=hrel;by_cases hqt:q<m
      ·have hql:q<r.conds.length:=by rw [Hm.out];exact hqt
       have htk:=(HRW.out.c.upd HUQ.out (fun _ _ _ f=>f)).take hql;rw [Hca.out] at htk;obtain ⟨b',o',rfl,hbw',y0,y1,y2,y3⟩:=htk;have HCF:=h_ (HF.out.c _ (List.getElem_mem hql));have HTC:Hid (r.conds.take (q+1)=r.conds.take q++[r.conds[q]]):=take_snoc' hql;generalize r.conds[q]=cd at *;have CFC:=h_ (rFormatCond_c cd HCF.out (wr.alloc (.cells #[.int .i64 cd.kind,.int .i64 cd.a,.int .i64 cd.b,.int .i64 cd.n] 69)));have hzc:(kstr (fmtC cd)).size≤40:=ksz (fmtC_len HCF.out);have HKC:Hid (kx (kstr (fmtC cd))=fmtC cd):=kx_kstr _;obtain ⟨fc,Hfc⟩:=nm (kstr (fmtC cd));rw [Hfc.out] at CFC hzc HKC;by_cases hq0:q=0
       ·have tq:((q:Int)==0)=true:=by simp;omega
        have HE:Hid (kx (({ data:=#[32,105,102,32] }:ByteArray)++fc)=(if true&&(r.conds.take q).isEmpty then [32,105,102,32] else [44,32])++fmtC cd):=by
         show _=_;rw [show (true&&(r.conds.take q).isEmpty)=true by rw [hq0];rfl,if_pos rfl];rw [←HKC.out];simp [kx]
        have hsz:(({ data:=#[32,105,102,32] }:ByteArray)++fc).size≤44:=by rw [ByteArray.size_append'];show 4+fc.size≤44;omega
        clear hq0;have hsl:w.heap.size≤wr.heap.size:=HUQ.out.size;go_wp2_with fail
        refine CFC.out.mono ?_;rintro e w8 ⟨rfl,hu8⟩;have ua:Upd Non wr w8:=(Upd.refl.alloc (S:=Non) (.cells #[.int .i64 cd.kind,.int .i64 cd.a,.int .i64 cd.b,.int .i64 cd.n] 69)).then_non hu8;have hsl8:w.heap.size≤w8.heap.size:=Nat.le_trans hsl ua.size;have ho8:=Own.upd HO.out ua (fun _ _ f=>f);clear CFC hu8 y0 y1 y2 y3
        go_wp2_with (at_builtin;refine wpList_apps rfl rfl rfl ho8 HA.out hsl8 rfl (by omega) ?_;intro B4 b4 w9 ho9 hu9 hat9)
        rw [HE.out] at ho9;have HU9:Hid (Upd Non w w9):=(HUQ.out.then_non ua).trans hu9 (fun j hj e=>by have:=HA.out j e;omega);have HLN:Hid ((({ data:=#[32,105,102,32] }:ByteArray)++fc).size=((if true&&(r.conds.take q).isEmpty then [32,105,102,32] else [44,32])++fmtC cd).length):=by show _=_;rw [←HE.out,kx_len]
        have HLM:Hid (4+fc.size=((if true&&(r.conds.take q).isEmpty then [32,105,102,32] else [44,32])++fmtC cd).length):=by
         show _=_;rw [←HLN.out,ByteArray.size_append'];rfl
        have hs44:4+fc.size≤44:=by omega
        rw [HLN.out] at ho9;have HO9:=h_ ho9;have HA9:=h_ hat9;clear ho9 hu9 hat9 ho8 ua hsz
        go_roundg (m - (q+1))
        case measure=>rw [Hgq.out];omega
        case rel =>
         refine ⟨q+1,B4,b4,b3++((if true&&(r.conds.take q).isEmpty then [32,105,102,32] else [44,32])++fmtC cd),rfl,by omega,by go_num,by rw [List.length_append,←HLM.out],?_,HA9.out,?_,?_,HU9⟩
         ·show Own _ _ _ _ _ _ _;rw [List.length_append];exact HO9.out
         ·show _=_;rw [HTC.out,fmtCs_snoc,HB3.out,List.append_assoc]
         ·rw [List.length_append,←HLM.out];omega
       ·have tq:((q:Int)==0)=false:=by simp;omega
        have HE:Hid (kx (({ data:=#[44,32] }:ByteArray)++fc)=(if true&&(r.conds.take q).isEmpty then [32,105,102,32] else [44,32])++fmtC cd):=by
         show _=_;rw [show (true&&(r.conds.take q).isEmpty)=false by rw [Bool.true_and,List.isEmpty_eq_false_iff];intro ht;have:=congrArg List.length ht;rw [List.length_take] at this;simp only [List.length_nil] at this;omega,if_neg (by decide)]
         rw [←HKC.out];simp [kx]
        have hsz:(({ data:=#[44,32] }:ByteArray)++fc).size≤44:=by rw [ByteArray.size_append'];show 2+fc.size≤44;omega
        clear hq0;have hsl:w.heap.size≤wr.heap.size:=HUQ.out.size;go_wp2_with fail
        refine CFC.out.mono ?_;rintro e w8 ⟨rfl,hu8⟩;have ua:Upd Non wr w8:=(Upd.refl.alloc (S:=Non) (.cells #[.int .i64 cd.kind,.int .i64 cd.a,.int .i64 cd.b,.int .i64 cd.n] 69)).then_non hu8;have hsl8:w.heap.size≤w8.heap.size:=Nat.le_trans hsl ua.size;have ho8:=Own.upd HO.out ua (fun _ _ f=>f);clear CFC hu8 y0 y1 y2 y3
        go_wp2_with (at_builtin;refine wpList_apps rfl rfl rfl ho8 HA.out hsl8 rfl (by omega) ?_;intro B4 b4 w9 ho9 hu9 hat9)
        rw [HE.out] at ho9;have HU9:Hid (Upd Non w w9):=(HUQ.out.then_non ua).trans hu9 (fun j hj e=>by have:=HA.out j e;omega);have HLN:Hid ((({ data:=#[44,32] }:ByteArray)++fc).size=((if true&&(r.conds.take q).isEmpty then [32,105,102,32] else [44,32])++fmtC cd).length):=by show _=_;rw [←HE.out,kx_len]
        have HLM:Hid (2+fc.size=((if true&&(r.conds.take q).isEmpty then [32,105,102,32] else [44,32])++fmtC cd).length):=by
         show _=_;rw [←HLN.out,ByteArray.size_append'];rfl
        have hs44:2+fc.size≤44:=by omega
        rw [HLN.out] at ho9;have HO9:=h_ ho9;have HA9:=h_ hat9;clear ho9 hu9 hat9 ho8 ua hsz
        go_roundg (m - (q+1))
        case measure=>rw [Hgq.out];omega
        case rel =>
         refine ⟨q+1,B4,b4,b3++((if true&&(r.conds.take q).isEmpty then [32,105,102,32] else [44,32])++fmtC cd),rfl,by omega,by go_num,by rw [List.length_append,←HLM.out],?_,HA9.out,?_,?_,HU9⟩
         ·show Own _ _ _ _ _ _ _;rw [List.length_append];exact HO9.out
         ·show _=_;rw [HTC.out,fmtCs_snoc,HB3.out,List.append_assoc]
         ·rw [List.length_append,←HLM.out];omega
      ·obtain rfl:m=q:=by omega
       have hsl:w.heap.size≤wr.heap.size:=HUQ.out.size;have HZE:Hid (kx ({ data:=#[59,10] }:ByteArray)=[59,10]):=rfl;have hsz2:({ data:=#[59,10] }:ByteArray).size=2:=rfl
       go_wp2_with (at_builtin;refine wpList_apps rfl rfl rfl HO.out HA.out hsl rfl (by omega) ?_;intro B4 b4 w9 ho9 hu9 hat9)
       have HT:Hid (b3++[59,10]=fmtRs (L.take (k+1))):=by
        show _=_;rw [HTK.out,fmtRs_snoc,fmtR_hd,HB3.out,HBS.out,HB.out,←Hm.out,List.take_length];simp
       have HIA:Hid (∀x∈L.take (k+1),implF x=true):=fun x hx=>by
        rw [HTK.out] at hx;rcases List.mem_append.1 hx with hx | hx
        ·exact HI2.out x hx
        ·rw [List.mem_singleton] at hx;subst hx;exact Hv.out
       have HU9:Hid (Upd Non w w9):=HUQ.out.trans hu9 (fun j hj e=>by have:=HA.out j e;omega);rw [HZE.out,HT.out] at ho9;have HO9:=h_ ho9;have HA9:=h_ hat9;clear ho9 hu9 hat9
       go_roundg (n - (k+1))
       case measure=>rw [Hg.out];omega
       case rel =>
        have hlen:b3.length+2=(fmtRs (L.take (k+1))).length:=by rw [←HT.out];simp
        refine ⟨k+1,B4,b4,fmtRs (L.take (k+1)),rfl,by omega,by go_num,by rw [←hlen],?_,HA9.out,rfl,?_,HIA,HU9⟩
        ·show Own _ _ _ _ _ _ _;rw [←hlen];exact HO9.out
        ·have:=fmtRs_len (L:=L.take (k+1)) (fun x hx=>impl_fm (HIA.out x hx) (HI.out x (List.mem_of_mem_take hx)));rw [List.length_take] at this;omega
  ·obtain rfl:n=k:=by omega
   have hcv:=conv_own HO.out rfl
   have HE:Hid (kstr bs=res):=by
    show _=_;rw [←Hres.out,HB.out];unfold printF;have h1:=HI2.out;rw [←Hn.out,List.take_length] at h1 ⊢;rw [if_pos (List.all_eq_true.2 h1)]
   rw [HE.out] at hcv;go_wp2_with fail
   go_ret;exact ⟨rfl,HU.out⟩
theorem rParse_all (s:ByteArray) (w:World):Calls Tryz.prog 10 #[.string s] w (ParseP (parseF (kx s)) w) :=
 rParse_c axiomF axiomF_sz s (fun _ q w=>rAxiom_c q w) w
def nmCs (l:List (Bs×Bs)):List Value:=l.map fun x=>.string (kstr x.1)
theorem nmCs_snoc (l:List (Bs×Bs)) (x:Bs×Bs):nmCs (l++[x])=nmCs l++[.string (kstr x.1)]:=by simp [nmCs]
theorem T_strs:SlT Tryz.prog 27 9 1 16:=by
 obtain ⟨i,h1,h2,h3,h4⟩:=info_parts (show (Tryz.prog.info? 9).map (fun i=>(i.zero,i.size,i.bytes))=some (some (.string ⟨#[]⟩),1,16) from by kernel_rfl)
 exact ⟨Tryz.underlying27,⟨i,_,h1,h2,h3,h4,rfl⟩,by omega⟩
set_option maxRecDepth 100000 in
set_option maxHeartbeats 1000000 in
theorem rAxioms_c (w:World):Calls Tryz.prog 17 #[] w fun e w'=>∃(A:Option Addr) (c:Nat),e=.returned (.slice A 22 c)∧Own w' 9 1 A 22 c (nmCs axL)∧(∀k,At A k→w.heap.size≤k)∧Upd Non w w':=by
 have CA:=h_ (raxioms_c w);go_enter Tryz.func17,Tryz.ntmps17;go_wp2_with fail
 refine CA.out.mono ?_;rintro e w2 ⟨rfl,hbt,hu2⟩;have HT:=h_ hbt;have HU2:=h_ hu2;have hs2:=hu2.size;clear hbt hu2 CA;go_wp2_with fail
 go_loopg [1,3,6] 22 (fun g v _ iv wr=>∃(j:Nat) (A:Option Addr) (c:Nat),Hid (g=22 - j)∧j≤22∧iv=.int .i64 j∧v=.slice A j c∧Hid (Own wr 9 1 A j c (nmCs (axL.take j)))∧Hid (∀k,At A k→w2.heap.size≤k)∧Hid (Upd Non w2 wr))
 case atStart=>exact ⟨0,none,0,rfl,Nat.zero_le _,rfl,rfl,Own.none_,fun _ q=>(At.none_ q).elim,Upd.refl⟩
 case round =>
  obtain ⟨j,A,c,Hg,hj,rfl,rfl,HO,HA,HU⟩:=hrel;have hb:=HT.out.upd HU.out (fun f=>f);by_cases hlt:j<22
  ·have hal:j<axL.length:=hlt;obtain ⟨k0,k1⟩:=axCs_get hal;have c0:wr.cell? ⟨w.heap.size,j * 2,none⟩=some (.string (kstr axL[j].1)):=by rw [hb.cell];simpa using k0
   have c1:wr.cell? ⟨w.heap.size,j * 2+1,none⟩=some (.string (kstr axL[j].2)):=by rw [hb.cell];simpa using k1
   have HTK:Hid (axL.take (j+1)=axL.take j++[axL[j]]):=take_snoc' hal;generalize axL[j]=xx at *;obtain ⟨qa,Hqa⟩:=nm (kstr xx.1);obtain ⟨qb,Hqb⟩:=nm (kstr xx.2);rw [Hqa.out] at c0;rw [Hqb.out] at c1;have hsl:=HU.out.size;obtain ⟨W3,HW3⟩:=nm (wr.alloc (.cells #[.string qa,.string qb] 82));have e3:=HW3.out;have u3:Upd Non wr W3:=by rw [←e3];exact Upd.refl.alloc _
   have b3:Blk W3 wr.heap.size 82 #[.string qa,.string qb]:=by rw [←e3];exact Blk.new _ _ _
   have z0:=b3.cell 0;have hs3:=u3.size;have hoA:=Own.upd HO.out u3 (fun _ _ f=>f);have HU3:=h_ (HU.out.then_non u3);clear k0 k1 hb b3 u3
   go_wp2_with (at_builtin;refine wpList_app rfl rfl T_strs rfl (hoA.alloc _) rfl (Sl.new _ _ _) rfl (by simp [Value.oneCell']) (by simp only [maxLen];omega) (by omega) ?_;intro A4 c4 w4 ho4 hu4 hat4)
   have HU4:Hid (Upd Non w2 w4):=(HU3.out.alloc _).trans hu4 (fun k hk e=>by have:=HA.out k e;omega)
   have HA4:Hid (∀k,At A4 k→w2.heap.size≤k):=fun k hk=>by
    rcases hat4 k hk with q | q
    ·exact HA.out k q
    ·simp at q;omega
   have HO4:Hid (Own w4 9 1 A4 (j+1) c4 (nmCs (axL.take (j+1)))):=by
    show Own _ _ _ _ _ _ _;rw [HTK.out,nmCs_snoc,Hqa.out];exact ho4
   clear ho4 hu4 hat4 hoA
   go_roundg (22 - (j+1))
   case measure=>rw [Hg.out];omega
   case rel=>exact ⟨j+1,A4,c4,rfl,by omega,by go_num,rfl,HO4.out,HA4.out,HU4.out⟩
  ·obtain rfl:j=22:=by omega
   clear hb;have hO:=HO.out;rw [List.take_of_length_le (show axL.length≤22 from Nat.le_refl _)] at hO;have HO2:=h_ hO;clear hO;go_wp2_with fail
   go_ret;exact ⟨A,c,rfl,HO2.out,fun k hk=>by have:=HA.out k hk;omega,HU2.out.then_non HU.out⟩
def riB (r:Rl):Bool:=(nodes r.l).all (fun q=>decide (-9223372036854775808≤q.imm∧q.imm≤9223372036854775807))&&(nodes r.r).all (fun q=>decide (-9223372036854775808≤q.imm∧q.imm≤9223372036854775807))&&r.conds.all (fun c=>decide (-9223372036854775808≤c.n∧c.n≤9223372036854775807))
theorem riB_ok {r:Rl} (h:riB r=true):RlI r:=by
 simp only [riB,Bool.and_eq_true,List.all_eq_true,decide_eq_true_eq] at h;exact ⟨fun q hq=>h.1.1 q hq,fun q hq=>h.1.2 q hq,fun q hq=>h.2 q hq⟩
theorem szB_ok {r:Rl} (h:szB r=true):RlSz r:=by
 simp only [szB,Bool.and_eq_true,decide_eq_true_eq] at h;exact ⟨h.1.1.1,h.1.1.2,h.1.2,h.2⟩
theorem ktl (l:Bs):(kstr l).toList=l:=by rw [ByteArray.toList_eq];rfl
def exT1:Bs:=[114,117,108,101,32,122,101,114,111,58,32,40,97,100,100,32,63,120,32,48,41,32,61,62,32,63,120,59,32,47,47,32,115,111]
def exT2:Bs:=[97,120,105,111,109,32,110,111,116,104,105,110,103,59]
def exP:Bs:=[114,117,108,101,32,122,101,114,111,58,32,40,97,100,100,32,63,97,32,48,41,32,61,62,32,63,97,59,10]
theorem ex1:(match parseF exT1 with | .ok [r]=>decide (kx r.name=[122,101,114,111])&&decide (r.vars=1)&&decide (printF [r]=exP)&&szB r&&riB r | _=>false)=true:=by decide +kernel
theorem ex2:(match parseF exT2 with | .error e=>decide (e.1=3)&&decide (e.2=6) | _=>false)=true:=by decide +kernel
theorem ex1':∃r,parseF exT1=.ok [r]∧r.name=kstr [122,101,114,111]∧r.vars=1∧printF [r]=exP∧RlSz r∧RlI r:=by
 have h:=ex1
 split at h
 ·rename_i r he;simp only [Bool.and_eq_true,decide_eq_true_eq] at h;exact ⟨r,he,by apply kx_inj;rw [kx_kstr];exact h.1.1.1.1,h.1.1.1.2,h.1.1.2,szB_ok h.1.2,riB_ok h.2⟩
 ·cases h
theorem ex2':parseF exT2=.error (3,6):=by
 have h:=ex2
 split at h
 ·rename_i e he;simp only [Bool.and_eq_true,decide_eq_true_eq] at h;rw [he];obtain ⟨a,b⟩:=e;rw [show a=3 from h.1,show b=6 from h.2]
 ·cases h
set_option maxRecDepth 100000 in
set_option maxHeartbeats 1000000 in
theorem RuExamples_c (w:World):Calls Tryz.prog 6 #[] w fun e w'=>e=.returned (.bool true)∧Upd Non w w':=by
 obtain ⟨r,hp,hnm,hvr,hpr,hsz,hri⟩:=ex1';have C1:=h_ (rParse_all (kstr exT1) w);rw [kx_kstr,hp] at C1;have C2:=h_ (fun W=>rParse_all (kstr exT2) W);have CX:=h_ (fun W=>rAxioms_c W);have HP:=h_ hpr;have HS:=h_ hsz;have HI:=h_ hri;clear hp hpr hsz hri;go_enter Tryz.func6,Tryz.ntmps6;go_wp2_with fail
 refine C1.out.mono ?_;rintro e w1 ⟨u1,h⟩;rcases h with ⟨er,h,_⟩ | ⟨Q,A,c,h,rfl,hv,hle⟩
 ·cases h
 injection h with h
 subst h;have hs1:=u1.size;have HU1:=h_ u1;have HV:=h_ hv;clear u1 hv hle;obtain ⟨W2,HW2⟩:=nm (w1.alloc (.cells #[.int .i64 0,.int .i64 0] 31));have u2:Upd Non w1 W2:=by rw [←HW2.out];exact Upd.refl.alloc _
 have b2:Blk W2 w1.heap.size 31 #[.int .i64 0,.int .i64 0]:=by rw [←HW2.out];exact Blk.new _ _ _
 have C22:=h_ (C2.out W2);rw [kx_kstr,ex2'] at C22
 go_upto_region 2 with fail
 rw [HW2.out];go_wp2_with fail
 refine C22.out.mono ?_;rintro e w3 ⟨u3,h⟩;rcases h with ⟨er,h,rfl⟩ | ⟨Q,A,c,h,_⟩
 rotate_left
 ·cases h
 injection h with h
 subst h;have b3:=b2.upd u3 (fun f=>f);obtain ⟨W4,HW4⟩:=nm (w3.alloc (.cells #[.int .i64 3,.int .i64 6] 31));have u4:Upd Non w3 W4:=by rw [←HW4.out];exact Upd.refl.alloc _
 have b4:Blk W4 w3.heap.size 31 #[.int .i64 3,.int .i64 6]:=by rw [←HW4.out];exact Blk.new _ _ _
 have b5:=b3.upd u4 (fun f=>f);have U4:=(u2.then_non u3).then_non u4;have HB4:=h_ b4;have HB5:=h_ b5;have HU4:=h_ U4;have hV:=HV.out.upd U4 (fun _ _ _ f=>f);obtain ⟨b,o,a,rfl,_,hbw,hat,_⟩:=hV.at_ (i:=0) (by simp);have CP:=h_ (rPrint_c W4 _ _ c [r] hV (fun x hx=>by rw [List.mem_singleton] at hx;rw [hx];exact HS.out) (fun x hx=>by rw [List.mem_singleton] at hx;rw [hx];exact HI.out) (by simp))
 rw [HP.out] at CP;unfold RlAt at hat;rw [List.getElem_cons_zero,Nat.zero_mul,Nat.add_zero,hnm,hvr] at hat;obtain ⟨x0,_,_,_,_,_,_,_,_,_,_,_,x12,_⟩:=hat
 go_upto_region 3 with fail
 rw [HW4.out];have y0:=b5.cell 0;have y1:=b5.cell 1;have z0:=b4.cell 0;have z1:=b4.cell 1;clear C1 C2 C22 HW2 HW4 b2 b3 b4 b5 u2 u3 u4 U4;have hq1:((kstr [122,101,114,111]).toList==[122,101,114,111])=true:=by rw [ktl];rfl
 have hq2:((kstr exP).toList==[114,117,108,101,32,122,101,114,111,58,32,40,97,100,100,32,63,97,32,48,41,32,61,62,32,63,97,59,10])=true:=by rw [ktl];rfl
 obtain ⟨nz,Hnz⟩:=nm (kstr [122,101,114,111]);obtain ⟨ps,Hps⟩:=nm (kstr exP);rw [Hnz.out] at x0 hq1;rw [Hps.out] at CP hq2;go_wp2_with fail
 refine CP.out.mono ?_;rintro e w5 ⟨rfl,u5⟩;have z0:=u_ z0 u5 (fun f=>f);have z1:=u_ z1 u5 (fun f=>f);have CA:=h_ (CX.out w5);have HU5:=h_ (HU4.out.then_non u5);clear CP x0 x12 y0 y1;go_wp2_with fail
 refine CA.out.mono ?_;rintro e w6 ⟨A6,c6,rfl,_,_,u6⟩;clear CA z0 z1;go_wp2_with fail
 go_ret;exact ⟨rfl,(HU1.out.then_non HU5.out).then_non u6⟩
theorem i64_0 (n:Int) (h:-1000≤n∧n≤1000):I64 n:=by unfold I64;omega
theorem leafF_i {sort:Int} {dp:Bool} {vars:Int} {st:Bool} {n:Int} (h:I64 n):PI (leafF sort dp vars st n):=by
 have key:∀(v op imm iv:Int),I64 imm→PI (.mk v op imm iv []):=fun v op imm iv hi q hq=>by
  simp only [nodes,nodesL,List.mem_singleton] at hq;subst hq;exact hi
 unfold leafF
 split
 ·exact key _ _ _ _ (i64_0 _ (by omega))
 ·split
  ·exact key _ _ _ _ (wordF_i64 _ h)
  ·split <;> exact key _ _ _ _ (i64_0 _ (by omega))
theorem tail_i {xs:List Int} (h:∀x∈xs,I64 x):∀x∈xs.tail,I64 x:=fun x hx=>h x (List.mem_of_mem_tail hx)
theorem head_i {xs:List Int} (h:∀x∈xs,I64 x):I64 (xs.headD 0):=by
 cases xs with
 | nil=>exact i64_0 _ (by simp)
 | cons x xs=>exact h x List.mem_cons_self
theorem nodesL_of {q:Pt}:∀{ks:List Pt},q∈nodesL ks→∃k∈ks,q∈nodes k
 | [],h=>by simp [nodesL] at h
 | k::ks,h=>by
  rw [nodesL,List.mem_append] at h;rcases h with h | h
  ·exact ⟨k,List.mem_cons_self,h⟩
  ·obtain ⟨k2,h1,h2⟩:=nodesL_of h;exact ⟨k2,List.mem_cons_of_mem _ h1,h2⟩
theorem PI.mk {v op imm iv:Int} {ks:List Pt} (hi:I64 imm) (h:∀k∈ks,PI k):PI (.mk v op imm iv ks):=by
 intro q hq;rw [nodes_eq,List.mem_cons] at hq;rcases hq with rfl | hq
 ·exact hi
 ·obtain ⟨k,h1,h2⟩:=nodesL_of hq;exact h k h1 q h2
theorem kImm_i (op n:Int):I64 (kImmF op n).1:=by
 unfold kImmF
 split
 ·split
  ·dsimp only
   split
   ·exact i64_0 _ (by omega)
   ·exact i64_0 _ (by omega)
  ·exact i64_0 _ (by simp)
 ·exact i64_0 _ (by simp)
theorem patF_i (vars:Int) (st:Bool):∀(f:Nat) (s:Int) (xs:List Int),(∀x∈xs,I64 x)→PI (patF vars st f s xs).1∧∀x∈(patF vars st f s xs).2,I64 x
 | 0,s,xs,h=>⟨leafF_i (head_i h),tail_i h⟩
 | f+1,s,xs,h=>by
  rw [patF]
  split
  ·exact ⟨leafF_i (head_i h),tail_i h⟩
  ·have key:∀(ss:List Int) (xs:List Int),(∀x∈xs,I64 x)→(∀k∈(kidsG (patF vars st f) ss xs).1,PI k)∧∀x∈(kidsG (patF vars st f) ss xs).2,I64 x:=by
    intro ss
    induction ss with
    | nil=>intro xs h;exact ⟨fun k hk=>by simp [kidsG] at hk,h⟩
    | cons s ss ih =>
     intro xs h;obtain ⟨h1,h2⟩:=patF_i vars st f s xs h;obtain ⟨h3,h4⟩:=ih _ h2;simp only [kidsG]
     exact ⟨fun k hk=>by
      rcases List.mem_cons.1 hk with rfl | hk
      ·exact h1
      ·exact h3 k hk,h4⟩
   obtain ⟨h1,h2⟩:=key (sortsOf (kOpF s st (xs.headD 0))) xs.tail (tail_i h);exact ⟨.mk (kImm_i _ _) h1,h2⟩
theorem numF_i (p:Pt):∀(vs ms:List Int),PI p→PI (numF p vs ms).1:=by
 induction p using Pt.ind with
 | h p ih =>
  intro vs ms hp;have hI:=hp p (nodes_self p);by_cases hv:0<p.v
  ·rw [numF_var hv];exact .mk hI fun k hk=>hp.kid hk
  ·rw [numF_op hv];refine .mk hI ?_
   have key:∀(ks:List Pt),(∀k∈ks,PI k∧∀(vs ms:List Int),PI k→PI (numF k vs ms).1)→∀vs ms,∀k∈(numL ks vs ms).1,PI k:=by
    intro ks
    induction ks with
    | nil=>intro _ vs ms k hk;simp [numL] at hk
    | cons k ks ihk =>
     intro hh vs ms q hq;simp only [numL] at hq;obtain ⟨h1,h2⟩:=hh k List.mem_cons_self;rcases List.mem_cons.1 hq with rfl | hq
     ·exact h2 _ _ h1
     ·exact ihk (fun q hq=>hh q (List.mem_cons_of_mem _ hq)) _ _ q hq
   exact key _ (fun k hk=>⟨hp.kid hk,ih k hk⟩) _ _
theorem sideF_i {op:Int} {p:Pt} (h:PI p):PI (sideF op p):=by
 unfold sideF
 split
 ·exact .mk (i64_0 _ (by omega)) fun k hk=>by rw [List.mem_singleton] at hk;subst hk;exact h
 ·exact h
theorem kRule_i (name:ByteArray) (xs:List Int) (h:∀x∈xs,I64 x):RlI (kRuleF name xs):=by
 obtain ⟨h1,h2⟩:=patF_i (3:Nat) false 3 1 xs.tail (tail_i h);have h3:=sideF_i (op:=21) (numF_i _ [] [] h1);unfold kRuleF;dsimp only
 split
 ·refine ⟨h3,.mk (wordF_i64 _ (i64_0 _ (by omega))) (fun k hk=>by simp at hk),fun x hx=>by simp at hx⟩
 ·refine ⟨h3,(patF_i _ false 2 1 _ h2).1,fun x hx=>?_⟩;simp only [kCondsF] at hx
  (repeat' split at hx) <;> simp at hx <;> subst hx <;> first | exact wordF_i64 _ (i64_0 3 (by omega)) | exact i64_0 0 (by omega)
theorem ax_allR:axL.all (fun x=>match axiomF x.1 with | some r=>szB r&&riB r&&implF r&&decide (cn r.l 0 0=some (r.vars.toNat,r.imms.toNat))&&decide (kx r.name=x.1) | none=>false)=true:=by decide +kernel
structure AxOk (x:Bs×Bs) (r:Rl):Prop where
 eq:axiomF x.1=some r
 sz:RlSz r
 i:RlI r
 v:implF r=true
 rt:Rt r r.vars.toNat r.imms.toNat
 nm:r.name=kstr x.1
theorem ax_rule {x:Bs×Bs} (h:x∈axL):∃r,AxOk x r:=by
 have h1:=List.all_eq_true.1 ax_allR x h
 split at h1
 ·rename_i r he;simp only [Bool.and_eq_true,decide_eq_true_eq] at h1;obtain ⟨⟨⟨⟨a1,a2⟩,a3⟩,a4⟩,a5⟩:=h1;refine ⟨r,he,szB_ok a1,riB_ok a2,a3,rt_of a3 (riB_ok a2) a4,?_⟩;rw [←a5];rfl
 ·cases h1
def FmY (p:Pt):Prop:=∀q∈nodes p,¬0<q.v→4≤q.op→0<q.iv→immOp q.op=true
theorem FmY.kid {p k:Pt} (h:FmY p) (hk:k∈p.kids):FmY k:=fun q hq=>h q (by
 cases p
 simp only [nodes,List.mem_cons]
 exact .inr (nodesL_mem hk hq))
theorem immOp_eq {op:Int} (h:4≤op):hasImmF op=immOp op:=by
 unfold hasImmF immOp;exact decide_eq_decide.2 (by omega)
theorem shp_fy (p:Pt):∀(s m:Int) (n:Nat),shp p s m n=true→FmY p:=by
 induction p using Pt.ind with
 | h p ih =>
  intro s m n hs q hq;rw [nodes_eq,List.mem_cons] at hq;by_cases hv:p.v=0
  ·rw [shp_op hv,Bool.and_eq_true,decide_eq_true_iff] at hs;obtain ⟨⟨h1,h2,_,h4⟩,h5⟩:=hs;rcases hq with rfl | hq
   ·intro _ h6 h7;unfold pImmF at h4;rw [if_pos (by omega),Bool.and_eq_true] at h4;rw [←immOp_eq h6];exact h4.1
   ·obtain ⟨k,hk,hq⟩:=nodesL_of hq;obtain ⟨i,hi2,rfl⟩:=List.mem_iff_getElem.1 hk;exact ih _ hk _ m n (shpL_at hi2 h5) q hq
  ·rw [shp_var hv,decide_eq_true_iff] at hs;rcases hq with rfl | hq
   ·intro h6;omega
   ·obtain ⟨k,hk,hq⟩:=nodesL_of hq;have : p.kids=[]:=List.eq_nil_of_length_eq_zero (by omega);rw [this] at hk;cases hk
theorem letV {n:Int} (h0:0<n) (h1:n≤100) (W:World):(convert 57 9 (.slice (some ⟨W.heap.size,0,none⟩) 1 1)).run Tryz.prog (W.alloc (.cells #[.int .u8 (97+n - 1)] 5))=.ok (.string (kstr [UInt8.ofNat (96+n.toNat)])) (W.alloc (.cells #[.int .u8 (97+n - 1)] 5)):=by
 have h:=run_str (P:=Tryz.prog) (src:=57) (dst:=9) Tryz.underlying57 Tryz.underlying5 Tryz.underlying9 (ns:=[97+n - 1]) (c:=1) (Sl.new W 5 [.int .u8 (97+n - 1)]) (n:=1) rfl
 rw [bstr_k,show [97+n - 1].map (fun n=>UInt8.ofNat n.toNat)=[UInt8.ofNat (96+n.toNat)] by show [UInt8.ofNat (97+n - 1).toNat]=_;rw [show (97+n - 1).toNat=96+n.toNat by omega]] at h
 exact h
theorem letM {n:Int} (h0:0<n) (h1:n≤100) (W:World):(convert 57 9 (.slice (some ⟨W.heap.size,0,none⟩) 1 1)).run Tryz.prog (W.alloc (.cells #[.int .u8 (107+n - 1)] 5))=.ok (.string (kstr (inF n))) (W.alloc (.cells #[.int .u8 (107+n - 1)] 5)):=by
 have h:=run_str (P:=Tryz.prog) (src:=57) (dst:=9) Tryz.underlying57 Tryz.underlying5 Tryz.underlying9 (ns:=[107+n - 1]) (c:=1) (Sl.new W 5 [.int .u8 (107+n - 1)]) (n:=1) rfl
 rw [bstr_k,show [107+n - 1].map (fun n=>UInt8.ofNat n.toNat)=inF n by unfold inF;show [UInt8.ofNat (107+n - 1).toNat]=_;rw [show (107+n - 1).toNat=106+n.toNat by omega]] at h
 exact h
set_option maxRecDepth 100000 in
set_option maxHeartbeats 2000000 in
theorem xFmtPattern_c (p:Pt):∀(w:World) (F:Nat→Prop) (KA:Option Addr) (kc:Nat),PtK w F p KA kc→FmOk p→FmY p→p.size≤1000000000000 →
  Calls Tryz.prog 55 #[pv p KA kc] w fun e w'=>e=.returned (.string (kstr (fmtF p)))∧Upd Non w w':=by
 induction p using Pt.ind with
 | h p ih =>
  intro w F KA kc hp hok hfy hs;have hse:=Pt.size_eq p;have hle:=Pt.len_le p.kids;have HI:=h_ ih;obtain ⟨W,HW⟩:=nm (w.alloc (.cells #[.int .i64 p.v,.int .i64 p.op,.int .i64 p.imm,.int .i64 p.iv,.slice KA p.kids.length kc] 40));have hU:Upd Non w W:=by rw [←HW.out];exact Upd.refl.alloc _
  have hb:Blk W w.heap.size 40 #[.int .i64 p.v,.int .i64 p.op,.int .i64 p.imm,.int .i64 p.iv,.slice KA p.kids.length kc]:=by rw [←HW.out];exact Blk.new _ _ _
  have e0:=HW.out;have c0:=hb.cell 0;have c1:=hb.cell 1;have c2:=hb.cell 2;have c3:=hb.cell 3;have HB:=h_ hb;have HF:=h_ (fmt_eq p);have HLN:=h_ (fmtF_len p hok);obtain ⟨res,Hres⟩:=nm (fmtF p);rw [Hres.out] at HF HLN ⊢;have hpW:=PtK.upd hU (fun _ _ _ f=>f) p KA kc hp;have HPW:=h_ hpW;have HS:=h_ hse;have HFY:=h_ hfy;have HU:=h_ hU;unfold pv;clear ih hse hp hb hpW hU hfy;rcases hok.inv with ⟨a1,a2⟩ | ⟨a1,a2,a3,a4,a5⟩ | ⟨a1,a2,a3,a4,a5,a6,a7⟩
  ·have tv:decide (0<p.v)=true:=dT_ a1;have HA:Hid (({ data:=#[63] }:ByteArray)++kstr [UInt8.ofNat (96+p.v.toNat)]=kstr res):=by show _=_;rw [HF.out,if_pos a1];exact kstr_app [63] _
   have cv:=letV a1 a2 W;have hz:(kstr [UInt8.ofNat (96+p.v.toNat)]).size≤1:=ksz (Nat.le_refl _);rw [←HA.out];clear HA hok hle HF;obtain ⟨str,Hstr⟩:=nm (kstr [UInt8.ofNat (96+p.v.toNat)]);rw [Hstr.out] at cv hz ⊢;clear Hstr;obtain ⟨v,Hv⟩:=nm p.v;rw [Hv.out] at c0 tv e0 cv a1 a2 ⊢;clear c1 c2 c3;go_enter Tryz.func55,Tryz.ntmps55;go_wp2_with fail
   go_ret;exact ⟨rfl,HU.out.alloc _⟩
  ·have tv:decide (0<p.v)=false:=dF_ a1;by_cases hi:0<p.iv
   ·have ti:decide (0<p.iv)=true:=dT_ hi;have HR:Hid (res=36::inF p.iv):=by show _=_;rw [HF.out,if_neg a1,if_pos a2,if_pos hi]
    have cv:=letM hi a5 W;have hz:(kstr (inF p.iv)).size≤1:=ksz (Nat.le_refl _);have HA:Hid (({ data:=#[36] }:ByteArray)++kstr (inF p.iv)=kstr res):=by show _=_;rw [HR.out];exact kstr_app [36] _
    rw [a2] at c1 e0;rw [←HA.out];obtain ⟨str,Hstr⟩:=nm (kstr (inF p.iv));rw [Hstr.out] at cv hz ⊢;rw [a2];clear a1 a2 a3 a4 hok hle HF HA HR Hstr;obtain ⟨v,Hv⟩:=nm p.v;obtain ⟨iv,Hiv⟩:=nm p.iv;rw [Hv.out,Hiv.out] at e0;rw [Hv.out] at c0 tv;rw [Hiv.out] at c3 ti cv hi a5;rw [Hv.out,Hiv.out];clear c2;go_enter Tryz.func55,Tryz.ntmps55;go_wp2_with fail
    go_ret;exact ⟨rfl,HU.out.alloc _⟩
   ·have ti:decide (0<p.iv)=false:=dF_ hi;have HR:Hid (res=textF p.imm):=by show _=_;rw [HF.out,if_neg a1,if_pos a2,if_neg hi]
    have CV:=h_ (fun W=>r1Text_c p.imm a3 a4 W);rw [HR.out];rw [a2] at c1 e0;rw [a2];clear a1 a2 a3 a4 a5 hok hle HF hi;obtain ⟨v,Hv⟩:=nm p.v;obtain ⟨iv,Hiv⟩:=nm p.iv;obtain ⟨imm,Himm⟩:=nm p.imm;rw [Hv.out,Hiv.out,Himm.out] at e0;rw [Hv.out] at c0 tv;rw [Hiv.out] at c3 ti;rw [Himm.out] at c2 CV;rw [Hv.out,Hiv.out,Himm.out];go_enter Tryz.func55,Tryz.ntmps55;go_wp2_with fail
    refine (CV.out _).mono ?_;rintro e w2 ⟨rfl,hu⟩;clear CV e0;go_wp2_with fail
    go_ret;exact ⟨rfl,HU.out.then_non hu⟩
  ·have tv:decide (0<p.v)=false:=dF_ a1;have tp1:(p.op==1)=false:=by simp;omega
   have HR:Hid (res=[40]++opNm p.op++(if 0<p.iv then 46::inF p.iv else if immOp p.op=true then 46::textF p.imm else [])++fmtL p.kids++[41]):=by show _=_;rw [HF.out,if_neg a1,if_neg (by omega)]
   have HBD:=h_ hok;obtain ⟨suf,Hsuf⟩:=nm (if 0<p.iv then 46::inF p.iv else if immOp p.op=true then 46::textF p.imm else ([]:Bs))
   have hsufl:suf.length≤22:=by
    rw [←Hsuf.out];have:=textF_len ⟨a4,a5⟩
    split
    ·simp [inF]
    ·split <;> simp <;> omega
   rw [Hsuf.out] at HR;have hnl:=opNm_len p.op;have CN:=h_ (r10Name_c p.op a2 a3 W);obtain ⟨nmb,Hnmb⟩:=nm (opNm p.op);rw [Hnmb.out] at HR hnl CN;have hz:(kstr nmb).size≤5:=ksz hnl;obtain ⟨ns,Hns⟩:=nm (kstr nmb);rw [Hns.out] at CN hz;have hk:=HBD.out;have HKS:Hid (∀k∈p.kids,FmOk k):=a7;have HFK:Hid (∀k∈p.kids,FmY k):=fun k hk=>HFY.out.kid hk
   have HIM:Hid (-9223372036854775808≤p.imm∧p.imm≤9223372036854775807∧p.iv≤100):=⟨a4,a5,a6⟩;have CI:=h_ (fun (h:0<p.iv) W=>letM h a6 W);have CT:=h_ (fun W=>r1Text_c p.imm a4 a5 W);have CH:=h_ (fun W=>r15HasImm_c p.op W);rw [immOp_eq a2] at CH;have HY:Hid (0<p.iv→immOp p.op=true):=HFY.out p (nodes_self p) a1 a2;have HSP:Hid (suf=if 0<p.iv then 46::inF p.iv else if immOp p.op=true then 46::textF p.imm else ([]:Bs)):=Hsuf.out.symm;have hpo:p.op≠1:=by omega
   clear a1 a2 a3 a4 a5 a6 a7 hok hk HF Hsuf;obtain ⟨v,Hv⟩:=nm p.v;obtain ⟨iv,Hiv⟩:=nm p.iv;obtain ⟨imm,Himm⟩:=nm p.imm;obtain ⟨op,Hop⟩:=nm p.op;obtain ⟨n,Hn⟩:=nm p.kids.length;rw [Hv.out,Hiv.out,Himm.out,Hop.out,Hn.out] at e0;rw [Hv.out] at c0 tv;rw [Hiv.out] at c3 CI;rw [Hop.out] at c1 tp1 CN CH;rw [Himm.out] at c2 CT;rw [Hiv.out,Himm.out,Hop.out] at HSP;rw [Hiv.out,Hop.out] at HY;rw [Hn.out] at hle;rw [Hv.out,Hiv.out,Himm.out,Hop.out,Hn.out];have hn12:n≤1000000000000:=by have:=HS.out;omega
   clear hpo;go_enter Tryz.func55,Tryz.ntmps55;go_wp2_with fail
   refine CN.out.mono ?_;rintro e w2 ⟨rfl,hu2⟩;have d2:=u_ c2 hu2 (fun f=>f);have d3:=u_ c3 hu2 (fun f=>f);have d1:=u_ c1 hu2 (fun f=>f);clear CN e0 c0 c1 c2 c3;obtain ⟨hm,Hhm⟩:=nm (immOp op);have CHH:=h_ (CH.out w2);rw [Hhm.out] at CHH HSP HY;have HNE:Hid (kstr nmb=ns):=Hns.out;go_wp2_with fail
   refine CHH.out.mono ?_;rintro e w3 ⟨rfl,rfl⟩
   go_upto_if 42 with fail
   go_cut [3] (fun s wx=>s=.string (kstr (nmb++suf))∧Upd Non W wx)
   case first =>
    cases hm with
    | false =>
     have hi:¬0<iv:=fun q=>by have:=HY.out q;cases this
     have HE:Hid (ns=kstr (nmb++suf)):=by show _=_;rw [←HNE.out,HSP.out,if_neg hi,if_neg (by decide),List.append_nil]
     clear hi;go_wp2_with fail
     go_meet
     case rel=>exact ⟨by rw [←HE.out],hu2⟩
    | true =>
     obtain ⟨D,HD⟩:=nm (decide (0<iv));have tD:=HD.out
     cases D with
     | true =>
      have hi:0<iv:=of_decide_eq_true HD.out;have hi6:iv≤100:=by rw [←Hiv.out];exact HIM.out.2.2
      have HSF:Hid (suf=46::inF iv):=by show _=_;rw [HSP.out,if_pos hi]
      have cv:=CI.out hi w2;have hzi:(kstr (inF iv)).size≤1:=ksz (Nat.le_refl _)
      have HE:Hid ((ns++({ data:=#[46] }:ByteArray))++kstr (inF iv)=kstr (nmb++suf)):=by
       show _=_;rw [←HNE.out,HSF.out,show ({ data:=#[46] }:ByteArray)=kstr [46] from rfl,kstr_app,kstr_app,List.append_assoc];rfl
      obtain ⟨im,Him⟩:=nm (kstr (inF iv));rw [Him.out] at cv hzi HE;go_wp2_with fail
      go_meet
      case rel=>exact ⟨by rw [←HE.out],hu2.alloc _⟩
     | false =>
      have hi:¬0<iv:=of_decide_eq_false HD.out;have HSF:Hid (suf=46::textF imm):=by show _=_;rw [HSP.out,if_neg hi,if_pos rfl]
      have hzi:(kstr (textF imm)).size≤21:=ksz (textF_len (by rw [←Himm.out];exact ⟨HIM.out.1,HIM.out.2.1⟩))
      have HE:Hid ((ns++({ data:=#[46] }:ByteArray))++kstr (textF imm)=kstr (nmb++suf)):=by
       show _=_;rw [←HNE.out,HSF.out,show ({ data:=#[46] }:ByteArray)=kstr [46] from rfl,kstr_app,kstr_app,List.append_assoc];rfl
      have CTT:=h_ (CT.out);obtain ⟨im,Him⟩:=nm (kstr (textF imm));rw [Him.out] at CTT hzi HE;clear hi;go_wp2_with fail
      refine (CTT.out _).mono ?_;rintro e w4 ⟨rfl,hu3⟩;clear CTT;go_wp2_with fail
      go_meet
      case rel=>exact ⟨by rw [←HE.out],hu2.then_non hu3⟩
   case rest =>
    obtain ⟨rfl,hwc⟩:=hcut;clear d1 d2 d3 CI CT CH HSP;have hbw:=HB.out.upd hwc (fun f=>f);rw [Hn.out] at hbw;have c4:=hbw.cell 4;have HPC:=h_ (PtK.upd hwc (fun _ _ _ f=>f) p KA kc HPW.out);have HUC:=h_ (HU.out.then_non hwc);obtain ⟨pre,Hpre⟩:=nm (nmb++suf);have hpl:pre.length≤28:=by rw [←Hpre.out];simp;omega
    rw [show [40]++nmb++suf=[40]++(nmb++suf) by simp,Hpre.out] at HR;rw [Hpre.out];clear hbw hwc hu2;go_wp2_with fail
    go_loopg [3,5] n (fun g v i wr=>∃k:Nat,Hid (g=n - k)∧k≤n∧i=.int .i64 k∧v=.string (kstr (pre++fmtL (p.kids.take k)))∧Hid (Upd Non wc wr))
    case atStart=>exact ⟨0,rfl,by omega,rfl,by simp [fmtL],Upd.refl⟩
    case round =>
     obtain ⟨k,Hg,hk,rfl,rfl,Hu⟩:=hrel;have c4r:=u_ c4 Hu.out (fun f=>f);have hkt:=Pt.sizeL_take_le p.kids k;have hfl:=fmtL_len (p.kids.take k) (fun q hq=>HKS.out q (List.mem_of_mem_take hq));have hz0:(kstr (pre++fmtL (p.kids.take k))).size≤100000000000000:=ksz (by rw [List.length_append];have:=HS.out;omega);by_cases hlt:k<n
     ·have hkl:k<p.kids.length:=by rw [Hn.out];exact hlt
      obtain ⟨b,o,rfl,hF,hbw,KB,kd,h0,h1,h2,h3,h4,h5⟩:=(PtK.upd Hu.out (fun _ _ _ f=>f) p KA kc HPC.out).at_ hkl;have hks:p.kids[k].size≤1000000000000:=by have:=Pt.kids_lt (List.getElem_mem hkl);omega
      have hmem0:=List.getElem_mem hkl;have HTK:Hid (p.kids.take (k+1)=p.kids.take k++[p.kids[k]]):=take_snoc' hkl;generalize p.kids[k]=q at *;have hmem:q∈p.kids:=by assumption
      have C1:=h_ (HI.out q hmem wr F KB kd h5 (HKS.out q hmem) (HFK.out q hmem) hks);unfold pv at C1;have hql:=fmtF_len q (HKS.out q hmem);have hzq:(kstr (fmtF q)).size≤100000000000000:=ksz (by omega)
      have HE:Hid ((kstr (pre++fmtL (p.kids.take k))++({ data:=#[32] }:ByteArray))++kstr (fmtF q)=kstr (pre++fmtL (p.kids.take (k+1)))):=by
       show _=_;rw [HTK.out,fmtL_snoc,show ({ data:=#[32] }:ByteArray)=kstr [32] from rfl,kstr_app,kstr_app];simp
      obtain ⟨sq,Hsq⟩:=nm (kstr (fmtF q));obtain ⟨sk,Hsk⟩:=nm (kstr (pre++fmtL (p.kids.take k)));rw [Hsq.out] at C1 hzq HE;rw [Hsk.out] at hz0 HE ⊢;clear hkt hfl h5 hql hmem hmem0 hks;go_wp2_with fail
      refine C1.out.mono ?_;rintro e w4 ⟨rfl,hu4⟩;clear C1;go_wp2_with fail
      go_roundg (n - (k+1))
      case measure=>rw [Hg.out];omega
      case rel=>exact ⟨k+1,rfl,by omega,by go_num,by rw [←HE.out],Hu.out.then_non hu4⟩
     ·obtain rfl:n=k:=by omega
      have HE:Hid ((({ data:=#[40] }:ByteArray)++kstr (pre++fmtL (p.kids.take n)))++({ data:=#[41] }:ByteArray)=kstr res):=by
       show _=_;rw [←Hn.out,List.take_length,HR.out,show ({ data:=#[40] }:ByteArray)=kstr [40] from rfl,show ({ data:=#[41] }:ByteArray)=kstr [41] from rfl,kstr_app,kstr_app]
       simp
      obtain ⟨sk,Hsk⟩:=nm (kstr (pre++fmtL (p.kids.take n)));rw [Hsk.out] at hz0 HE ⊢;clear hkt hfl;go_wp2_with fail
      go_ret;exact ⟨by rw [←HE.out];rfl,HUC.out.then_non Hu.out⟩
section
variable {w w':World} {F G K S:Nat→Prop} {A:Option Addr} {L M:List Pt} {n c:Nat} {cs ds:List Value}
theorem PtCells.append (h:PtCells w K cs L) (g:PtCells w K ds M):PtCells w K (cs++ds) (L++M):=by
 have h1:=h.1;have g1:=g.1;refine ⟨by rw [List.length_append,List.length_append,h1,g1];omega,fun i hi=>?_⟩;by_cases hlt:i<L.length
 ·obtain ⟨KA,kc,k1,k2⟩:=h.2 i hlt;refine ⟨KA,kc,fun j hj=>?_,?_⟩
  ·rw [List.getElem?_append_left (by omega),List.getElem_append_left hlt];exact k1 j hj
  ·rw [List.getElem_append_left hlt];exact k2
 ·have hi2:i - L.length<M.length:=by rw [List.length_append] at hi;omega
  obtain ⟨KA,kc,k1,k2⟩:=g.2 (i - L.length) hi2;refine ⟨KA,kc,fun j hj=>?_,?_⟩
  ·rw [List.getElem?_append_right (by omega),List.getElem_append_right (by omega),h1,show 5 * i+j - 5 * L.length=5 * (i - L.length)+j by omega];exact k1 j hj
  ·rw [List.getElem_append_right (by omega)];exact k2
theorem pcells_one (p:Pt) (KA:Option Addr) (kc:Nat):∀u∈pcells p KA kc,u.oneCell'=true:=by
 intro u hu;simp [pcells] at hu;rcases hu with h | h | h | h | h <;> subst h <;> rfl
theorem PtK.cells {p:Pt} {KA:Option Addr} {kc:Nat} (h:PtK w F p KA kc):∃cs,Sl w F KA cs∧PtCells w F cs p.kids∧∀u∈cs,u.oneCell'=true:=by
 by_cases hk:p.kids=[]
 ·rw [hk];exact ⟨[],.inl rfl,PtCells.nil,fun u hu=>by cases hu⟩
 ·obtain ⟨b,o,e,hF,_,_⟩:=h.at_ (i:=0) (List.length_pos_iff.2 hk);subst e
  have key:∀k,k≤p.kids.length→∃cs:List Value,PtCells w F cs (p.kids.take k)∧(∀j (hj:j<cs.length),w.cell? ⟨b,o+j,none⟩=some cs[j])∧∀u∈cs,u.oneCell'=true:=by
   intro k
   induction k with
   | zero=>intro _;exact ⟨[],PtCells.nil,fun j hj=>absurd hj (Nat.not_lt_zero _),fun u hu=>by cases hu⟩
   | succ k ih =>
    intro hk;obtain ⟨cs,h1,h2,h3⟩:=ih (by omega);obtain ⟨b',o',e,_,_,KB,kd,c0,c1,c2,c3,c4,hr⟩:=h.at_ (i:=k) (by omega);injection e with e
    injection e with e1 e2
    subst e1 e2;have hl:=h1.1;rw [List.length_take,Nat.min_eq_left (by omega)] at hl;refine ⟨cs++pcells p.kids[k] KB kd,?_,fun j hj=>?_,fun u hu=>?_⟩
    ·rw [take_snoc' (show k<p.kids.length by omega)];exact h1.snoc hr
    ·by_cases hlt:j<cs.length
     ·rw [List.getElem_append_left hlt];exact h2 j hlt
     ·obtain ⟨i,rfl⟩:∃i,j=cs.length+i:=⟨j - cs.length,by omega⟩;have hi:i<5:=by simp [pcells] at hj;omega
      rw [List.getElem_append_right (by omega)];simp only [Nat.add_sub_cancel_left];have e2:o+(cs.length+i)=o+k * 5+i:=by omega
      rw [e2];rcases (by omega:i=0∨i=1∨i=2∨i=3∨i=4) with rfl | rfl | rfl | rfl | rfl
      ·exact c0
      ·exact c1
      ·exact c2
      ·exact c3
      ·exact c4
    ·rcases List.mem_append.1 hu with hu | hu
     ·exact h3 u hu
     ·exact pcells_one _ _ _ u hu
  obtain ⟨cs,h1,h2,h3⟩:=key p.kids.length (Nat.le_refl _);rw [List.take_length] at h1;exact ⟨cs,.inr ⟨b,o,rfl,hF,h2⟩,h1,h3⟩
def set5L (cs:List Value) (i:Nat) (q:Pt) (KA:Option Addr) (kc:Nat):List Value:=((((cs.set (i * 5) (.int .i64 q.v)).set (i * 5+1) (.int .i64 q.op)).set (i * 5+2) (.int .i64 q.imm)).set (i * 5+3) (.int .i64 q.iv)).set (i * 5+4) (.slice KA q.kids.length kc)
theorem PtCells.set5 (h:PtCells w K cs L) {i:Nat} (hi:i<L.length) {q:Pt} {KA:Option Addr} {kc:Nat} (hq:PtK w K q KA kc):PtCells w K (set5L cs i q KA kc) (L.set i q):=by
 have hl:=h.1;refine ⟨by simp [set5L,hl],fun j hj=>?_⟩;have hj2:j<L.length:=by simpa using hj
 by_cases e:i=j
 ·subst e;refine ⟨KA,kc,fun k hk=>?_,by rw [List.getElem_set_self];exact hq⟩;rw [List.getElem_set_self];unfold set5L;rcases (by omega:k=0∨k=1∨k=2∨k=3∨k=4) with rfl | rfl | rfl | rfl | rfl
  all_goals
   simp only [List.getElem?_set,List.length_set]
   (repeat' split) <;> first | omega | rfl
 ·obtain ⟨KB,kd,h1,h2⟩:=h.2 j hj2;refine ⟨KB,kd,fun k hk=>?_,by rw [List.getElem_set_ne e];exact h2⟩;rw [List.getElem_set_ne e,←h1 k hk];unfold set5L;simp only [List.getElem?_set]
  (repeat' split) <;> first | omega | rfl
theorem own_setP {t:TypeId} {g:Nat} (h:Own w t 5 (some ⟨g,0,none⟩) n c cs) (i:Nat) (q:Pt) (KA:Option Addr) (kc:Nat):Own (set5o w g (i * 5) (.int .i64 q.v) (.int .i64 q.op) (.int .i64 q.imm) (.int .i64 q.iv) (.slice KA q.kids.length kc)) t 5 (some ⟨g,0,none⟩) n c (set5L cs i q KA kc):=by
 rcases h.cases with ⟨h0,_⟩ | ⟨g',cur,e1,hb,hn,hm,hs,ht⟩
 ·cases h0
 ·injection e1 with e1;injection e1 with e1;subst e1
  refine Own.mk_ (((((hb.set_ (i * 5) (.int .i64 q.v)).set_ (i * 5+1) (.int .i64 q.op)).set_ (i * 5+2) (.int .i64 q.imm)).set_ (i * 5+3) (.int .i64 q.iv)).set_ (i * 5+4) (.slice KA q.kids.length kc)) hn hm (by simpa using hs) ?_
  unfold set5L;rw [←ht];simp only [Array.toList_setIfInBounds,List.take_set]
end
theorem sizeL_set:∀(L:List Pt) (i:Nat) (q:Pt) (h:i<L.length),q.size≤L[i].size+1→Pt.sizeL (L.set i q)≤Pt.sizeL L+1
 | k::L,0,q,_,h=>by simp only [List.set_cons_zero,Pt.sizeL];simp only [List.getElem_cons_zero] at h;omega
 | k::L,i+1,q,hi,h=>by
  simp only [List.set_cons_succ,Pt.sizeL];have:=sizeL_set L i q (by simpa using hi) (by simpa using h);omega
theorem PI.set {L:List Pt} (h:∀k∈L,PI k) {q:Pt} (hq:PI q) (i:Nat):∀k∈L.set i q,PI k:=fun k hk=>by
 rcases List.mem_or_eq_of_mem_set hk with h1 | rfl
 ·exact h k h1
 ·exact hq
theorem own_cell {w:World} {t:TypeId} {z g n c:Nat} {cs:List Value} (h:Own w t z (some ⟨g,0,none⟩) n c cs) {j:Nat} {u:Value} (hj:cs[j]?=some u):w.cell? ⟨g,j,none⟩=some u:=by
 rcases h.cases with ⟨h0,_⟩ | ⟨g',cur,e1,hb,hn,hm,hs,ht⟩
 ·cases h0
 ·injection e1 with e1;injection e1 with e1;subst e1
  rw [hb.cell];rw [←ht,List.getElem?_take] at hj
  split at hj
  ·simpa using hj
  ·cases hj
theorem calm_and {R Q:World→Prop} (h:Calmly R) (g:Calmly Q):Calmly (fun w=>R w∧Q w):=⟨fun w o k=>⟨h.alloc w o k.1,g.alloc w o k.2⟩,fun w k=>⟨h.draw w k.1,g.draw w k.2⟩⟩
def MutP (p:Pt) (F:Nat→Prop) (w:World) (e:Ending) (w':World):Prop:=∃(q:Pt) (KA:Option Addr) (kc:Nat),e=.returned (pv q KA kc)∧PtK w' (fun k=>F k∨w.heap.size≤k) q KA kc∧q.size≤p.size+1∧PI q∧Upd Non w w'
def MutX (p:Pt) (F:Nat→Prop) (w W:World) (w':World):Prop:=∃(q:Pt) (KA:Option Addr) (kc:Nat),Blk w' w.heap.size 40 #[.int .i64 q.v,.int .i64 q.op,.int .i64 q.imm,.int .i64 q.iv,.slice KA q.kids.length kc]∧PtK w' (fun k=>(F k∧k<w.heap.size)∨w.heap.size+2≤k) q KA kc∧q.size≤p.size+1∧PI q∧Upd (fun k=>k=w.heap.size) W w'
theorem Pt.size_mk (v op imm iv:Int) (ks:List Pt):(Pt.mk v op imm iv ks).size=1+Pt.sizeL ks:=by rw [Pt.size_eq];rfl
set_option maxRecDepth 100000 in
set_option maxHeartbeats 4000000 in
theorem l15Mutate_c (p:Pt):∀(how at_:Int) (w:World) (F:Nat→Prop) (KA:Option Addr) (kc:Nat),PtK w F p KA kc→PI p→p.size≤1000000000000 →
  Calls Tryz.prog 38 #[pv p KA kc,.int .i64 how,.int .i64 at_] w (MutP p F w):=by
 induction p using Pt.ind with
 | h p ih =>
  intro how at_ w F KA kc hp0 hpi hs;have HI:=h_ ih;have hp1:=PtK.mono (G:=fun k=>F k∧k<w.heap.size) (fun k hk h=>⟨h,hk⟩) p KA kc hp0;obtain ⟨W,HW⟩:=nm (w.alloc (.cells #[.int .i64 p.v,.int .i64 p.op,.int .i64 p.imm,.int .i64 p.iv,.slice KA p.kids.length kc] 40));have hU:Upd Non w W:=by rw [←HW.out];exact Upd.refl.alloc _
  have hb:Blk W w.heap.size 40 #[.int .i64 p.v,.int .i64 p.op,.int .i64 p.imm,.int .i64 p.iv,.slice KA p.kids.length kc]:=by rw [←HW.out];exact Blk.new _ _ _
  have hsW:W.heap.size=w.heap.size+1:=by rw [←HW.out];simp
  obtain ⟨W2,HW2⟩:=nm (W.alloc (.cells #[.int .i64 0,.int .i64 0,.int .i64 0,.int .i64 0,.slice none 0 0] 40));have hU2:Upd Non W W2:=by rw [←HW2.out];exact Upd.refl.alloc _
  have hb2:Blk W2 (w.heap.size+1) 40 #[.int .i64 0,.int .i64 0,.int .i64 0,.int .i64 0,.slice none 0 0]:=by rw [←HW2.out,←hsW];exact Blk.new _ _ _
  have hsW2:W2.heap.size=w.heap.size+2:=by rw [←HW2.out];simp [hsW]
  have hb:=hb.upd hU2 (fun f=>f);have HU0:=h_ (hU.then_non hU2);have e0:=HW.out;have e2:=HW2.out;have HPK:=h_ (PtK.upd HU0.out (fun _ _ _ f=>f) p KA kc hp1);have HS:=h_ (Pt.size_eq p);have HLE:=h_ (Pt.len_le p.kids);have HPI:=h_ hpi;have HB:=h_ hb;have HB2:=h_ hb2;have hsz:p.size≤1000000000000:=hs;have C9:=h_ (fun (m:Int) W=>pick_c m 9 W (by omega) (by omega));have C40:=h_ (fun (m:Int) W=>pick_c m 40 W (by omega) (by omega));have hkl:p.kids.length≤1000000000000:=by have h1:=HLE.out;have h2:=HS.out;omega
  have HIMM:Hid (I64 p.imm):=hpi p (nodes_self p);have HKI:Hid (∀k∈p.kids,PI k):=fun k hk=>hpi.kid hk
  obtain ⟨m,hm⟩:∃m:Nat,how % 9=(m:Int):=Int.eq_ofNat_of_zero_le (by omega);have hm9:m<9:=by omega
  have C1:=h_ (C9.out how W2);rw [hm] at C1;have fz:=hb.frozen;have c0:=hb.cell 0;have c4:=hb.cell 4;unfold pv;obtain ⟨v,Hv⟩:=nm p.v;obtain ⟨op,Hop⟩:=nm p.op;obtain ⟨imm,Himm⟩:=nm p.imm;obtain ⟨iv,Hiv⟩:=nm p.iv;obtain ⟨k,Hk⟩:=nm p.kids.length;rw [Hv.out] at e0;rw [Hop.out] at e0;rw [Himm.out] at e0 HIMM;rw [Hiv.out] at e0;rw [Hk.out] at e0 hkl c4;rw [Hv.out,Hop.out,Himm.out,Hiv.out,Hk.out] at HB;rw [Hv.out,Hop.out,Himm.out,Hiv.out,Hk.out];clear ih hp0 hp1 hpi hs hU hU2 hb hb2 hm c0 fz;go_enter Tryz.func38,Tryz.ntmps38;go_wp2_with fail
  refine C1.out.mono ?_;rintro e w3 ⟨rfl,rfl⟩;clear C1;rcases (by omega:m=0∨m=1∨m=2∨m=3∨m=4∨m=5∨m=6∨m=7∨m=8) with rfl | rfl | rfl | rfl | rfl | rfl | rfl | rfl | rfl
  ·obtain ⟨y,hy⟩:∃y:Nat,wrap64 (how.tdiv 9) % 9=(y:Int):=Int.eq_ofNat_of_zero_le (Int.emod_nonneg _ (by decide));have hy9:y<9:=by omega
   have cI:=HB.out.cell 0;have fI:=HB.out.frozen 0;have CX:=h_ (C9.out (wrap64 (how.tdiv 9)) W2);rw [hy] at CX;clear hy;go_wp2_with fail
   refine CX.out.mono ?_;rintro e w3 ⟨rfl,rfl⟩;clear CX;obtain ⟨X1,HX1⟩:=nm (W2.setCell ⟨w.heap.size,0,none⟩ (.int .i64 ((y:Int) - 1)))
   have hX:MutX p F w W2 X1:=by
    have ux:Upd (fun i=>i=w.heap.size) W2 X1:=by rw [←HX1.out];exact updCell _ _ _ _
    have hbx:=HB.out.set_ 0 (.int .i64 ((y:Int) - 1));rw [HX1.out] at hbx;refine ⟨(.mk ((y:Int) - 1) op imm iv p.kids),KA,kc,?_,?_,?_,?_,ux⟩
    ·have hkk:=Hk.out;show Blk X1 w.heap.size 40 #[_,_,_,_,.slice KA p.kids.length kc];rw [hkk];simp only [Pt.v,Pt.op,Pt.imm,Pt.iv];simpa using hbx
    ·exact PtK.swap (PtK.mono (fun i _ h=>.inl h) _ _ _ (PtK.upd ux (fun i _ h e=>by have:=h.2;omega) _ _ _ HPK.out)) _ _ _ _
    ·rw [Pt.size_mk];have:=HS.out;omega
    ·exact .mk (by unfold I64;have:=HIMM.out;unfold I64 at this;omega) HKI.out
   go_upto_region 18 with fail
   rw [HX1.out];obtain ⟨q,KQ,kq,hbx,hpk,hqs,hqi,hux⟩:=hX;have hbR:=HB2.out.upd hux (by omega);have HP9:=h_ hpk;have HQS:=h_ hqs;have HQI:=h_ hqi;have HUX:=h_ hux;have HBR:=h_ hbR;have r0:=hbx.cell 0;have r1:=hbx.cell 1;have r2:=hbx.cell 2;have r3:=hbx.cell 3;have r4:=hbx.cell 4;have s0:=hbR.cell 0;have s1:=hbR.cell 1;have s2:=hbR.cell 2;have s3:=hbR.cell 3;have s4:=hbR.cell 4;have rf:=hbR.frozen;clear hpk hqs hqi hux hbR hbx;go_wp2_with fail
   rw [set5_eq];refine bodyPost_ret (results_cell_row rfl _ _ (w.heap.size+1) 40 _ (0,0) _ rfl (set5_blk HBR.out _ _ _ _ _) Tryz.underlying40 rfl (by kernel_rfl)) rfl ?_;have uS:=set5_upd X1 (w.heap.size+1) (.int .i64 q.v) (.int .i64 q.op) (.int .i64 q.imm) (.int .i64 q.iv) (.slice KQ q.kids.length kq);refine ⟨q,KQ,kq,rfl,PtK.mono (fun i _ h=>?_) _ _ _ (PtK.upd uS (fun i _ h e=>by rcases h with h | h <;> omega) _ _ _ HP9.out),HQS.out,HQI.out,?_⟩
   ·rcases h with h | h
    ·exact .inl h.1
    ·exact .inr (by omega)
   ·exact (HU0.out.trans HUX.out (fun i hi e=>by omega)).trans uS (fun i hi e=>by omega)
  ·obtain ⟨y,hy⟩:∃y:Nat,wrap64 (how.tdiv 9) % 40=(y:Int):=Int.eq_ofNat_of_zero_le (Int.emod_nonneg _ (by decide));have hy9:y<40:=by omega
   have cI:=HB.out.cell 1;have fI:=HB.out.frozen 1;have CX:=h_ (C40.out (wrap64 (how.tdiv 9)) W2);rw [hy] at CX;clear hy;go_wp2_with fail
   refine CX.out.mono ?_;rintro e w3 ⟨rfl,rfl⟩;clear CX;obtain ⟨X1,HX1⟩:=nm (W2.setCell ⟨w.heap.size,1,none⟩ (.int .i64 ((y:Int) - 1)))
   have hX:MutX p F w W2 X1:=by
    have ux:Upd (fun i=>i=w.heap.size) W2 X1:=by rw [←HX1.out];exact updCell _ _ _ _
    have hbx:=HB.out.set_ 1 (.int .i64 ((y:Int) - 1));rw [HX1.out] at hbx;refine ⟨(.mk v ((y:Int) - 1) imm iv p.kids),KA,kc,?_,?_,?_,?_,ux⟩
    ·have hkk:=Hk.out;show Blk X1 w.heap.size 40 #[_,_,_,_,.slice KA p.kids.length kc];rw [hkk];simp only [Pt.v,Pt.op,Pt.imm,Pt.iv];simpa using hbx
    ·exact PtK.swap (PtK.mono (fun i _ h=>.inl h) _ _ _ (PtK.upd ux (fun i _ h e=>by have:=h.2;omega) _ _ _ HPK.out)) _ _ _ _
    ·rw [Pt.size_mk];have:=HS.out;omega
    ·exact .mk (by unfold I64;have:=HIMM.out;unfold I64 at this;omega) HKI.out
   go_upto_region 18 with fail
   rw [HX1.out];obtain ⟨q,KQ,kq,hbx,hpk,hqs,hqi,hux⟩:=hX;have hbR:=HB2.out.upd hux (by omega);have HP9:=h_ hpk;have HQS:=h_ hqs;have HQI:=h_ hqi;have HUX:=h_ hux;have HBR:=h_ hbR;have r0:=hbx.cell 0;have r1:=hbx.cell 1;have r2:=hbx.cell 2;have r3:=hbx.cell 3;have r4:=hbx.cell 4;have s0:=hbR.cell 0;have s1:=hbR.cell 1;have s2:=hbR.cell 2;have s3:=hbR.cell 3;have s4:=hbR.cell 4;have rf:=hbR.frozen;clear hpk hqs hqi hux hbR hbx;go_wp2_with fail
   rw [set5_eq];refine bodyPost_ret (results_cell_row rfl _ _ (w.heap.size+1) 40 _ (0,0) _ rfl (set5_blk HBR.out _ _ _ _ _) Tryz.underlying40 rfl (by kernel_rfl)) rfl ?_;have uS:=set5_upd X1 (w.heap.size+1) (.int .i64 q.v) (.int .i64 q.op) (.int .i64 q.imm) (.int .i64 q.iv) (.slice KQ q.kids.length kq);refine ⟨q,KQ,kq,rfl,PtK.mono (fun i _ h=>?_) _ _ _ (PtK.upd uS (fun i _ h e=>by rcases h with h | h <;> omega) _ _ _ HP9.out),HQS.out,HQI.out,?_⟩
   ·rcases h with h | h
    ·exact .inl h.1
    ·exact .inr (by omega)
   ·exact (HU0.out.trans HUX.out (fun i hi e=>by omega)).trans uS (fun i hi e=>by omega)
  ·obtain ⟨y,hy⟩:∃y:Nat,wrap64 (how.tdiv 9) % 9=(y:Int):=Int.eq_ofNat_of_zero_le (Int.emod_nonneg _ (by decide));have hy9:y<9:=by omega
   have cI:=HB.out.cell 2;have fI:=HB.out.frozen 2;have CX:=h_ (C9.out (wrap64 (how.tdiv 9)) W2);rw [hy] at CX;clear hy;go_wp2_with fail
   refine CX.out.mono ?_;rintro e w3 ⟨rfl,rfl⟩;clear CX;obtain ⟨X1,HX1⟩:=nm (W2.setCell ⟨w.heap.size,2,none⟩ (.int .i64 ((y:Int) - 3)))
   have hX:MutX p F w W2 X1:=by
    have ux:Upd (fun i=>i=w.heap.size) W2 X1:=by rw [←HX1.out];exact updCell _ _ _ _
    have hbx:=HB.out.set_ 2 (.int .i64 ((y:Int) - 3));rw [HX1.out] at hbx;refine ⟨(.mk v op ((y:Int) - 3) iv p.kids),KA,kc,?_,?_,?_,?_,ux⟩
    ·have hkk:=Hk.out;show Blk X1 w.heap.size 40 #[_,_,_,_,.slice KA p.kids.length kc];rw [hkk];simp only [Pt.v,Pt.op,Pt.imm,Pt.iv];simpa using hbx
    ·exact PtK.swap (PtK.mono (fun i _ h=>.inl h) _ _ _ (PtK.upd ux (fun i _ h e=>by have:=h.2;omega) _ _ _ HPK.out)) _ _ _ _
    ·rw [Pt.size_mk];have:=HS.out;omega
    ·exact .mk (by unfold I64;have:=HIMM.out;unfold I64 at this;omega) HKI.out
   go_upto_region 18 with fail
   rw [HX1.out];obtain ⟨q,KQ,kq,hbx,hpk,hqs,hqi,hux⟩:=hX;have hbR:=HB2.out.upd hux (by omega);have HP9:=h_ hpk;have HQS:=h_ hqs;have HQI:=h_ hqi;have HUX:=h_ hux;have HBR:=h_ hbR;have r0:=hbx.cell 0;have r1:=hbx.cell 1;have r2:=hbx.cell 2;have r3:=hbx.cell 3;have r4:=hbx.cell 4;have s0:=hbR.cell 0;have s1:=hbR.cell 1;have s2:=hbR.cell 2;have s3:=hbR.cell 3;have s4:=hbR.cell 4;have rf:=hbR.frozen;clear hpk hqs hqi hux hbR hbx;go_wp2_with fail
   rw [set5_eq];refine bodyPost_ret (results_cell_row rfl _ _ (w.heap.size+1) 40 _ (0,0) _ rfl (set5_blk HBR.out _ _ _ _ _) Tryz.underlying40 rfl (by kernel_rfl)) rfl ?_;have uS:=set5_upd X1 (w.heap.size+1) (.int .i64 q.v) (.int .i64 q.op) (.int .i64 q.imm) (.int .i64 q.iv) (.slice KQ q.kids.length kq);refine ⟨q,KQ,kq,rfl,PtK.mono (fun i _ h=>?_) _ _ _ (PtK.upd uS (fun i _ h e=>by rcases h with h | h <;> omega) _ _ _ HP9.out),HQS.out,HQI.out,?_⟩
   ·rcases h with h | h
    ·exact .inl h.1
    ·exact .inr (by omega)
   ·exact (HU0.out.trans HUX.out (fun i hi e=>by omega)).trans uS (fun i hi e=>by omega)
  ·obtain ⟨y,hy⟩:∃y:Nat,wrap64 (how.tdiv 9) % 9=(y:Int):=Int.eq_ofNat_of_zero_le (Int.emod_nonneg _ (by decide));have hy9:y<9:=by omega
   have cI:=HB.out.cell 3;have fI:=HB.out.frozen 3;have CX:=h_ (C9.out (wrap64 (how.tdiv 9)) W2);rw [hy] at CX;clear hy;go_wp2_with fail
   refine CX.out.mono ?_;rintro e w3 ⟨rfl,rfl⟩;clear CX;obtain ⟨X1,HX1⟩:=nm (W2.setCell ⟨w.heap.size,3,none⟩ (.int .i64 ((y:Int) - 1)))
   have hX:MutX p F w W2 X1:=by
    have ux:Upd (fun i=>i=w.heap.size) W2 X1:=by rw [←HX1.out];exact updCell _ _ _ _
    have hbx:=HB.out.set_ 3 (.int .i64 ((y:Int) - 1));rw [HX1.out] at hbx;refine ⟨(.mk v op imm ((y:Int) - 1) p.kids),KA,kc,?_,?_,?_,?_,ux⟩
    ·have hkk:=Hk.out;show Blk X1 w.heap.size 40 #[_,_,_,_,.slice KA p.kids.length kc];rw [hkk];simp only [Pt.v,Pt.op,Pt.imm,Pt.iv];simpa using hbx
    ·exact PtK.swap (PtK.mono (fun i _ h=>.inl h) _ _ _ (PtK.upd ux (fun i _ h e=>by have:=h.2;omega) _ _ _ HPK.out)) _ _ _ _
    ·rw [Pt.size_mk];have:=HS.out;omega
    ·exact .mk (by unfold I64;have:=HIMM.out;unfold I64 at this;omega) HKI.out
   go_upto_region 18 with fail
   rw [HX1.out];obtain ⟨q,KQ,kq,hbx,hpk,hqs,hqi,hux⟩:=hX;have hbR:=HB2.out.upd hux (by omega);have HP9:=h_ hpk;have HQS:=h_ hqs;have HQI:=h_ hqi;have HUX:=h_ hux;have HBR:=h_ hbR;have r0:=hbx.cell 0;have r1:=hbx.cell 1;have r2:=hbx.cell 2;have r3:=hbx.cell 3;have r4:=hbx.cell 4;have s0:=hbR.cell 0;have s1:=hbR.cell 1;have s2:=hbR.cell 2;have s3:=hbR.cell 3;have s4:=hbR.cell 4;have rf:=hbR.frozen;clear hpk hqs hqi hux hbR hbx;go_wp2_with fail
   rw [set5_eq];refine bodyPost_ret (results_cell_row rfl _ _ (w.heap.size+1) 40 _ (0,0) _ rfl (set5_blk HBR.out _ _ _ _ _) Tryz.underlying40 rfl (by kernel_rfl)) rfl ?_;have uS:=set5_upd X1 (w.heap.size+1) (.int .i64 q.v) (.int .i64 q.op) (.int .i64 q.imm) (.int .i64 q.iv) (.slice KQ q.kids.length kq);refine ⟨q,KQ,kq,rfl,PtK.mono (fun i _ h=>?_) _ _ _ (PtK.upd uS (fun i _ h e=>by rcases h with h | h <;> omega) _ _ _ HP9.out),HQS.out,HQI.out,?_⟩
   ·rcases h with h | h
    ·exact .inl h.1
    ·exact .inr (by omega)
   ·exact (HU0.out.trans HUX.out (fun i hi e=>by omega)).trans uS (fun i hi e=>by omega)
  ·skip;obtain ⟨cs,sl1,sl2,sl3⟩:=HPK.out.cells;have HP3:=h_ sl3;have HOW:Hid (Own (W2.alloc (.cells #[] 40)) 40 5 (some ⟨w.heap.size+2,0,none⟩) 0 0 []):=by rw [←hsW2];exact Own.mk_ (Blk.new _ _ _) (Nat.le_refl _) (Nat.zero_le _) rfl rfl
   have uA:Upd Non W2 (W2.alloc (.cells #[] 40)):=Upd.refl.alloc _;have HUA:=h_ uA;have HLP:Hid (cs.length=k * 5):=by show _=_;rw [sl2.1,Hk.out];omega
   have HSP:=h_ (sl1.upd uA (fun _ _ _ f=>f));have HCS:=h_ sl2;have d4:=(HB.out.upd uA (fun f=>f)).cell 4;clear sl1 sl2 sl3 uA
   go_wp2_with (at_builtin;refine wpList_app rfl rfl T_pats rfl HOW.out rfl HSP.out HLP.out HP3.out (by simp only [maxLen];omega) (by omega) ?_)
   intro A8 c8 w8 ho8 hu8 hat8;have HO8:=h_ ho8
   have HU8:Hid (Upd (fun i=>W2.heap.size≤i) W2 w8):=((HUA.out.mono (fun _ _ f=>f.elim)).trans hu8 (fun i hi h=>by
    rw [At.some_] at h;omega))
   have HA8:Hid (∀i,At A8 i→W2.heap.size≤i):=fun i h=>by
    rcases hat8 i h with h | h
    ·rw [At.some_] at h;omega
    ·omega
   clear ho8 hu8 hat8;have hb8:=HB.out.upd HU8.out (by omega)
   go_wp2_with (at_builtin;refine wpList_app rfl rfl T_pats rfl (HO8.out.alloc _) rfl (Sl.new _ _ _) rfl (by simp [Value.oneCell']) (by simp only [maxLen];omega) (by omega) ?_)
   intro A9 c9 w9 ho9 hu9 hat9;have hal:Upd Non w8 (w8.alloc (.cells #[.int .i64 1,.int .i64 0,.int .i64 0,.int .i64 0,.slice none 0 0] 40)):=Upd.refl.alloc _;have HU9:Hid (Upd (fun i=>W2.heap.size≤i) W2 w9):=(HU8.out.then_non hal).trans hu9 (fun i hi h=>HA8.out i h)
   have HA9:Hid (∀i,At A9 i→W2.heap.size≤i):=fun i h=>by
    rcases hat9 i h with h | h
    ·exact HA8.out i h
    ·have:=HU8.out.size;omega
   have HO9:=h_ ho9;have hb9:=HB.out.upd HU9.out (by omega);have e4:=hb9.cell 4;have f4:=hb9.frozen 4;have HB9:=h_ hb9;clear ho9 hu9 hat9 hb9 hal hb8 d4;obtain ⟨X1,HX1⟩:=nm (w9.setCell ⟨w.heap.size,4,none⟩ (.slice A9 (k+1) c9))
   have hX:MutX p F w W2 X1:=by
    have ux:Upd (fun i=>i=w.heap.size) w9 X1:=by rw [←HX1.out];exact updCell _ _ _ _
    have hbx:=HB9.out.set_ 4 (.slice A9 (k+1) c9);rw [HX1.out] at hbx;have hn9:¬At A9 w.heap.size:=fun h=>by have:=HA9.out _ h;omega
    have hcs:=HCS.out.append (PtCells.snoc (PtCells.nil (w:=W2) (K:=fun i=>F i∧i<w.heap.size)) (p:=.mk 1 0 0 0 []) (KA:=none) (kc:=0) PtK.leaf);have hl1:(p.kids++[Pt.mk 1 0 0 0 []]).length=k+1:=by rw [List.length_append,Hk.out];rfl
    have hpo:PtO X1 (fun i=>F i∧i<w.heap.size) A9 (k+1) c9 (p.kids++[.mk 1 0 0 0 []]):=by
     refine ⟨hl1.symm,_,HO9.out.upd ux (fun i h e=>hn9 (by rw [e] at h;exact h)),?_⟩;refine ((hcs.mono HU9.out (fun i hi h e=>by have:=h.2;omega) (fun i _ h=>h)).mono (K':=fun i=>(F i∧i<w.heap.size)∧¬At A9 i) ux (fun i _ h e=>by have:=h.2;omega) (fun i _ h=>⟨h,fun ha=>by have:=HA9.out i ha;have:=h.2;omega⟩))
    refine ⟨.mk v op imm iv (p.kids++[.mk 1 0 0 0 []]),A9,c9,?_,hpo.view (fun i h=>.inr (by have:=HA9.out i h;omega)) (fun i _ h=>.inl h) _ _ _ _,?_,?_,?_⟩
    ·show Blk X1 w.heap.size 40 #[_,_,_,_,.slice A9 (p.kids++[Pt.mk 1 0 0 0 []]).length c9];rw [hl1];simp only [Pt.v,Pt.op,Pt.imm,Pt.iv];simpa using hbx
    ·rw [Pt.size_mk,sizeL_snoc,Pt.size_leaf];have:=HS.out;omega
    ·exact .mk HIMM.out fun q hq=>by
      rcases List.mem_append.1 hq with hq | hq
      ·exact HKI.out q hq
      ·rw [List.mem_singleton] at hq;subst hq;exact .mk (by unfold I64;omega) (fun q h=>by cases h)
    ·exact (HU9.out.mono (fun i hi h=>by omega)).trans ux (fun i hi h=>h)
   go_upto_region 18 with fail
   rw [HX1.out];obtain ⟨q,KQ,kq,hbx,hpk,hqs,hqi,hux⟩:=hX;have hbR:=HB2.out.upd hux (by omega);have HP9:=h_ hpk;have HQS:=h_ hqs;have HQI:=h_ hqi;have HUX:=h_ hux;have HBR:=h_ hbR;have r0:=hbx.cell 0;have r1:=hbx.cell 1;have r2:=hbx.cell 2;have r3:=hbx.cell 3;have r4:=hbx.cell 4;have s0:=hbR.cell 0;have s1:=hbR.cell 1;have s2:=hbR.cell 2;have s3:=hbR.cell 3;have s4:=hbR.cell 4;have rf:=hbR.frozen;clear hpk hqs hqi hux hbR hbx;go_wp2_with fail
   rw [set5_eq];refine bodyPost_ret (results_cell_row rfl _ _ (w.heap.size+1) 40 _ (0,0) _ rfl (set5_blk HBR.out _ _ _ _ _) Tryz.underlying40 rfl (by kernel_rfl)) rfl ?_;have uS:=set5_upd X1 (w.heap.size+1) (.int .i64 q.v) (.int .i64 q.op) (.int .i64 q.imm) (.int .i64 q.iv) (.slice KQ q.kids.length kq);refine ⟨q,KQ,kq,rfl,PtK.mono (fun i _ h=>?_) _ _ _ (PtK.upd uS (fun i _ h e=>by rcases h with h | h <;> omega) _ _ _ HP9.out),HQS.out,HQI.out,?_⟩
   ·rcases h with h | h
    ·exact .inl h.1
    ·exact .inr (by omega)
   ·exact (HU0.out.trans HUX.out (fun i hi e=>by omega)).trans uS (fun i hi e=>by omega)
  ·skip;by_cases hk0:k=0
   ·have hkk:((k:Nat):Int)=0:=by omega
    have t0:decide (0<k)=false:=dF_ (by omega);subst hk0;obtain ⟨X1,HX1⟩:=nm W2
    have hX:MutX p F w W2 X1:=by
     rw [←HX1.out];refine ⟨p,KA,kc,?_,PtK.mono (fun i _ h=>.inl h) _ _ _ HPK.out,by omega,HPI.out,Upd.refl⟩;rw [Hv.out,Hop.out,Himm.out,Hiv.out,Hk.out];exact HB.out
    go_upto_region 18 with fail
    rw [HX1.out];obtain ⟨q,KQ,kq,hbx,hpk,hqs,hqi,hux⟩:=hX;have hbR:=HB2.out.upd hux (by omega);have HP9:=h_ hpk;have HQS:=h_ hqs;have HQI:=h_ hqi;have HUX:=h_ hux;have HBR:=h_ hbR;have r0:=hbx.cell 0;have r1:=hbx.cell 1;have r2:=hbx.cell 2;have r3:=hbx.cell 3;have r4:=hbx.cell 4;have s0:=hbR.cell 0;have s1:=hbR.cell 1;have s2:=hbR.cell 2;have s3:=hbR.cell 3;have s4:=hbR.cell 4;have rf:=hbR.frozen;clear hpk hqs hqi hux hbR hbx;go_wp2_with fail
    rw [set5_eq];refine bodyPost_ret (results_cell_row rfl _ _ (w.heap.size+1) 40 _ (0,0) _ rfl (set5_blk HBR.out _ _ _ _ _) Tryz.underlying40 rfl (by kernel_rfl)) rfl ?_;have uS:=set5_upd X1 (w.heap.size+1) (.int .i64 q.v) (.int .i64 q.op) (.int .i64 q.imm) (.int .i64 q.iv) (.slice KQ q.kids.length kq);refine ⟨q,KQ,kq,rfl,PtK.mono (fun i _ h=>?_) _ _ _ (PtK.upd uS (fun i _ h e=>by rcases h with h | h <;> omega) _ _ _ HP9.out),HQS.out,HQI.out,?_⟩
    ·rcases h with h | h
     ·exact .inl h.1
     ·exact .inr (by omega)
    ·exact (HU0.out.trans HUX.out (fun i hi e=>by omega)).trans uS (fun i hi e=>by omega)
   ·have t0:decide (0<k)=true:=dT_ (by omega);obtain ⟨i,hi⟩:∃i:Nat,at_ % (k:Int)=(i:Int):=Int.eq_ofNat_of_zero_le (Int.emod_nonneg _ (by omega))
    have hik:i<k:=by
     have:=Int.emod_lt_of_pos at_ (show (0:Int)<(k:Int) by omega);omega
    have CI:=h_ (pick_c at_ k W2 (by omega) (by omega));rw [hi] at CI;clear hi;go_wp2_with fail
    refine CI.out.mono ?_;rintro e w3 ⟨rfl,rfl⟩;clear CI;obtain ⟨cs,sl1,sl2,sl3⟩:=HPK.out.cells;have HP3:=h_ sl3;have HOW:Hid (Own (W2.alloc (.cells #[] 40)) 40 5 (some ⟨w.heap.size+2,0,none⟩) 0 0 []):=by rw [←hsW2];exact Own.mk_ (Blk.new _ _ _) (Nat.le_refl _) (Nat.zero_le _) rfl rfl
    have uA:Upd Non W2 (W2.alloc (.cells #[] 40)):=Upd.refl.alloc _;have HUA:=h_ uA;have HLP:Hid (cs.length=k * 5):=by show _=_;rw [sl2.1,Hk.out];omega
    have HSP:=h_ (sl1.upd uA (fun _ _ _ f=>f));have HCS:=h_ sl2;have d4:=(HB.out.upd uA (fun f=>f)).cell 4;clear sl1 sl2 sl3 uA
    go_wp2_with (at_builtin;refine wpList_app rfl rfl T_pats rfl HOW.out rfl HSP.out HLP.out HP3.out (by simp only [maxLen];omega) (by omega) ?_)
    intro A8 c8 w8 ho8 hu8 hat8;have HO8:=h_ ho8
    have HU8:Hid (Upd (fun i=>W2.heap.size≤i) W2 w8):=((HUA.out.mono (fun _ _ f=>f.elim)).trans hu8 (fun i hi h=>by
     rw [At.some_] at h;omega))
    have HA8:Hid (∀i,At A8 i→W2.heap.size≤i):=fun i h=>by
     rcases hat8 i h with h | h
     ·rw [At.some_] at h;omega
     ·omega
    clear ho8 hu8 hat8;have hb8:=HB.out.upd HU8.out (by omega);have e4:=hb8.cell 4;have f4:=hb8.frozen 4;have HB8:=h_ hb8;obtain ⟨b8,rfl⟩:=HO8.out.some_ (by omega);have hb8g:W2.heap.size≤b8:=HA8.out b8 (At.some_.2 rfl);obtain ⟨X0,HX0⟩:=nm (w8.setCell ⟨w.heap.size,4,none⟩ (.slice (some ⟨b8,0,none⟩) k c8));have ux0:Upd (fun i=>i=w.heap.size) w8 X0:=by rw [←HX0.out];exact updCell _ _ _ _
    have HBX0:Hid (Blk X0 w.heap.size 40 #[.int .i64 v,.int .i64 op,.int .i64 imm,.int .i64 iv,.slice (some ⟨b8,0,none⟩) k c8]):=by
     have hbx:=HB8.out.set_ 4 (.slice (some ⟨b8,0,none⟩) k c8);rw [HX0.out] at hbx;show Blk _ _ _ _;simpa using hbx
    have HO0:=h_ (HO8.out.upd ux0 (fun j h e=>by rw [At.some_] at h;omega));have HC0:=h_ ((HCS.out.mono HU8.out (fun i hi h e=>by have:=h.2;omega) (fun i _ h=>h)).mono ux0 (fun i _ h e=>by have:=h.2;omega) (fun i _ h=>h))
    have HU9:Hid (Upd (fun i=>i=w.heap.size) W2 X0):=(HU8.out.mono (fun i hi h=>by omega)).trans ux0 (fun i hi h=>h);clear hb8 d4 ux0 HO8 HB8;have hil:i<p.kids.length:=by rw [Hk.out];exact hik
    obtain ⟨KB,kd,k1,k2⟩:=HC0.out.2 i hil;have hks:=Pt.kids_lt (List.getElem_mem hil);have hkp:=HKI.out _ (List.getElem_mem hil);have HQ0:Hid (∀q,q.size≤p.kids[i].size+1→Pt.sizeL (p.kids.set i q)≤Pt.sizeL p.kids+1):=fun q h=>sizeL_set _ _ _ hil h
    have CI:=h_ (fun (h a:Int) W (u:Upd Non X0 W)=>HI.out p.kids[i] (List.getElem_mem hil) h a W _ KB kd (PtK.upd u (fun _ _ _ f=>f) _ _ _ k2) hkp (by omega))
    have t0':X0.cell? ⟨b8,i * 5,none⟩=some (.int .i64 p.kids[i].v):=own_cell HO0.out (by have:=k1 0 (by omega);rw [show 5 * i+0=i * 5 by omega] at this;rw [this];rfl)
    have t1':X0.cell? ⟨b8,i * 5+1,none⟩=some (.int .i64 p.kids[i].op):=own_cell HO0.out (by have:=k1 1 (by omega);rw [show 5 * i+1=i * 5+1 by omega] at this;rw [this];rfl)
    have t2':X0.cell? ⟨b8,i * 5+2,none⟩=some (.int .i64 p.kids[i].imm):=own_cell HO0.out (by have:=k1 2 (by omega);rw [show 5 * i+2=i * 5+2 by omega] at this;rw [this];rfl)
    have t3':X0.cell? ⟨b8,i * 5+3,none⟩=some (.int .i64 p.kids[i].iv):=own_cell HO0.out (by have:=k1 3 (by omega);rw [show 5 * i+3=i * 5+3 by omega] at this;rw [this];rfl)
    have t4':X0.cell? ⟨b8,i * 5+4,none⟩=some (.slice KB p.kids[i].kids.length kd):=own_cell HO0.out (by have:=k1 4 (by omega);rw [show 5 * i+4=i * 5+4 by omega] at this;rw [this];rfl)
    clear k1 k2 hkp;generalize p.kids[i]=q0 at *;unfold pv at CI
    go_upto_region 17 with fail
    rw [HX0.out];obtain ⟨wD,HwD⟩:=nm X0.drew;have uD:Upd Non X0 wD:=by rw [←HwD.out];exact Upd.refl.drew
    have g4:=(HBX0.out.upd uD (fun f=>f)).cell 4;have T0:=u_ t0' uD (fun f=>f);have T1:=u_ t1' uD (fun f=>f);have T2:=u_ t2' uD (fun f=>f);have T3:=u_ t3' uD (fun f=>f);have T4:=u_ t4' uD (fun f=>f);refine wp_region_held_drew (S:=fun w'=>w'.cell? ⟨w.heap.size,4,none⟩=some (.slice (some ⟨b8,0,none⟩) k c8)) (by kernel_rfl) (by rw [HwD.out];exact g4) (fun hHeld=>?_)
    rw [HwD.out] at hHeld ⊢;refine wpT 0 ?_;(try simp only [y_,z_]);refine wpT 1 ?_;(try simp only [y_,z_]);refine wpT 2 ?_;(try simp only [y_,z_]);refine wpT 3 ?_;(try simp only [y_,z_]);refine wpT 4 ?_;(try simp only [y_,z_]);refine wpT 5 ?_;(try simp only [y_,z_]);refine wpT 6 ?_;(try simp only [y_,z_]);refine wpT 8 ?_;(try simp only [y_,z_]);refine wpT 9 ?_;(try simp only [y_,z_]);refine wpT 10 ?_;(try simp only [y_,z_]);refine wpT 11 ?_;(try simp only [y_,z_]);have R5:=And.intro T0 (And.intro T1 (And.intro T2 (And.intro T3 T4)))
    refine wpAnyH_takeM (fun w'=>w'.cell? ⟨b8,i * 5,none⟩=some (.int .i64 q0.v)∧w'.cell? ⟨b8,i * 5+1,none⟩=some (.int .i64 q0.op)∧w'.cell? ⟨b8,i * 5+2,none⟩=some (.int .i64 q0.imm)∧w'.cell? ⟨b8,i * 5+3,none⟩=some (.int .i64 q0.iv)∧w'.cell? ⟨b8,i * 5+4,none⟩=some (.slice KB q0.kids.length kd)) (calm_and (calm_cell _ _) (calm_and (calm_cell _ _) (calm_and (calm_cell _ _) (calm_and (calm_cell _ _) (calm_cell _ _))))) [12,13,14] (i:=7) (v:=?_) rfl (by kernel_rfl) (by kernel_rfl) (by kernel_rfl) (by kernel_rfl) (fun _ _ _ h=>h) (Or.inl ⟨by rfl,?_⟩) (R5) (by assumption) ?_
    rotate_left
    ·intro w hSw;(try dsimp only at hSw);go_simp;try with_reducible rfl
    (try simp only [y_,z_]);refine aR_ (rs:=[12]) (by kernel_rfl) (by simp) ?_;refine aC_ rfl (fun K hK=>?_) aN_;go_simp;refine (CI.out _ _ _ uD).mono ?_;rintro e w5 ⟨q1,KQ,kq,rfl,hpk1,hqs1,hqi1,u5⟩;go_wp2_with fail
    have u05:Upd Non X0 w5:=uD.then_non u5;have g5:=(HBX0.out.upd u05 (fun f=>f)).cell 4;refine hK.out _ _ ?_ (fun hHeld=>?_)
    ·exact g5
    clear hK K;(try simp only [y_,z_]);have z0:=u_ t0' u05 (fun f=>f);have z1:=u_ t1' u05 (fun f=>f);have z2:=u_ t2' u05 (fun f=>f);have z3:=u_ t3' u05 (fun f=>f);have z4:=u_ t4' u05 (fun f=>f);have ho5:=HO0.out.upd u05 (fun _ _ f=>f);have fz:=fun j=>ho5.frozen5 j
    simp only [pv];clear T0 T1 T2 T3 T4 R5 g4 t0' t1' t2' t3' t4';refine wpT 13 ?_;(try simp only [y_,z_]);refine aR_ (rs:=[14]) (by kernel_rfl) (by simp) ?_;refine aC_ rfl (fun K hK=>?_) aN_;go_simp;rw [set5o_eq];obtain ⟨X1,HX1⟩:=nm (set5o w5 b8 (i * 5) (.int .i64 q1.v) (.int .i64 q1.op) (.int .i64 q1.imm) (.int .i64 q1.iv) (.slice KQ q1.kids.length kq));rw [HX1.out];have ux1:Upd (fun i=>i=b8) w5 X1:=by rw [←HX1.out];exact set5o_upd _ _ _ _ _ _ _ _
    have ho1:=own_setP ho5 i q1 KQ kq;rw [HX1.out] at ho1;have hbx1:=(HBX0.out.upd u05 (fun f=>f)).upd ux1 (by omega);have g6:=hbx1.cell 4;refine hK.out _ _ ?_ (fun hHeld=>?_)
    ·exact g6
    clear hK K;(try simp only [y_,z_]);refine aD_ (by kernel_rfl) ?_ _
    have hX:MutX p F w W2 X1:=by
     have hs0:=HU9.out.size;have hs5:=uD.size;have hl1:(p.kids.set i q1).length=k:=by rw [List.length_set,Hk.out]
     have hcs:=((HC0.out.mono u05 (fun _ _ _ f=>f) (fun j hj h=>h)).mono (K':=fun j=>(F j∧j<w.heap.size)∨wD.heap.size≤j) (Upd.refl (S:=Non)) (fun _ _ _ f=>f) (fun j _ h=>.inl h)).set5 hil (PtK.mono (fun j _ h=>h) _ _ _ hpk1)
     have hpo:PtO X1 (fun j=>(F j∧j<w.heap.size)∨wD.heap.size≤j) (some ⟨b8,0,none⟩) k c8 (p.kids.set i q1):=by
      have hb8lt:b8<X0.heap.size:=HO0.out.lt (At.some_.2 rfl);refine ⟨hl1.symm,_,ho1,hcs.mono ux1 (fun j _ h e=>?_) (fun j _ h=>⟨h,fun ha=>?_⟩)⟩
      ·rcases h with h | h
       ·have:=h.2;omega
       ·omega
      ·rw [At.some_] at ha;rcases h with h | h
       ·have:=h.2;omega
       ·omega
     refine ⟨.mk v op imm iv (p.kids.set i q1),some ⟨b8,0,none⟩,c8,?_,hpo.view (fun j h=>.inr (by rw [At.some_] at h;omega)) (fun j _ h=>?_) _ _ _ _,?_,?_,?_⟩
     ·show Blk X1 w.heap.size 40 #[_,_,_,_,.slice (some ⟨b8,0,none⟩) (p.kids.set i q1).length c8];rw [hl1];exact hbx1
     ·rcases h with h | h
      ·exact .inl h
      ·exact .inr (by omega)
     ·rw [Pt.size_mk];have:=HS.out;have:=HQ0.out q1 hqs1;omega
     ·exact .mk HIMM.out (PI.set HKI.out hqi1 i)
     ·exact (HU9.out.then_non u05).trans ux1 (fun j hj e=>by omega)
    have hxe:X1=X1:=rfl;have HX1:Hid (X1=X1):=hxe;clear z0 z1 z2 z3 z4 fz hb8g hpk1 g6 g5 hHeld
    go_upto_region 18 with fail
    rw [HX1.out];obtain ⟨q,KQ,kq,hbx,hpk,hqs,hqi,hux⟩:=hX;have hbR:=HB2.out.upd hux (by omega);have HP9:=h_ hpk;have HQS:=h_ hqs;have HQI:=h_ hqi;have HUX:=h_ hux;have HBR:=h_ hbR;have r0:=hbx.cell 0;have r1:=hbx.cell 1;have r2:=hbx.cell 2;have r3:=hbx.cell 3;have r4:=hbx.cell 4;have s0:=hbR.cell 0;have s1:=hbR.cell 1;have s2:=hbR.cell 2;have s3:=hbR.cell 3;have s4:=hbR.cell 4;have rf:=hbR.frozen;clear hpk hqs hqi hux hbR hbx;go_wp2_with fail
    rw [set5_eq];refine bodyPost_ret (results_cell_row rfl _ _ (w.heap.size+1) 40 _ (0,0) _ rfl (set5_blk HBR.out _ _ _ _ _) Tryz.underlying40 rfl (by kernel_rfl)) rfl ?_;have uS:=set5_upd X1 (w.heap.size+1) (.int .i64 q.v) (.int .i64 q.op) (.int .i64 q.imm) (.int .i64 q.iv) (.slice KQ q.kids.length kq);refine ⟨q,KQ,kq,rfl,PtK.mono (fun i _ h=>?_) _ _ _ (PtK.upd uS (fun i _ h e=>by rcases h with h | h <;> omega) _ _ _ HP9.out),HQS.out,HQI.out,?_⟩
    ·rcases h with h | h
     ·exact .inl h.1
     ·exact .inr (by omega)
    ·exact (HU0.out.trans HUX.out (fun i hi e=>by omega)).trans uS (fun i hi e=>by omega)
  ·skip;by_cases hk0:k=0
   ·have hkk:((k:Nat):Int)=0:=by omega
    have t0:decide (0<k)=false:=dF_ (by omega);subst hk0;obtain ⟨X1,HX1⟩:=nm W2
    have hX:MutX p F w W2 X1:=by
     rw [←HX1.out];refine ⟨p,KA,kc,?_,PtK.mono (fun i _ h=>.inl h) _ _ _ HPK.out,by omega,HPI.out,Upd.refl⟩;rw [Hv.out,Hop.out,Himm.out,Hiv.out,Hk.out];exact HB.out
    go_upto_region 18 with fail
    rw [HX1.out];obtain ⟨q,KQ,kq,hbx,hpk,hqs,hqi,hux⟩:=hX;have hbR:=HB2.out.upd hux (by omega);have HP9:=h_ hpk;have HQS:=h_ hqs;have HQI:=h_ hqi;have HUX:=h_ hux;have HBR:=h_ hbR;have r0:=hbx.cell 0;have r1:=hbx.cell 1;have r2:=hbx.cell 2;have r3:=hbx.cell 3;have r4:=hbx.cell 4;have s0:=hbR.cell 0;have s1:=hbR.cell 1;have s2:=hbR.cell 2;have s3:=hbR.cell 3;have s4:=hbR.cell 4;have rf:=hbR.frozen;clear hpk hqs hqi hux hbR hbx;go_wp2_with fail
    rw [set5_eq];refine bodyPost_ret (results_cell_row rfl _ _ (w.heap.size+1) 40 _ (0,0) _ rfl (set5_blk HBR.out _ _ _ _ _) Tryz.underlying40 rfl (by kernel_rfl)) rfl ?_;have uS:=set5_upd X1 (w.heap.size+1) (.int .i64 q.v) (.int .i64 q.op) (.int .i64 q.imm) (.int .i64 q.iv) (.slice KQ q.kids.length kq);refine ⟨q,KQ,kq,rfl,PtK.mono (fun i _ h=>?_) _ _ _ (PtK.upd uS (fun i _ h e=>by rcases h with h | h <;> omega) _ _ _ HP9.out),HQS.out,HQI.out,?_⟩
    ·rcases h with h | h
     ·exact .inl h.1
     ·exact .inr (by omega)
    ·exact (HU0.out.trans HUX.out (fun i hi e=>by omega)).trans uS (fun i hi e=>by omega)
   ·have t0:decide (0<k)=true:=dT_ (by omega);obtain ⟨i,hi⟩:∃i:Nat,at_ % (k:Int)=(i:Int):=Int.eq_ofNat_of_zero_le (Int.emod_nonneg _ (by omega))
    have hik:i<k:=by
     have:=Int.emod_lt_of_pos at_ (show (0:Int)<(k:Int) by omega);omega
    have CI:=h_ (pick_c at_ k W2 (by omega) (by omega));rw [hi] at CI;clear hi;go_wp2_with fail
    refine CI.out.mono ?_;rintro e w3 ⟨rfl,rfl⟩;clear CI;obtain ⟨cs,sl1,sl2,sl3⟩:=HPK.out.cells;have HP3:=h_ sl3;have HOW:Hid (Own (W2.alloc (.cells #[] 40)) 40 5 (some ⟨w.heap.size+2,0,none⟩) 0 0 []):=by rw [←hsW2];exact Own.mk_ (Blk.new _ _ _) (Nat.le_refl _) (Nat.zero_le _) rfl rfl
    have uA:Upd Non W2 (W2.alloc (.cells #[] 40)):=Upd.refl.alloc _;have HUA:=h_ uA;have HLP:Hid (cs.length=k * 5):=by show _=_;rw [sl2.1,Hk.out];omega
    have HSP:=h_ (sl1.upd uA (fun _ _ _ f=>f));have HCS:=h_ sl2;have d4:=(HB.out.upd uA (fun f=>f)).cell 4;clear sl1 sl2 sl3 uA
    go_wp2_with (at_builtin;refine wpList_app rfl rfl T_pats rfl HOW.out rfl HSP.out HLP.out HP3.out (by simp only [maxLen];omega) (by omega) ?_)
    intro A8 c8 w8 ho8 hu8 hat8;have HO8:=h_ ho8
    have HU8:Hid (Upd (fun i=>W2.heap.size≤i) W2 w8):=((HUA.out.mono (fun _ _ f=>f.elim)).trans hu8 (fun i hi h=>by
     rw [At.some_] at h;omega))
    have HA8:Hid (∀i,At A8 i→W2.heap.size≤i):=fun i h=>by
     rcases hat8 i h with h | h
     ·rw [At.some_] at h;omega
     ·omega
    clear ho8 hu8 hat8;have hb8:=HB.out.upd HU8.out (by omega);have e4:=hb8.cell 4;have f4:=hb8.frozen 4;have HB8:=h_ hb8;obtain ⟨b8,rfl⟩:=HO8.out.some_ (by omega);have hb8g:W2.heap.size≤b8:=HA8.out b8 (At.some_.2 rfl);obtain ⟨X0,HX0⟩:=nm (w8.setCell ⟨w.heap.size,4,none⟩ (.slice (some ⟨b8,0,none⟩) k c8));have ux0:Upd (fun i=>i=w.heap.size) w8 X0:=by rw [←HX0.out];exact updCell _ _ _ _
    have HBX0:Hid (Blk X0 w.heap.size 40 #[.int .i64 v,.int .i64 op,.int .i64 imm,.int .i64 iv,.slice (some ⟨b8,0,none⟩) k c8]):=by
     have hbx:=HB8.out.set_ 4 (.slice (some ⟨b8,0,none⟩) k c8);rw [HX0.out] at hbx;show Blk _ _ _ _;simpa using hbx
    have HO0:=h_ (HO8.out.upd ux0 (fun j h e=>by rw [At.some_] at h;omega));have HC0:=h_ ((HCS.out.mono HU8.out (fun i hi h e=>by have:=h.2;omega) (fun i _ h=>h)).mono ux0 (fun i _ h e=>by have:=h.2;omega) (fun i _ h=>h))
    have HU9:Hid (Upd (fun i=>i=w.heap.size) W2 X0):=(HU8.out.mono (fun i hi h=>by omega)).trans ux0 (fun i hi h=>h);clear hb8 d4 ux0 HO8 HB8;have hil:i<p.kids.length:=by rw [Hk.out];exact hik
    obtain ⟨KB,kd,k1,k2⟩:=HC0.out.2 i hil;have hks:=Pt.kids_lt (List.getElem_mem hil);have hkp:=HKI.out _ (List.getElem_mem hil);have HQ0:Hid (∀q,q.size≤p.kids[i].size+1→Pt.sizeL (p.kids.set i q)≤Pt.sizeL p.kids+1):=fun q h=>sizeL_set _ _ _ hil h
    have CI:=h_ (fun (h a:Int) W (u:Upd Non X0 W)=>HI.out p.kids[i] (List.getElem_mem hil) h a W _ KB kd (PtK.upd u (fun _ _ _ f=>f) _ _ _ k2) hkp (by omega))
    have t0':X0.cell? ⟨b8,i * 5,none⟩=some (.int .i64 p.kids[i].v):=own_cell HO0.out (by have:=k1 0 (by omega);rw [show 5 * i+0=i * 5 by omega] at this;rw [this];rfl)
    have t1':X0.cell? ⟨b8,i * 5+1,none⟩=some (.int .i64 p.kids[i].op):=own_cell HO0.out (by have:=k1 1 (by omega);rw [show 5 * i+1=i * 5+1 by omega] at this;rw [this];rfl)
    have t2':X0.cell? ⟨b8,i * 5+2,none⟩=some (.int .i64 p.kids[i].imm):=own_cell HO0.out (by have:=k1 2 (by omega);rw [show 5 * i+2=i * 5+2 by omega] at this;rw [this];rfl)
    have t3':X0.cell? ⟨b8,i * 5+3,none⟩=some (.int .i64 p.kids[i].iv):=own_cell HO0.out (by have:=k1 3 (by omega);rw [show 5 * i+3=i * 5+3 by omega] at this;rw [this];rfl)
    have t4':X0.cell? ⟨b8,i * 5+4,none⟩=some (.slice KB p.kids[i].kids.length kd):=own_cell HO0.out (by have:=k1 4 (by omega);rw [show 5 * i+4=i * 5+4 by omega] at this;rw [this];rfl)
    clear k1 k2 hkp;generalize p.kids[i]=q0 at *;unfold pv at CI
    go_upto_region 17 with fail
    rw [HX0.out];obtain ⟨wD,HwD⟩:=nm X0.drew;have uD:Upd Non X0 wD:=by rw [←HwD.out];exact Upd.refl.drew
    have g4:=(HBX0.out.upd uD (fun f=>f)).cell 4;have T0:=u_ t0' uD (fun f=>f);have T1:=u_ t1' uD (fun f=>f);have T2:=u_ t2' uD (fun f=>f);have T3:=u_ t3' uD (fun f=>f);have T4:=u_ t4' uD (fun f=>f);refine wp_region_held_drew (S:=fun w'=>w'.cell? ⟨w.heap.size,4,none⟩=some (.slice (some ⟨b8,0,none⟩) k c8)) (by kernel_rfl) (by rw [HwD.out];exact g4) (fun hHeld=>?_)
    rw [HwD.out] at hHeld ⊢;refine wpT 0 ?_;(try simp only [y_,z_]);refine wpT 1 ?_;(try simp only [y_,z_]);refine wpT 2 ?_;(try simp only [y_,z_]);refine wpT 3 ?_;(try simp only [y_,z_]);refine wpT 4 ?_;(try simp only [y_,z_]);refine wpT 5 ?_;(try simp only [y_,z_]);refine wpT 6 ?_;(try simp only [y_,z_]);refine wpT 8 ?_;(try simp only [y_,z_]);refine wpT 9 ?_;(try simp only [y_,z_]);refine wpT 10 ?_;(try simp only [y_,z_]);refine wpT 11 ?_;(try simp only [y_,z_]);have R5:=And.intro T0 (And.intro T1 (And.intro T2 (And.intro T3 T4)))
    refine wpAnyH_takeM (fun w'=>w'.cell? ⟨b8,i * 5,none⟩=some (.int .i64 q0.v)∧w'.cell? ⟨b8,i * 5+1,none⟩=some (.int .i64 q0.op)∧w'.cell? ⟨b8,i * 5+2,none⟩=some (.int .i64 q0.imm)∧w'.cell? ⟨b8,i * 5+3,none⟩=some (.int .i64 q0.iv)∧w'.cell? ⟨b8,i * 5+4,none⟩=some (.slice KB q0.kids.length kd)) (calm_and (calm_cell _ _) (calm_and (calm_cell _ _) (calm_and (calm_cell _ _) (calm_and (calm_cell _ _) (calm_cell _ _))))) [12,13,14] (i:=7) (v:=?_) rfl (by kernel_rfl) (by kernel_rfl) (by kernel_rfl) (by kernel_rfl) (fun _ _ _ h=>h) (Or.inl ⟨by rfl,?_⟩) (R5) (by assumption) ?_
    rotate_left
    ·intro w hSw;(try dsimp only at hSw);go_simp;try with_reducible rfl
    (try simp only [y_,z_]);refine aR_ (rs:=[12]) (by kernel_rfl) (by simp) ?_;refine aC_ rfl (fun K hK=>?_) aN_;go_simp;refine (CI.out _ _ _ uD).mono ?_;rintro e w5 ⟨q1,KQ,kq,rfl,hpk1,hqs1,hqi1,u5⟩;go_wp2_with fail
    have u05:Upd Non X0 w5:=uD.then_non u5;have g5:=(HBX0.out.upd u05 (fun f=>f)).cell 4;refine hK.out _ _ ?_ (fun hHeld=>?_)
    ·exact g5
    clear hK K;(try simp only [y_,z_]);have z0:=u_ t0' u05 (fun f=>f);have z1:=u_ t1' u05 (fun f=>f);have z2:=u_ t2' u05 (fun f=>f);have z3:=u_ t3' u05 (fun f=>f);have z4:=u_ t4' u05 (fun f=>f);have ho5:=HO0.out.upd u05 (fun _ _ f=>f);have fz:=fun j=>ho5.frozen5 j
    simp only [pv];clear T0 T1 T2 T3 T4 R5 g4 t0' t1' t2' t3' t4';refine wpT 13 ?_;(try simp only [y_,z_]);refine aR_ (rs:=[14]) (by kernel_rfl) (by simp) ?_;refine aC_ rfl (fun K hK=>?_) aN_;go_simp;rw [set5o_eq];obtain ⟨X1,HX1⟩:=nm (set5o w5 b8 (i * 5) (.int .i64 q1.v) (.int .i64 q1.op) (.int .i64 q1.imm) (.int .i64 q1.iv) (.slice KQ q1.kids.length kq));rw [HX1.out];have ux1:Upd (fun i=>i=b8) w5 X1:=by rw [←HX1.out];exact set5o_upd _ _ _ _ _ _ _ _
    have ho1:=own_setP ho5 i q1 KQ kq;rw [HX1.out] at ho1;have hbx1:=(HBX0.out.upd u05 (fun f=>f)).upd ux1 (by omega);have g6:=hbx1.cell 4;refine hK.out _ _ ?_ (fun hHeld=>?_)
    ·exact g6
    clear hK K;(try simp only [y_,z_]);refine aD_ (by kernel_rfl) ?_ _
    have hX:MutX p F w W2 X1:=by
     have hs0:=HU9.out.size;have hs5:=uD.size;have hl1:(p.kids.set i q1).length=k:=by rw [List.length_set,Hk.out]
     have hcs:=((HC0.out.mono u05 (fun _ _ _ f=>f) (fun j hj h=>h)).mono (K':=fun j=>(F j∧j<w.heap.size)∨wD.heap.size≤j) (Upd.refl (S:=Non)) (fun _ _ _ f=>f) (fun j _ h=>.inl h)).set5 hil (PtK.mono (fun j _ h=>h) _ _ _ hpk1)
     have hpo:PtO X1 (fun j=>(F j∧j<w.heap.size)∨wD.heap.size≤j) (some ⟨b8,0,none⟩) k c8 (p.kids.set i q1):=by
      have hb8lt:b8<X0.heap.size:=HO0.out.lt (At.some_.2 rfl);refine ⟨hl1.symm,_,ho1,hcs.mono ux1 (fun j _ h e=>?_) (fun j _ h=>⟨h,fun ha=>?_⟩)⟩
      ·rcases h with h | h
       ·have:=h.2;omega
       ·omega
      ·rw [At.some_] at ha;rcases h with h | h
       ·have:=h.2;omega
       ·omega
     refine ⟨.mk v op imm iv (p.kids.set i q1),some ⟨b8,0,none⟩,c8,?_,hpo.view (fun j h=>.inr (by rw [At.some_] at h;omega)) (fun j _ h=>?_) _ _ _ _,?_,?_,?_⟩
     ·show Blk X1 w.heap.size 40 #[_,_,_,_,.slice (some ⟨b8,0,none⟩) (p.kids.set i q1).length c8];rw [hl1];exact hbx1
     ·rcases h with h | h
      ·exact .inl h
      ·exact .inr (by omega)
     ·rw [Pt.size_mk];have:=HS.out;have:=HQ0.out q1 hqs1;omega
     ·exact .mk HIMM.out (PI.set HKI.out hqi1 i)
     ·exact (HU9.out.then_non u05).trans ux1 (fun j hj e=>by omega)
    have hxe:X1=X1:=rfl;have HX1:Hid (X1=X1):=hxe;clear z0 z1 z2 z3 z4 fz hb8g hpk1 g6 g5 hHeld
    go_upto_region 18 with fail
    rw [HX1.out];obtain ⟨q,KQ,kq,hbx,hpk,hqs,hqi,hux⟩:=hX;have hbR:=HB2.out.upd hux (by omega);have HP9:=h_ hpk;have HQS:=h_ hqs;have HQI:=h_ hqi;have HUX:=h_ hux;have HBR:=h_ hbR;have r0:=hbx.cell 0;have r1:=hbx.cell 1;have r2:=hbx.cell 2;have r3:=hbx.cell 3;have r4:=hbx.cell 4;have s0:=hbR.cell 0;have s1:=hbR.cell 1;have s2:=hbR.cell 2;have s3:=hbR.cell 3;have s4:=hbR.cell 4;have rf:=hbR.frozen;clear hpk hqs hqi hux hbR hbx;go_wp2_with fail
    rw [set5_eq];refine bodyPost_ret (results_cell_row rfl _ _ (w.heap.size+1) 40 _ (0,0) _ rfl (set5_blk HBR.out _ _ _ _ _) Tryz.underlying40 rfl (by kernel_rfl)) rfl ?_;have uS:=set5_upd X1 (w.heap.size+1) (.int .i64 q.v) (.int .i64 q.op) (.int .i64 q.imm) (.int .i64 q.iv) (.slice KQ q.kids.length kq);refine ⟨q,KQ,kq,rfl,PtK.mono (fun i _ h=>?_) _ _ _ (PtK.upd uS (fun i _ h e=>by rcases h with h | h <;> omega) _ _ _ HP9.out),HQS.out,HQI.out,?_⟩
    ·rcases h with h | h
     ·exact .inl h.1
     ·exact .inr (by omega)
    ·exact (HU0.out.trans HUX.out (fun i hi e=>by omega)).trans uS (fun i hi e=>by omega)
  ·skip;obtain ⟨X1,HX1⟩:=nm W2
   have hX:MutX p F w W2 X1:=by
    rw [←HX1.out];refine ⟨p,KA,kc,?_,PtK.mono (fun i _ h=>.inl h) _ _ _ HPK.out,by omega,HPI.out,Upd.refl⟩;rw [Hv.out,Hop.out,Himm.out,Hiv.out,Hk.out];exact HB.out
   go_upto_region 18 with fail
   rw [HX1.out];obtain ⟨q,KQ,kq,hbx,hpk,hqs,hqi,hux⟩:=hX;have hbR:=HB2.out.upd hux (by omega);have HP9:=h_ hpk;have HQS:=h_ hqs;have HQI:=h_ hqi;have HUX:=h_ hux;have HBR:=h_ hbR;have r0:=hbx.cell 0;have r1:=hbx.cell 1;have r2:=hbx.cell 2;have r3:=hbx.cell 3;have r4:=hbx.cell 4;have s0:=hbR.cell 0;have s1:=hbR.cell 1;have s2:=hbR.cell 2;have s3:=hbR.cell 3;have s4:=hbR.cell 4;have rf:=hbR.frozen;clear hpk hqs hqi hux hbR hbx;go_wp2_with fail
   rw [set5_eq];refine bodyPost_ret (results_cell_row rfl _ _ (w.heap.size+1) 40 _ (0,0) _ rfl (set5_blk HBR.out _ _ _ _ _) Tryz.underlying40 rfl (by kernel_rfl)) rfl ?_;have uS:=set5_upd X1 (w.heap.size+1) (.int .i64 q.v) (.int .i64 q.op) (.int .i64 q.imm) (.int .i64 q.iv) (.slice KQ q.kids.length kq);refine ⟨q,KQ,kq,rfl,PtK.mono (fun i _ h=>?_) _ _ _ (PtK.upd uS (fun i _ h e=>by rcases h with h | h <;> omega) _ _ _ HP9.out),HQS.out,HQI.out,?_⟩
   ·rcases h with h | h
    ·exact .inl h.1
    ·exact .inr (by omega)
   ·exact (HU0.out.trans HUX.out (fun i hi e=>by omega)).trans uS (fun i hi e=>by omega)
  ·skip;obtain ⟨X1,HX1⟩:=nm W2
   have hX:MutX p F w W2 X1:=by
    rw [←HX1.out];refine ⟨p,KA,kc,?_,PtK.mono (fun i _ h=>.inl h) _ _ _ HPK.out,by omega,HPI.out,Upd.refl⟩;rw [Hv.out,Hop.out,Himm.out,Hiv.out,Hk.out];exact HB.out
   go_upto_region 18 with fail
   rw [HX1.out];obtain ⟨q,KQ,kq,hbx,hpk,hqs,hqi,hux⟩:=hX;have hbR:=HB2.out.upd hux (by omega);have HP9:=h_ hpk;have HQS:=h_ hqs;have HQI:=h_ hqi;have HUX:=h_ hux;have HBR:=h_ hbR;have r0:=hbx.cell 0;have r1:=hbx.cell 1;have r2:=hbx.cell 2;have r3:=hbx.cell 3;have r4:=hbx.cell 4;have s0:=hbR.cell 0;have s1:=hbR.cell 1;have s2:=hbR.cell 2;have s3:=hbR.cell 3;have s4:=hbR.cell 4;have rf:=hbR.frozen;clear hpk hqs hqi hux hbR hbx;go_wp2_with fail
   rw [set5_eq];refine bodyPost_ret (results_cell_row rfl _ _ (w.heap.size+1) 40 _ (0,0) _ rfl (set5_blk HBR.out _ _ _ _ _) Tryz.underlying40 rfl (by kernel_rfl)) rfl ?_;have uS:=set5_upd X1 (w.heap.size+1) (.int .i64 q.v) (.int .i64 q.op) (.int .i64 q.imm) (.int .i64 q.iv) (.slice KQ q.kids.length kq);refine ⟨q,KQ,kq,rfl,PtK.mono (fun i _ h=>?_) _ _ _ (PtK.upd uS (fun i _ h e=>by rcases h with h | h <;> omega) _ _ _ HP9.out),HQS.out,HQI.out,?_⟩
   ·rcases h with h | h
    ·exact .inl h.1
    ·exact .inr (by omega)
   ·exact (HU0.out.trans HUX.out (fun i hi e=>by omega)).trans uS (fun i hi e=>by omega)
theorem kConds_len (n:Int) (nv:Nat):(kCondsF n nv).length≤1:=by
 unfold kCondsF
 repeat' split
 all_goals simp
theorem side_size (op:Int) (p:Pt):(sideF op p).size≤1+p.size:=by
 unfold sideF
 split
 ·rw [Pt.size_one];exact Nat.le_refl _
 ·omega
theorem kRule_sz (name:ByteArray) (hn:name.size≤1000) (xs:List Int):RlSz (kRuleF name xs):=by
 have h1:=patF_size (3:Nat) false 3 1 xs.tail;have h2:=(numF_len (patF (3:Nat) false 3 1 xs.tail).1 [] []).2.2;have h3:=side_size 21 (numF (patF (3:Nat) false 3 1 xs.tail).1 [] []).1;have h4:=patF_size (numF (patF (3:Nat) false 3 1 xs.tail).1 [] []).2.1.length false 2 1 (patF (3:Nat) false 3 1 xs.tail).2;have h5:=kConds_len (xs.headD 0) (numF (patF (3:Nat) false 3 1 xs.tail).1 [] []).2.1.length;simp only [kSize] at h1 h4;unfold kRuleF;dsimp only
 split
 ·exact ⟨by dsimp only;omega,by dsimp only;rw [Pt.size_leaf];omega,by simp,by dsimp only;omega⟩
 ·exact ⟨by dsimp only;omega,by dsimp only;omega,by dsimp only;omega,by dsimp only;omega⟩
structure RlSm (r:Rl):Prop where
 zl:r.l.size≤2000
 zr:r.r.size≤2000
 zc:r.conds.length≤20
 zn:r.name.size≤100
theorem RlSm.sz {r:Rl} (h:RlSm r):RlSz r:=⟨by have:=h.zl;omega,by have:=h.zr;omega,by have:=h.zc;omega,by have:=h.zn;omega⟩
theorem kRule_sm (name:ByteArray) (hn:name.size≤100) (xs:List Int):(kRuleF name xs).l.size≤1000∧(kRuleF name xs).r.size≤1000∧(kRuleF name xs).conds.length≤1∧(kRuleF name xs).name.size≤100:=by
 have h1:=patF_size (3:Nat) false 3 1 xs.tail;have h2:=(numF_len (patF (3:Nat) false 3 1 xs.tail).1 [] []).2.2;have h3:=side_size 21 (numF (patF (3:Nat) false 3 1 xs.tail).1 [] []).1;have h4:=patF_size (numF (patF (3:Nat) false 3 1 xs.tail).1 [] []).2.1.length false 2 1 (patF (3:Nat) false 3 1 xs.tail).2;have h5:=kConds_len (xs.headD 0) (numF (patF (3:Nat) false 3 1 xs.tail).1 [] []).2.1.length;simp only [kSize] at h1 h4;unfold kRuleF;dsimp only
 split
 ·exact ⟨by dsimp only;omega,by dsimp only;rw [Pt.size_leaf];omega,by simp,by dsimp only;omega⟩
 ·exact ⟨by dsimp only;omega,by dsimp only;omega,by dsimp only;omega,by dsimp only;omega⟩
theorem CondsV.sl {w:World} {F:Nat→Prop} {A:Option Addr} {cs:List Cd} (h:CondsV w F A cs):Sl w F A (ccells cs):=by
 rcases h with h | ⟨b,o,e,hF,h⟩
 ·subst h;exact .inl rfl
 ·refine .inr ⟨b,o,e,hF,fun j hj=>?_⟩;rw [ccells_len] at hj;obtain ⟨i,k,hk,rfl⟩:∃i k,k<4∧j=i * 4+k:=⟨j / 4,j % 4,by omega,by omega⟩;have hi:i<cs.length:=by omega
  obtain ⟨c0,c1,c2,c3⟩:=h i hi;obtain ⟨d0,d1,d2,d3⟩:=ccells_get cs i hi
  have key:∀u,(ccells cs)[i * 4+k]?=some u→w.cell? ⟨b,o+(i * 4+k),none⟩=some u→w.cell? ⟨b,o+(i * 4+k),none⟩=some ((ccells cs)[i * 4+k]'(by rw [ccells_len];omega)):=fun u h1 h2=>by
   rw [List.getElem?_eq_getElem (by rw [ccells_len];omega)] at h1;injection h1 with h1
   rw [h1,h2]
  rcases (by omega:k=0∨k=1∨k=2∨k=3) with rfl | rfl | rfl | rfl
  ·exact key _ d0 c0
  ·exact key _ d1 c1
  ·exact key _ d2 c2
  ·exact key _ d3 c3
theorem ccells_one (cs:List Cd):∀u∈ccells cs,u.oneCell'=true:=by
 intro u hu;obtain ⟨c,_,h⟩:=List.mem_flatMap.1 hu;simp [ccell] at h;rcases h with h | h | h | h <;> subst h <;> rfl
def MrP (w:World) (e:Ending) (w':World):Prop:=∃(r:Rl) (a:RlA),e=.returned (rlv r a)∧RlK w' (fun k=>w.heap.size≤k) r a∧RlSm r∧RlI r∧Upd Non w w'
def MrJ (n0 g N:Nat) (W w':World):Prop:=∃(r:Rl) (a:RlA),Blk w' g 43 (rlCells r a)∧RlK w' (fun k=>n0<k∧k≠g) r a∧RlSm r∧RlI r∧r.conds.length≤N∧Upd (fun k=>k=g) W w'
def MrX (n0 g:Nat) (W w':World):Prop:=∃(r:Rl) (a:RlA),Blk w' g 43 (rlCells r a)∧RlK w' (fun k=>n0<k∧k≠g) r a∧RlSm r∧RlI r∧Upd (fun k=>k=g) W w'
def nm6:List ByteArray:=[⟨#[]⟩,⟨#[65]⟩,⟨#[97,32,98]⟩,⟨#[116,111,111,108,111,110,103,110,97,109,101,45,116,111,111,108,111,110,103]⟩,⟨#[48]⟩,⟨#[45]⟩]
theorem nm6_sz:∀s∈nm6,s.size≤19:=by decide
set_option maxRecDepth 100000 in
set_option maxHeartbeats 4000000 in
theorem l17Mutate_1 (w:World) (F:Nat→Prop) (A:Option Addr) (c:Nat) (xs:List Int) (how at_:Int) (hx:Ints w F A xs) (hc:xs.length≤c) (hI:∀x∈xs,I64 x) (hn:xs.length≤100000000000000) (hsel:how % 10<2):Calls Tryz.prog 16 #[.slice A xs.length c,.int .i64 how,.int .i64 at_] w (MrP w):=by
 obtain ⟨W1,HW1⟩:=nm (w.alloc (.cells #[.string ⟨#[]⟩,.int .i64 0,.int .i64 0,.int .i64 0,.int .i64 0,.slice none 0 0,.int .i64 0,.int .i64 0,.int .i64 0,.int .i64 0,.slice none 0 0,.slice none 0 0,.int .i64 0,.int .i64 0] 43))
 have u1:Upd Non w W1:=by rw [←HW1.out];exact Upd.refl.alloc _
 have b1:Blk W1 w.heap.size 43 #[.string ⟨#[]⟩,.int .i64 0,.int .i64 0,.int .i64 0,.int .i64 0,.slice none 0 0,.int .i64 0,.int .i64 0,.int .i64 0,.int .i64 0,.slice none 0 0,.slice none 0 0,.int .i64 0,.int .i64 0]:=by rw [←HW1.out];exact Blk.new _ _ _
 have s1:W1.heap.size=w.heap.size+1:=by rw [←HW1.out];simp
 have e1:=HW1.out;have CK:=h_ (kRule_c W1 F A c xs (kstr [114,117,108,101]) (hx.upd u1 (fun _ _ _ f=>f)) hc hI hn);have HSM:=h_ (kRule_sm (kstr [114,117,108,101]) (by rw [kstr_size];decide) (xs.take 40));have HRI:=h_ (kRule_i (kstr [114,117,108,101]) (xs.take 40) (fun x hx=>hI x (List.mem_of_mem_take hx)));obtain ⟨r,Hr⟩:=nm (kRuleF (kstr [114,117,108,101]) (xs.take 40));rw [Hr.out] at CK HSM HRI;obtain ⟨n,Hn⟩:=nm xs.length;rw [Hn.out] at CK ⊢;have HB1:=h_ b1;have HU1:=h_ u1;have C (d:Int) (h0:0<d) (h1:d≤1000):=h_ (fun (m:Int) W=>pick_c m d W h0 (by omega));have C10:=C 10 (by omega) (by omega);have C9:=C 9 (by omega) (by omega);have C8:=C 8 (by omega) (by omega);have C6:=C 6 (by omega) (by omega);have C4:=C 4 (by omega) (by omega);have C2:=C 2 (by omega) (by omega);obtain ⟨m,hm⟩:∃m:Nat,how % 10=(m:Int):=Int.eq_ofNat_of_zero_le (by omega);have hm10:m<2:=by omega
 have CM:=h_ (C10.out how);rw [hm] at CM;clear hsel hx hc hI hn b1 u1 hm C C10;go_enter Tryz.func16,Tryz.ntmps16;go_wp2_with fail
 refine CK.out.mono ?_;rintro e w3 ⟨a,rfl,hk3,u3⟩;clear CK e1;obtain ⟨X,HX⟩:=nm (w3.alloc (.cells (rlCells r a) 43));have uX:Upd Non w3 X:=by rw [←HX.out];exact Upd.refl.alloc _
 have bX:Blk X w3.heap.size 43 (rlCells r a):=by rw [←HX.out];exact Blk.new _ _ _
 have hs3:w.heap.size<w3.heap.size:=by have:=u3.size;omega
 have HBX:=h_ bX;have HKX:Hid (RlK X (fun k=>w.heap.size<k∧k≠w3.heap.size) r a):=(hk3.mono (G:=fun k=>w.heap.size<k∧k≠w3.heap.size) (fun k hk h=>⟨by omega,by omega⟩)).upd uX (fun _ _ _ f=>f)
 have HU:=h_ ((HU1.out.then_non u3).then_non uX);have HZ0:=h_ ((HB1.out.upd u3 (fun f=>f)).upd uX (fun f=>f));have HX0:Hid (MrX w.heap.size w3.heap.size X X):=⟨r,a,HBX.out,HKX.out,⟨by have:=HSM.out.1;omega,by have:=HSM.out.2.1;omega,by have:=HSM.out.2.2.1;omega,HSM.out.2.2.2⟩,HRI.out,Upd.refl⟩
 have eX:=HX.out;unfold rlCells at eX;unfold rlv rlCells;have CMX:=h_ (CM.out X);clear hk3 u3 uX bX CM HX
 go_upto_region 2 with fail
 try rw [eX]
 clear eX;go_wp2_with fail
 refine CMX.out.mono ?_;rintro e w4 ⟨rfl,rfl⟩;clear CMX;rcases (by omega:m=0∨m=1) with rfl | rfl
 ·have CL:=h_ (fun (h a':Int)=>l15Mutate_c r.l h a' X _ a.la a.lc HKX.out.l HRI.out.l (by have:=HSM.out.1;omega));unfold pv at CL;have d0:=HBX.out.cell 1;unfold rlCells at d0;have d1:=HBX.out.cell 2;unfold rlCells at d1;have d2:=HBX.out.cell 3;unfold rlCells at d2;have d3:=HBX.out.cell 4;unfold rlCells at d3;have d4:=HBX.out.cell 5;unfold rlCells at d4;have b0:=HBX.out;unfold rlCells at b0;have fz:=b0.frozen;clear b0;go_wp2_with fail
  refine (CL.out _ _).mono ?_;rintro e w5 ⟨q,KQ,kq,rfl,hq,hqs,hqi,u5⟩;clear CL d0 d1 d2 d3 d4;have b5:=HBX.out.upd u5 (fun f=>f);unfold rlCells at b5;have d0:=b5.cell 1;have d1:=b5.cell 2;have d2:=b5.cell 3;have d3:=b5.cell 4;have d4:=b5.cell 5;have fz5:=b5.frozen;unfold pv;obtain ⟨X1,HX1⟩:=nm (setLf w5 w3.heap.size (.int .i64 q.v) (.int .i64 q.op) (.int .i64 q.imm) (.int .i64 q.iv) (.slice KQ q.kids.length kq))
  have hX:MrX w.heap.size w3.heap.size X X1:=by
   have ux1:Upd (fun k=>k=w3.heap.size) w5 X1:=by rw [←HX1.out];exact setLf_upd _ _ _ _ _ _ _
   have uxx:Upd (fun k=>k=w3.heap.size) X X1:=(u5.mono (fun _ _ f=>f.elim)).trans ux1 (fun _ _ h=>h);have hbx:=setLf_blk b5 (.int .i64 q.v) (.int .i64 q.op) (.int .i64 q.imm) (.int .i64 q.iv) (.slice KQ q.kids.length kq);rw [HX1.out] at hbx;have HKY:=HKX.out.upd uxx (fun k _ h e=>h.2 e);have hXs:w3.heap.size<X.heap.size:=HBX.out.lt;have hq1:=PtK.mono (G:=fun k=>w.heap.size<k∧k≠w3.heap.size) (fun k _ h=>by rcases h with h | h;exact h;exact ⟨by omega,by omega⟩) _ _ _ hq
   have hq2:=PtK.upd ux1 (fun k _ h e=>h.2 e) _ _ _ hq1;exact ⟨⟨r.name,q,r.r,r.conds,r.vars,r.imms⟩,⟨KQ,kq,a.ra,a.rc,a.ca,a.cc⟩,hbx,⟨hq2,HKY.r,HKY.c,HKY.le⟩,⟨by have:=HSM.out.1;dsimp only;omega,by have:=HSM.out.2.1;dsimp only;omega,by have:=HSM.out.2.2.1;dsimp only;omega,HSM.out.2.2.2⟩,⟨hqi,HRI.out.r,HRI.out.c⟩,uxx⟩
  clear hq hqs u5
  go_upto_region 20 with fail
  rw [setLf_eq,HX1.out];clear HX1 fz5 d0 d1 d2 d3 d4
  go_upto_region 20 with fail
  obtain ⟨r9,a9,hbx,hk9,hs9,hi9,hux⟩:=hX;have hbz:=HZ0.out.upd hux (by omega);unfold rlCells at hbx;have y0:=hbx.cell 0;have y1:=hbx.cell 1;have y2:=hbx.cell 2;have y3:=hbx.cell 3;have y4:=hbx.cell 4;have y5:=hbx.cell 5;have y6:=hbx.cell 6;have y7:=hbx.cell 7;have y8:=hbx.cell 8;have y9:=hbx.cell 9;have y10:=hbx.cell 10;have y11:=hbx.cell 11;have y12:=hbx.cell 12;have y13:=hbx.cell 13;have z0:=hbz.cell 0;have z1:=hbz.cell 1;have z2:=hbz.cell 2;have z3:=hbz.cell 3;have z4:=hbz.cell 4;have z5:=hbz.cell 5;have z6:=hbz.cell 6;have z7:=hbz.cell 7;have z8:=hbz.cell 8;have z9:=hbz.cell 9;have z10:=hbz.cell 10;have z11:=hbz.cell 11;have z12:=hbz.cell 12;have z13:=hbz.cell 13;have rf:=hbx.frozen;have zf:=hbz.frozen;have HZ:=h_ hbz;have HK9:=h_ hk9;have HS9:=h_ hs9;have HI9:=h_ hi9;have HUX:=h_ hux;clear hbz hbx hk9 hs9 hi9 hux;go_wp2_with fail
  rw [set14_eq];refine bodyPost_ret (results_cell_row rfl _ _ w.heap.size 43 _ (0,0) _ rfl (set14_blk HZ.out _ _ _ _ _ _ _ _ _ _ _ _ _ _) Tryz.underlying43 rfl (by kernel_rfl)) rfl ?_
  refine ⟨r9,a9,rfl,?_,HS9.out,HI9.out,?_⟩
  ·exact (HK9.out.upd (set14_upd _ _ _ _ _ _ _ _ _ _ _ _ _ _ _ _) (fun k _ h e=>by have:=h.1;omega)).mono (fun k _ h=>by have:=h.1;omega)
  ·exact (HU.out.trans HUX.out (fun k hk e=>by omega)).trans (set14_upd _ _ _ _ _ _ _ _ _ _ _ _ _ _ _ _) (fun k hk e=>by omega)
 ·have CL:=h_ (fun (h a':Int)=>l15Mutate_c r.r h a' X _ a.ra a.rc HKX.out.r HRI.out.r (by have:=HSM.out.2.1;omega));unfold pv at CL;have d0:=HBX.out.cell 6;unfold rlCells at d0;have d1:=HBX.out.cell 7;unfold rlCells at d1;have d2:=HBX.out.cell 8;unfold rlCells at d2;have d3:=HBX.out.cell 9;unfold rlCells at d3;have d4:=HBX.out.cell 10;unfold rlCells at d4;have b0:=HBX.out;unfold rlCells at b0;have fz:=b0.frozen;clear b0;go_wp2_with fail
  refine (CL.out _ _).mono ?_;rintro e w5 ⟨q,KQ,kq,rfl,hq,hqs,hqi,u5⟩;clear CL d0 d1 d2 d3 d4;have b5:=HBX.out.upd u5 (fun f=>f);unfold rlCells at b5;have d0:=b5.cell 6;have d1:=b5.cell 7;have d2:=b5.cell 8;have d3:=b5.cell 9;have d4:=b5.cell 10;have fz5:=b5.frozen;unfold pv;obtain ⟨X1,HX1⟩:=nm (setRt w5 w3.heap.size (.int .i64 q.v) (.int .i64 q.op) (.int .i64 q.imm) (.int .i64 q.iv) (.slice KQ q.kids.length kq))
  have hX:MrX w.heap.size w3.heap.size X X1:=by
   have ux1:Upd (fun k=>k=w3.heap.size) w5 X1:=by rw [←HX1.out];exact setRt_upd _ _ _ _ _ _ _
   have uxx:Upd (fun k=>k=w3.heap.size) X X1:=(u5.mono (fun _ _ f=>f.elim)).trans ux1 (fun _ _ h=>h);have hbx:=setRt_blk b5 (.int .i64 q.v) (.int .i64 q.op) (.int .i64 q.imm) (.int .i64 q.iv) (.slice KQ q.kids.length kq);rw [HX1.out] at hbx;have HKY:=HKX.out.upd uxx (fun k _ h e=>h.2 e);have hXs:w3.heap.size<X.heap.size:=HBX.out.lt;have hq1:=PtK.mono (G:=fun k=>w.heap.size<k∧k≠w3.heap.size) (fun k _ h=>by rcases h with h | h;exact h;exact ⟨by omega,by omega⟩) _ _ _ hq
   have hq2:=PtK.upd ux1 (fun k _ h e=>h.2 e) _ _ _ hq1;exact ⟨⟨r.name,r.l,q,r.conds,r.vars,r.imms⟩,⟨a.la,a.lc,KQ,kq,a.ca,a.cc⟩,hbx,⟨HKY.l,hq2,HKY.c,HKY.le⟩,⟨by have:=HSM.out.1;dsimp only;omega,by have:=HSM.out.2.1;dsimp only;omega,by have:=HSM.out.2.2.1;dsimp only;omega,HSM.out.2.2.2⟩,⟨HRI.out.l,hqi,HRI.out.c⟩,uxx⟩
  clear hq hqs u5
  go_upto_region 20 with fail
  rw [setRt_eq,HX1.out];clear HX1 fz5 d0 d1 d2 d3 d4
  go_upto_region 20 with fail
  obtain ⟨r9,a9,hbx,hk9,hs9,hi9,hux⟩:=hX;have hbz:=HZ0.out.upd hux (by omega);unfold rlCells at hbx;have y0:=hbx.cell 0;have y1:=hbx.cell 1;have y2:=hbx.cell 2;have y3:=hbx.cell 3;have y4:=hbx.cell 4;have y5:=hbx.cell 5;have y6:=hbx.cell 6;have y7:=hbx.cell 7;have y8:=hbx.cell 8;have y9:=hbx.cell 9;have y10:=hbx.cell 10;have y11:=hbx.cell 11;have y12:=hbx.cell 12;have y13:=hbx.cell 13;have z0:=hbz.cell 0;have z1:=hbz.cell 1;have z2:=hbz.cell 2;have z3:=hbz.cell 3;have z4:=hbz.cell 4;have z5:=hbz.cell 5;have z6:=hbz.cell 6;have z7:=hbz.cell 7;have z8:=hbz.cell 8;have z9:=hbz.cell 9;have z10:=hbz.cell 10;have z11:=hbz.cell 11;have z12:=hbz.cell 12;have z13:=hbz.cell 13;have rf:=hbx.frozen;have zf:=hbz.frozen;have HZ:=h_ hbz;have HK9:=h_ hk9;have HS9:=h_ hs9;have HI9:=h_ hi9;have HUX:=h_ hux;clear hbz hbx hk9 hs9 hi9 hux;go_wp2_with fail
  rw [set14_eq];refine bodyPost_ret (results_cell_row rfl _ _ w.heap.size 43 _ (0,0) _ rfl (set14_blk HZ.out _ _ _ _ _ _ _ _ _ _ _ _ _ _) Tryz.underlying43 rfl (by kernel_rfl)) rfl ?_
  refine ⟨r9,a9,rfl,?_,HS9.out,HI9.out,?_⟩
  ·exact (HK9.out.upd (set14_upd _ _ _ _ _ _ _ _ _ _ _ _ _ _ _ _) (fun k _ h e=>by have:=h.1;omega)).mono (fun k _ h=>by have:=h.1;omega)
  ·exact (HU.out.trans HUX.out (fun k hk e=>by omega)).trans (set14_upd _ _ _ _ _ _ _ _ _ _ _ _ _ _ _ _) (fun k hk e=>by omega)
set_option maxRecDepth 100000 in
set_option maxHeartbeats 4000000 in
theorem l17Mutate_2 (w:World) (F:Nat→Prop) (A:Option Addr) (c:Nat) (xs:List Int) (how at_:Int) (hx:Ints w F A xs) (hc:xs.length≤c) (hI:∀x∈xs,I64 x) (hn:xs.length≤100000000000000) (hsel:2≤how % 10∧how % 10<5):Calls Tryz.prog 16 #[.slice A xs.length c,.int .i64 how,.int .i64 at_] w (MrP w):=by
 obtain ⟨W1,HW1⟩:=nm (w.alloc (.cells #[.string ⟨#[]⟩,.int .i64 0,.int .i64 0,.int .i64 0,.int .i64 0,.slice none 0 0,.int .i64 0,.int .i64 0,.int .i64 0,.int .i64 0,.slice none 0 0,.slice none 0 0,.int .i64 0,.int .i64 0] 43))
 have u1:Upd Non w W1:=by rw [←HW1.out];exact Upd.refl.alloc _
 have b1:Blk W1 w.heap.size 43 #[.string ⟨#[]⟩,.int .i64 0,.int .i64 0,.int .i64 0,.int .i64 0,.slice none 0 0,.int .i64 0,.int .i64 0,.int .i64 0,.int .i64 0,.slice none 0 0,.slice none 0 0,.int .i64 0,.int .i64 0]:=by rw [←HW1.out];exact Blk.new _ _ _
 have s1:W1.heap.size=w.heap.size+1:=by rw [←HW1.out];simp
 have e1:=HW1.out;have CK:=h_ (kRule_c W1 F A c xs (kstr [114,117,108,101]) (hx.upd u1 (fun _ _ _ f=>f)) hc hI hn);have HSM:=h_ (kRule_sm (kstr [114,117,108,101]) (by rw [kstr_size];decide) (xs.take 40));have HRI:=h_ (kRule_i (kstr [114,117,108,101]) (xs.take 40) (fun x hx=>hI x (List.mem_of_mem_take hx)));obtain ⟨r,Hr⟩:=nm (kRuleF (kstr [114,117,108,101]) (xs.take 40));rw [Hr.out] at CK HSM HRI;obtain ⟨n,Hn⟩:=nm xs.length;rw [Hn.out] at CK ⊢;have HB1:=h_ b1;have HU1:=h_ u1;have C (d:Int) (h0:0<d) (h1:d≤1000):=h_ (fun (m:Int) W=>pick_c m d W h0 (by omega));have C10:=C 10 (by omega) (by omega);have C9:=C 9 (by omega) (by omega);have C8:=C 8 (by omega) (by omega);have C6:=C 6 (by omega) (by omega);have C4:=C 4 (by omega) (by omega);have C2:=C 2 (by omega) (by omega);obtain ⟨m,hm⟩:∃m:Nat,how % 10=(m:Int):=Int.eq_ofNat_of_zero_le (by omega);have hm10:2≤m∧m<5:=by omega
 have CM:=h_ (C10.out how);rw [hm] at CM;clear hsel hx hc hI hn b1 u1 hm C C10;go_enter Tryz.func16,Tryz.ntmps16;go_wp2_with fail
 refine CK.out.mono ?_;rintro e w3 ⟨a,rfl,hk3,u3⟩;clear CK e1;obtain ⟨X,HX⟩:=nm (w3.alloc (.cells (rlCells r a) 43));have uX:Upd Non w3 X:=by rw [←HX.out];exact Upd.refl.alloc _
 have bX:Blk X w3.heap.size 43 (rlCells r a):=by rw [←HX.out];exact Blk.new _ _ _
 have hs3:w.heap.size<w3.heap.size:=by have:=u3.size;omega
 have HBX:=h_ bX;have HKX:Hid (RlK X (fun k=>w.heap.size<k∧k≠w3.heap.size) r a):=(hk3.mono (G:=fun k=>w.heap.size<k∧k≠w3.heap.size) (fun k hk h=>⟨by omega,by omega⟩)).upd uX (fun _ _ _ f=>f)
 have HU:=h_ ((HU1.out.then_non u3).then_non uX);have HZ0:=h_ ((HB1.out.upd u3 (fun f=>f)).upd uX (fun f=>f));have HX0:Hid (MrX w.heap.size w3.heap.size X X):=⟨r,a,HBX.out,HKX.out,⟨by have:=HSM.out.1;omega,by have:=HSM.out.2.1;omega,by have:=HSM.out.2.2.1;omega,HSM.out.2.2.2⟩,HRI.out,Upd.refl⟩
 have eX:=HX.out;unfold rlCells at eX;unfold rlv rlCells;have CMX:=h_ (CM.out X);clear hk3 u3 uX bX CM HX
 go_upto_region 2 with fail
 try rw [eX]
 clear eX;go_wp2_with fail
 refine CMX.out.mono ?_;rintro e w4 ⟨rfl,rfl⟩;clear CMX;rcases (by omega:m=2∨m=3∨m=4) with rfl | rfl | rfl
 ·obtain ⟨y,hy⟩:∃y:Nat,wrap64 (how.tdiv 10) % 9=(y:Int):=Int.eq_ofNat_of_zero_le (Int.emod_nonneg _ (by decide));have hy9:y<9:=by omega
  have CX:=h_ (C9.out (wrap64 (how.tdiv 10)) X);rw [hy] at CX;clear hy;have cI:=HBX.out.cell 12;have fI:=HBX.out.frozen 12;unfold rlCells at cI;go_wp2_with fail
  refine CX.out.mono ?_;rintro e w5 ⟨rfl,rfl⟩;clear CX;obtain ⟨X1,HX1⟩:=nm (X.setCell ⟨w3.heap.size,12,none⟩ (.int .i64 ((y:Int) - 1)))
  have hX:MrX w.heap.size w3.heap.size X X1:=by
   have ux1:Upd (fun k=>k=w3.heap.size) X X1:=by rw [←HX1.out];exact updCell _ _ _ _
   have uxx:Upd (fun k=>k=w3.heap.size) X X1:=(Upd.refl).trans ux1 (fun _ _ h=>h);have hbx:=(HBX.out.upd (Upd.refl (S:=Non)) (fun f=>f)).set_ 12 (.int .i64 ((y:Int) - 1));rw [HX1.out] at hbx;have HKY:=HKX.out.upd uxx (fun k _ h e=>h.2 e);have HSM2:r.l.size≤2000∧r.r.size≤2000∧r.conds.length≤20∧r.name.size≤100:=⟨by have:=HSM.out.1;omega,by have:=HSM.out.2.1;omega,by have:=HSM.out.2.2.1;omega,HSM.out.2.2.2⟩
   refine ⟨⟨r.name,r.l,r.r,r.conds,(y:Int) - 1,r.imms⟩,a,?_,⟨HKY.l,HKY.r,HKY.c,HKY.le⟩,⟨HSM2.1,HSM2.2.1,HSM2.2.2.1,HSM2.2.2.2⟩,⟨HRI.out.l,HRI.out.r,HRI.out.c⟩,uxx⟩
   unfold rlCells at hbx ⊢;simpa using hbx
  go_upto_region 20 with fail
  rw [HX1.out];clear HX1
  go_upto_region 20 with fail
  obtain ⟨r9,a9,hbx,hk9,hs9,hi9,hux⟩:=hX;have hbz:=HZ0.out.upd hux (by omega);unfold rlCells at hbx;have y0:=hbx.cell 0;have y1:=hbx.cell 1;have y2:=hbx.cell 2;have y3:=hbx.cell 3;have y4:=hbx.cell 4;have y5:=hbx.cell 5;have y6:=hbx.cell 6;have y7:=hbx.cell 7;have y8:=hbx.cell 8;have y9:=hbx.cell 9;have y10:=hbx.cell 10;have y11:=hbx.cell 11;have y12:=hbx.cell 12;have y13:=hbx.cell 13;have z0:=hbz.cell 0;have z1:=hbz.cell 1;have z2:=hbz.cell 2;have z3:=hbz.cell 3;have z4:=hbz.cell 4;have z5:=hbz.cell 5;have z6:=hbz.cell 6;have z7:=hbz.cell 7;have z8:=hbz.cell 8;have z9:=hbz.cell 9;have z10:=hbz.cell 10;have z11:=hbz.cell 11;have z12:=hbz.cell 12;have z13:=hbz.cell 13;have rf:=hbx.frozen;have zf:=hbz.frozen;have HZ:=h_ hbz;have HK9:=h_ hk9;have HS9:=h_ hs9;have HI9:=h_ hi9;have HUX:=h_ hux;clear hbz hbx hk9 hs9 hi9 hux;go_wp2_with fail
  rw [set14_eq];refine bodyPost_ret (results_cell_row rfl _ _ w.heap.size 43 _ (0,0) _ rfl (set14_blk HZ.out _ _ _ _ _ _ _ _ _ _ _ _ _ _) Tryz.underlying43 rfl (by kernel_rfl)) rfl ?_
  refine ⟨r9,a9,rfl,?_,HS9.out,HI9.out,?_⟩
  ·exact (HK9.out.upd (set14_upd _ _ _ _ _ _ _ _ _ _ _ _ _ _ _ _) (fun k _ h e=>by have:=h.1;omega)).mono (fun k _ h=>by have:=h.1;omega)
  ·exact (HU.out.trans HUX.out (fun k hk e=>by omega)).trans (set14_upd _ _ _ _ _ _ _ _ _ _ _ _ _ _ _ _) (fun k hk e=>by omega)
 ·obtain ⟨y,hy⟩:∃y:Nat,wrap64 (how.tdiv 10) % 4=(y:Int):=Int.eq_ofNat_of_zero_le (Int.emod_nonneg _ (by decide));have hy9:y<4:=by omega
  have CX:=h_ (C4.out (wrap64 (how.tdiv 10)) X);rw [hy] at CX;clear hy;have cI:=HBX.out.cell 13;have fI:=HBX.out.frozen 13;unfold rlCells at cI;go_wp2_with fail
  refine CX.out.mono ?_;rintro e w5 ⟨rfl,rfl⟩;clear CX;obtain ⟨X1,HX1⟩:=nm (X.setCell ⟨w3.heap.size,13,none⟩ (.int .i64 ((y:Int) - 1)))
  have hX:MrX w.heap.size w3.heap.size X X1:=by
   have ux1:Upd (fun k=>k=w3.heap.size) X X1:=by rw [←HX1.out];exact updCell _ _ _ _
   have uxx:Upd (fun k=>k=w3.heap.size) X X1:=(Upd.refl).trans ux1 (fun _ _ h=>h);have hbx:=(HBX.out.upd (Upd.refl (S:=Non)) (fun f=>f)).set_ 13 (.int .i64 ((y:Int) - 1));rw [HX1.out] at hbx;have HKY:=HKX.out.upd uxx (fun k _ h e=>h.2 e);have HSM2:r.l.size≤2000∧r.r.size≤2000∧r.conds.length≤20∧r.name.size≤100:=⟨by have:=HSM.out.1;omega,by have:=HSM.out.2.1;omega,by have:=HSM.out.2.2.1;omega,HSM.out.2.2.2⟩
   refine ⟨⟨r.name,r.l,r.r,r.conds,r.vars,(y:Int) - 1⟩,a,?_,⟨HKY.l,HKY.r,HKY.c,HKY.le⟩,⟨HSM2.1,HSM2.2.1,HSM2.2.2.1,HSM2.2.2.2⟩,⟨HRI.out.l,HRI.out.r,HRI.out.c⟩,uxx⟩
   unfold rlCells at hbx ⊢;simpa using hbx
  go_upto_region 20 with fail
  rw [HX1.out];clear HX1
  go_upto_region 20 with fail
  obtain ⟨r9,a9,hbx,hk9,hs9,hi9,hux⟩:=hX;have hbz:=HZ0.out.upd hux (by omega);unfold rlCells at hbx;have y0:=hbx.cell 0;have y1:=hbx.cell 1;have y2:=hbx.cell 2;have y3:=hbx.cell 3;have y4:=hbx.cell 4;have y5:=hbx.cell 5;have y6:=hbx.cell 6;have y7:=hbx.cell 7;have y8:=hbx.cell 8;have y9:=hbx.cell 9;have y10:=hbx.cell 10;have y11:=hbx.cell 11;have y12:=hbx.cell 12;have y13:=hbx.cell 13;have z0:=hbz.cell 0;have z1:=hbz.cell 1;have z2:=hbz.cell 2;have z3:=hbz.cell 3;have z4:=hbz.cell 4;have z5:=hbz.cell 5;have z6:=hbz.cell 6;have z7:=hbz.cell 7;have z8:=hbz.cell 8;have z9:=hbz.cell 9;have z10:=hbz.cell 10;have z11:=hbz.cell 11;have z12:=hbz.cell 12;have z13:=hbz.cell 13;have rf:=hbx.frozen;have zf:=hbz.frozen;have HZ:=h_ hbz;have HK9:=h_ hk9;have HS9:=h_ hs9;have HI9:=h_ hi9;have HUX:=h_ hux;clear hbz hbx hk9 hs9 hi9 hux;go_wp2_with fail
  rw [set14_eq];refine bodyPost_ret (results_cell_row rfl _ _ w.heap.size 43 _ (0,0) _ rfl (set14_blk HZ.out _ _ _ _ _ _ _ _ _ _ _ _ _ _) Tryz.underlying43 rfl (by kernel_rfl)) rfl ?_
  refine ⟨r9,a9,rfl,?_,HS9.out,HI9.out,?_⟩
  ·exact (HK9.out.upd (set14_upd _ _ _ _ _ _ _ _ _ _ _ _ _ _ _ _) (fun k _ h e=>by have:=h.1;omega)).mono (fun k _ h=>by have:=h.1;omega)
  ·exact (HU.out.trans HUX.out (fun k hk e=>by omega)).trans (set14_upd _ _ _ _ _ _ _ _ _ _ _ _ _ _ _ _) (fun k hk e=>by omega)
 ·obtain ⟨y,hy⟩:∃y:Nat,wrap64 (how.tdiv 10) % 6=(y:Int):=Int.eq_ofNat_of_zero_le (Int.emod_nonneg _ (by decide));have hy6:y<6:=by omega
  have hyl:y<nm6.length:=hy6;obtain ⟨Y,HY⟩:=nm (X.alloc (.cells #[.string ⟨#[]⟩,.string ⟨#[65]⟩,.string ⟨#[97,32,98]⟩,.string ⟨#[116,111,111,108,111,110,103,110,97,109,101,45,116,111,111,108,111,110,103]⟩,.string ⟨#[48]⟩,.string ⟨#[45]⟩] 9))
  have uY:Upd Non X Y:=by rw [←HY.out];exact Upd.refl.alloc _
  have bY:Blk Y X.heap.size 9 (nm6.map fun z=>Value.string z).toArray:=by rw [←HY.out];exact Blk.new _ _ _
  have CX:=h_ (C6.out (wrap64 (how.tdiv 10)) Y);rw [hy] at CX;clear hy
  have hcell:Y.cell? ⟨X.heap.size,y,none⟩=some (.string nm6[y]):=by
   rw [bY.cell];simp [hyl]
  have HN6:Hid (nm6[y].size≤100):=by show _≤_;have:=nm6_sz _ (List.getElem_mem hyl);omega
  obtain ⟨nz,Hnz⟩:=nm nm6[y];rw [Hnz.out] at hcell HN6;have HUY:=h_ uY;have bx:=HBX.out.upd uY (fun f=>f);have cI:=bx.cell 0;have fI:=bx.frozen 0;have eY:=HY.out;unfold rlCells at cI;clear bY uY bx;go_wp2_with fail
  refine CX.out.mono ?_;rintro e w5 ⟨rfl,rfl⟩;clear CX;obtain ⟨X1,HX1⟩:=nm (Y.setCell ⟨w3.heap.size,0,none⟩ (.string nz))
  have hX:MrX w.heap.size w3.heap.size X X1:=by
   have ux1:Upd (fun k=>k=w3.heap.size) Y X1:=by rw [←HX1.out];exact updCell _ _ _ _
   have uxx:Upd (fun k=>k=w3.heap.size) X X1:=((HUY.out).mono (fun _ _ f=>f.elim)).trans ux1 (fun _ _ h=>h);have hbx:=(HBX.out.upd (HUY.out) (fun f=>f)).set_ 0 (.string nz);rw [HX1.out] at hbx;have HKY:=HKX.out.upd uxx (fun k _ h e=>h.2 e);have HSM2:r.l.size≤2000∧r.r.size≤2000∧r.conds.length≤20∧r.name.size≤100:=⟨by have:=HSM.out.1;omega,by have:=HSM.out.2.1;omega,by have:=HSM.out.2.2.1;omega,HSM.out.2.2.2⟩
   refine ⟨⟨nz,r.l,r.r,r.conds,r.vars,r.imms⟩,a,?_,⟨HKY.l,HKY.r,HKY.c,HKY.le⟩,⟨HSM2.1,HSM2.2.1,HSM2.2.2.1,HN6.out⟩,⟨HRI.out.l,HRI.out.r,HRI.out.c⟩,uxx⟩
   unfold rlCells at hbx ⊢;simpa using hbx
  go_upto_region 20 with fail
  rw [HX1.out];clear HX1
  go_upto_region 20 with fail
  obtain ⟨r9,a9,hbx,hk9,hs9,hi9,hux⟩:=hX;have hbz:=HZ0.out.upd hux (by omega);unfold rlCells at hbx;have y0:=hbx.cell 0;have y1:=hbx.cell 1;have y2:=hbx.cell 2;have y3:=hbx.cell 3;have y4:=hbx.cell 4;have y5:=hbx.cell 5;have y6:=hbx.cell 6;have y7:=hbx.cell 7;have y8:=hbx.cell 8;have y9:=hbx.cell 9;have y10:=hbx.cell 10;have y11:=hbx.cell 11;have y12:=hbx.cell 12;have y13:=hbx.cell 13;have z0:=hbz.cell 0;have z1:=hbz.cell 1;have z2:=hbz.cell 2;have z3:=hbz.cell 3;have z4:=hbz.cell 4;have z5:=hbz.cell 5;have z6:=hbz.cell 6;have z7:=hbz.cell 7;have z8:=hbz.cell 8;have z9:=hbz.cell 9;have z10:=hbz.cell 10;have z11:=hbz.cell 11;have z12:=hbz.cell 12;have z13:=hbz.cell 13;have rf:=hbx.frozen;have zf:=hbz.frozen;have HZ:=h_ hbz;have HK9:=h_ hk9;have HS9:=h_ hs9;have HI9:=h_ hi9;have HUX:=h_ hux;clear hbz hbx hk9 hs9 hi9 hux;go_wp2_with fail
  rw [set14_eq];refine bodyPost_ret (results_cell_row rfl _ _ w.heap.size 43 _ (0,0) _ rfl (set14_blk HZ.out _ _ _ _ _ _ _ _ _ _ _ _ _ _) Tryz.underlying43 rfl (by kernel_rfl)) rfl ?_
  refine ⟨r9,a9,rfl,?_,HS9.out,HI9.out,?_⟩
  ·exact (HK9.out.upd (set14_upd _ _ _ _ _ _ _ _ _ _ _ _ _ _ _ _) (fun k _ h e=>by have:=h.1;omega)).mono (fun k _ h=>by have:=h.1;omega)
  ·exact (HU.out.trans HUX.out (fun k hk e=>by omega)).trans (set14_upd _ _ _ _ _ _ _ _ _ _ _ _ _ _ _ _) (fun k hk e=>by omega)
set_option maxRecDepth 100000 in
set_option maxHeartbeats 4000000 in
theorem l17Mutate_3 (w:World) (F:Nat→Prop) (A:Option Addr) (c:Nat) (xs:List Int) (how at_:Int) (hx:Ints w F A xs) (hc:xs.length≤c) (hI:∀x∈xs,I64 x) (hn:xs.length≤100000000000000) (hsel:how % 10=5):Calls Tryz.prog 16 #[.slice A xs.length c,.int .i64 how,.int .i64 at_] w (MrP w):=by
 obtain ⟨W1,HW1⟩:=nm (w.alloc (.cells #[.string ⟨#[]⟩,.int .i64 0,.int .i64 0,.int .i64 0,.int .i64 0,.slice none 0 0,.int .i64 0,.int .i64 0,.int .i64 0,.int .i64 0,.slice none 0 0,.slice none 0 0,.int .i64 0,.int .i64 0] 43))
 have u1:Upd Non w W1:=by rw [←HW1.out];exact Upd.refl.alloc _
 have b1:Blk W1 w.heap.size 43 #[.string ⟨#[]⟩,.int .i64 0,.int .i64 0,.int .i64 0,.int .i64 0,.slice none 0 0,.int .i64 0,.int .i64 0,.int .i64 0,.int .i64 0,.slice none 0 0,.slice none 0 0,.int .i64 0,.int .i64 0]:=by rw [←HW1.out];exact Blk.new _ _ _
 have s1:W1.heap.size=w.heap.size+1:=by rw [←HW1.out];simp
 have e1:=HW1.out;have CK:=h_ (kRule_c W1 F A c xs (kstr [114,117,108,101]) (hx.upd u1 (fun _ _ _ f=>f)) hc hI hn);have HSM:=h_ (kRule_sm (kstr [114,117,108,101]) (by rw [kstr_size];decide) (xs.take 40));have HRI:=h_ (kRule_i (kstr [114,117,108,101]) (xs.take 40) (fun x hx=>hI x (List.mem_of_mem_take hx)));obtain ⟨r,Hr⟩:=nm (kRuleF (kstr [114,117,108,101]) (xs.take 40));rw [Hr.out] at CK HSM HRI;obtain ⟨n,Hn⟩:=nm xs.length;rw [Hn.out] at CK ⊢;have HB1:=h_ b1;have HU1:=h_ u1;have C (d:Int) (h0:0<d) (h1:d≤1000):=h_ (fun (m:Int) W=>pick_c m d W h0 (by omega));have C10:=C 10 (by omega) (by omega);have C9:=C 9 (by omega) (by omega);have C8:=C 8 (by omega) (by omega);have C6:=C 6 (by omega) (by omega);have C4:=C 4 (by omega) (by omega);have C2:=C 2 (by omega) (by omega);obtain ⟨m,hm⟩:∃m:Nat,how % 10=(m:Int):=Int.eq_ofNat_of_zero_le (by omega);have hm10:m=5:=by omega
 have CM:=h_ (C10.out how);rw [hm] at CM;clear hsel hx hc hI hn b1 u1 hm C C10;go_enter Tryz.func16,Tryz.ntmps16;go_wp2_with fail
 refine CK.out.mono ?_;rintro e w3 ⟨a,rfl,hk3,u3⟩;clear CK e1;obtain ⟨X,HX⟩:=nm (w3.alloc (.cells (rlCells r a) 43));have uX:Upd Non w3 X:=by rw [←HX.out];exact Upd.refl.alloc _
 have bX:Blk X w3.heap.size 43 (rlCells r a):=by rw [←HX.out];exact Blk.new _ _ _
 have hs3:w.heap.size<w3.heap.size:=by have:=u3.size;omega
 have HBX:=h_ bX;have HKX:Hid (RlK X (fun k=>w.heap.size<k∧k≠w3.heap.size) r a):=(hk3.mono (G:=fun k=>w.heap.size<k∧k≠w3.heap.size) (fun k hk h=>⟨by omega,by omega⟩)).upd uX (fun _ _ _ f=>f)
 have HU:=h_ ((HU1.out.then_non u3).then_non uX);have HZ0:=h_ ((HB1.out.upd u3 (fun f=>f)).upd uX (fun f=>f));have HX0:Hid (MrX w.heap.size w3.heap.size X X):=⟨r,a,HBX.out,HKX.out,⟨by have:=HSM.out.1;omega,by have:=HSM.out.2.1;omega,by have:=HSM.out.2.2.1;omega,HSM.out.2.2.2⟩,HRI.out,Upd.refl⟩
 have eX:=HX.out;unfold rlCells at eX;unfold rlv rlCells;have CMX:=h_ (CM.out X);clear hk3 u3 uX bX CM HX
 go_upto_region 2 with fail
 try rw [eX]
 clear eX;go_wp2_with fail
 refine CMX.out.mono ?_;rintro e w4 ⟨rfl,rfl⟩;clear CMX;obtain rfl:m=5:=by omega
 ·obtain ⟨k1,hk1⟩:∃k,wrap64 (how.tdiv 10) % 8=k:=⟨_,rfl⟩;obtain ⟨k2,hk2⟩:∃k,at_ % 4=k:=⟨_,rfl⟩;obtain ⟨k3,hk3⟩:∃k,wrap64 (at_.tdiv 4) % 4=k:=⟨_,rfl⟩;obtain ⟨k4,hk4⟩:∃k,wrap64 (at_.tdiv 16) % 2=k:=⟨_,rfl⟩;have hk4b:0≤k4∧k4<2:=by omega
  have P1:=h_ (C8.out (wrap64 (how.tdiv 10)));have P2:=h_ (C4.out at_);have P3:=h_ (C4.out (wrap64 (at_.tdiv 4)));have P4:=h_ (C2.out (wrap64 (at_.tdiv 16)));rw [hk1] at P1;rw [hk2] at P2;rw [hk3] at P3;rw [hk4] at P4;clear hk1 hk2 hk3 hk4;have HSR:Hid (RlSm r):=⟨by have:=HSM.out.1;omega,by have:=HSM.out.2.1;omega,by have:=HSM.out.2.2.1;omega,HSM.out.2.2.2⟩;have hcn:r.conds.length≤19:=by have:=HSM.out.2.2.1;omega
  have HOW:Hid (Own (X.alloc (.cells #[] 69)) 69 4 (some ⟨X.heap.size,0,none⟩) 0 0 []):=Own.mk_ (Blk.new _ _ _) (Nat.le_refl _) (Nat.zero_le _) rfl rfl;have uA:Upd Non X (X.alloc (.cells #[] 69)):=Upd.refl.alloc _;have HSL:=h_ (HKX.out.c.sl.upd uA (fun _ _ _ f=>f));have HUA:=h_ uA;have d11:=(HBX.out.upd uA (fun f=>f)).cell 11;unfold rlCells at d11;have hgY:w3.heap.size<X.heap.size:=HBX.out.lt;clear uA
  go_wp2_with (at_builtin;refine wpList_app rfl rfl T_conds rfl HOW.out rfl HSL.out (ccells_len _) (ccells_one _) (by simp only [maxLen];omega) (by omega) ?_)
  intro A8 c8 w8 ho8 hu8 hat8;have HO8:=h_ ho8;have HU8:Hid (Upd (fun i=>X.heap.size≤i) X w8):=((HUA.out.mono (fun _ _ f=>f.elim)).trans hu8 (fun i hi h=>by rw [At.some_] at h;omega))
  have HA8:Hid (∀i,At A8 i→X.heap.size≤i):=fun i h=>by
   rcases hat8 i h with h | h
   ·rw [At.some_] at h;omega
   ·omega
  clear ho8 hu8 hat8 d11;go_wp2_with fail
  refine (P1.out _).mono ?_;rintro e wp ⟨rfl,rfl⟩;go_wp2_with fail
  refine (P2.out _).mono ?_;rintro e wp ⟨rfl,rfl⟩;go_wp2_with fail
  refine (P3.out _).mono ?_;rintro e wp ⟨rfl,rfl⟩;go_wp2_with fail
  refine (P4.out _).mono ?_;rintro e wp ⟨rfl,rfl⟩
  go_wp2_with (at_builtin;refine wpList_app rfl rfl T_conds rfl (HO8.out.alloc _) rfl (Sl.new _ _ _) rfl (by simp [Value.oneCell']) (by simp only [maxLen];omega) (by omega) ?_)
  intro A9 c9 w9 ho9 hu9 hat9;have HU9:Hid (Upd (fun i=>X.heap.size≤i) X w9):=(HU8.out.trans (Upd.refl.alloc (S:=Non) _) (fun _ _ f=>f.elim)).trans hu9 (fun i hi h=>HA8.out i h)
  have HA9:Hid (∀i,At A9 i→X.heap.size≤i):=fun i h=>by
   rcases hat9 i h with h | h
   ·exact HA8.out i h
   ·have:=HU8.out.size;omega
  have HCD:Hid (CdO w9 A9 c9 (r.conds++[(⟨k1,k2,k3,k4⟩:Cd)])):=CdO.of rfl ho9;have hb9:=HBX.out.upd HU9.out (by omega);have d11:=hb9.cell 11;have f11:=hb9.frozen 11;unfold rlCells at d11;have HB9:=h_ hb9;clear ho9 hu9 hat9 hb9;obtain ⟨X1,HX1⟩:=nm (w9.setCell ⟨w3.heap.size,11,none⟩ (.slice A9 (r.conds.length+1) c9))
  have hXJ:MrJ w.heap.size w3.heap.size (r.conds.length+1) X X1:=by
   have ux1:Upd (fun k=>k=w3.heap.size) w9 X1:=by rw [←HX1.out];exact updCell _ _ _ _
   have uy1:Upd (fun k=>k=w3.heap.size) X X1:=(HU9.out.mono (fun i hi h=>by omega)).trans ux1 (fun _ _ h=>h);have hbx:=HB9.out.set_ 11 (.slice A9 (r.conds.length+1) c9);rw [HX1.out] at hbx;have HKY:=HKX.out.upd uy1 (fun k _ h e=>h.2 e);have hcv:=((HCD.out.upd ux1 (fun k h e=>by have:=HA9.out k h;omega)).view).mono (G:=fun k=>w.heap.size<k∧k≠w3.heap.size) (fun k _ h=>by have:=HA9.out k h;omega)
   have hle:=HCD.out.le;refine ⟨⟨r.name,r.l,r.r,r.conds++[(⟨k1,k2,k3,k4⟩:Cd)],r.vars,r.imms⟩,⟨a.la,a.lc,a.ra,a.rc,A9,c9⟩,?_,⟨HKY.l,HKY.r,hcv,hle⟩,⟨HSR.out.zl,HSR.out.zr,?_,HSR.out.zn⟩,⟨HRI.out.l,HRI.out.r,fun x hx=>?_⟩,?_,uy1⟩
   ·have el:(r.conds++[(⟨k1,k2,k3,k4⟩:Cd)]).length=r.conds.length+1:=by simp
    unfold rlCells at hbx ⊢;rw [el];simpa using hbx
   ·dsimp only;rw [List.length_append,List.length_singleton];omega
   ·rcases List.mem_append.1 hx with hx | hx
    ·exact HRI.out.c x hx
    ·rw [List.mem_singleton] at hx;subst hx;unfold I64;dsimp only;omega
   ·dsimp only;rw [List.length_append,List.length_singleton];omega
  go_upto_region 20 with fail
  rw [HX1.out]
  have hX:MrX w.heap.size w3.heap.size X X1:=by
   obtain ⟨r',a',h1,h2,h3,h4,_,h5⟩:=hXJ;exact ⟨r',a',h1,h2,h3,h4,h5⟩
  clear HX1 d11 f11 hXJ
  go_upto_region 20 with fail
  obtain ⟨r9,a9,hbx,hk9,hs9,hi9,hux⟩:=hX;have hbz:=HZ0.out.upd hux (by omega);unfold rlCells at hbx;have y0:=hbx.cell 0;have y1:=hbx.cell 1;have y2:=hbx.cell 2;have y3:=hbx.cell 3;have y4:=hbx.cell 4;have y5:=hbx.cell 5;have y6:=hbx.cell 6;have y7:=hbx.cell 7;have y8:=hbx.cell 8;have y9:=hbx.cell 9;have y10:=hbx.cell 10;have y11:=hbx.cell 11;have y12:=hbx.cell 12;have y13:=hbx.cell 13;have z0:=hbz.cell 0;have z1:=hbz.cell 1;have z2:=hbz.cell 2;have z3:=hbz.cell 3;have z4:=hbz.cell 4;have z5:=hbz.cell 5;have z6:=hbz.cell 6;have z7:=hbz.cell 7;have z8:=hbz.cell 8;have z9:=hbz.cell 9;have z10:=hbz.cell 10;have z11:=hbz.cell 11;have z12:=hbz.cell 12;have z13:=hbz.cell 13;have rf:=hbx.frozen;have zf:=hbz.frozen;have HZ:=h_ hbz;have HK9:=h_ hk9;have HS9:=h_ hs9;have HI9:=h_ hi9;have HUX:=h_ hux;clear hbz hbx hk9 hs9 hi9 hux;go_wp2_with fail
  rw [set14_eq];refine bodyPost_ret (results_cell_row rfl _ _ w.heap.size 43 _ (0,0) _ rfl (set14_blk HZ.out _ _ _ _ _ _ _ _ _ _ _ _ _ _) Tryz.underlying43 rfl (by kernel_rfl)) rfl ?_
  refine ⟨r9,a9,rfl,?_,HS9.out,HI9.out,?_⟩
  ·exact (HK9.out.upd (set14_upd _ _ _ _ _ _ _ _ _ _ _ _ _ _ _ _) (fun k _ h e=>by have:=h.1;omega)).mono (fun k _ h=>by have:=h.1;omega)
  ·exact (HU.out.trans HUX.out (fun k hk e=>by omega)).trans (set14_upd _ _ _ _ _ _ _ _ _ _ _ _ _ _ _ _) (fun k hk e=>by omega)
set_option maxRecDepth 100000 in
set_option maxHeartbeats 4000000 in
theorem l17Mutate_4 (w:World) (F:Nat→Prop) (A:Option Addr) (c:Nat) (xs:List Int) (how at_:Int) (hx:Ints w F A xs) (hc:xs.length≤c) (hI:∀x∈xs,I64 x) (hn:xs.length≤100000000000000) (hsel:how % 10=6):Calls Tryz.prog 16 #[.slice A xs.length c,.int .i64 how,.int .i64 at_] w (MrP w):=by
 obtain ⟨W1,HW1⟩:=nm (w.alloc (.cells #[.string ⟨#[]⟩,.int .i64 0,.int .i64 0,.int .i64 0,.int .i64 0,.slice none 0 0,.int .i64 0,.int .i64 0,.int .i64 0,.int .i64 0,.slice none 0 0,.slice none 0 0,.int .i64 0,.int .i64 0] 43))
 have u1:Upd Non w W1:=by rw [←HW1.out];exact Upd.refl.alloc _
 have b1:Blk W1 w.heap.size 43 #[.string ⟨#[]⟩,.int .i64 0,.int .i64 0,.int .i64 0,.int .i64 0,.slice none 0 0,.int .i64 0,.int .i64 0,.int .i64 0,.int .i64 0,.slice none 0 0,.slice none 0 0,.int .i64 0,.int .i64 0]:=by rw [←HW1.out];exact Blk.new _ _ _
 have s1:W1.heap.size=w.heap.size+1:=by rw [←HW1.out];simp
 have e1:=HW1.out;have CK:=h_ (kRule_c W1 F A c xs (kstr [114,117,108,101]) (hx.upd u1 (fun _ _ _ f=>f)) hc hI hn);have HSM:=h_ (kRule_sm (kstr [114,117,108,101]) (by rw [kstr_size];decide) (xs.take 40));have HRI:=h_ (kRule_i (kstr [114,117,108,101]) (xs.take 40) (fun x hx=>hI x (List.mem_of_mem_take hx)));obtain ⟨r,Hr⟩:=nm (kRuleF (kstr [114,117,108,101]) (xs.take 40));rw [Hr.out] at CK HSM HRI;obtain ⟨n,Hn⟩:=nm xs.length;rw [Hn.out] at CK ⊢;have HB1:=h_ b1;have HU1:=h_ u1;have C (d:Int) (h0:0<d) (h1:d≤1000):=h_ (fun (m:Int) W=>pick_c m d W h0 (by omega));have C10:=C 10 (by omega) (by omega);have C9:=C 9 (by omega) (by omega);have C8:=C 8 (by omega) (by omega);have C6:=C 6 (by omega) (by omega);have C4:=C 4 (by omega) (by omega);have C2:=C 2 (by omega) (by omega);obtain ⟨m,hm⟩:∃m:Nat,how % 10=(m:Int):=Int.eq_ofNat_of_zero_le (by omega);have hm10:m=6:=by omega
 have CM:=h_ (C10.out how);rw [hm] at CM;clear hsel hx hc hI hn b1 u1 hm C C10;go_enter Tryz.func16,Tryz.ntmps16;go_wp2_with fail
 refine CK.out.mono ?_;rintro e w3 ⟨a,rfl,hk3,u3⟩;clear CK e1;obtain ⟨X,HX⟩:=nm (w3.alloc (.cells (rlCells r a) 43));have uX:Upd Non w3 X:=by rw [←HX.out];exact Upd.refl.alloc _
 have bX:Blk X w3.heap.size 43 (rlCells r a):=by rw [←HX.out];exact Blk.new _ _ _
 have hs3:w.heap.size<w3.heap.size:=by have:=u3.size;omega
 have HBX:=h_ bX;have HKX:Hid (RlK X (fun k=>w.heap.size<k∧k≠w3.heap.size) r a):=(hk3.mono (G:=fun k=>w.heap.size<k∧k≠w3.heap.size) (fun k hk h=>⟨by omega,by omega⟩)).upd uX (fun _ _ _ f=>f)
 have HU:=h_ ((HU1.out.then_non u3).then_non uX);have HZ0:=h_ ((HB1.out.upd u3 (fun f=>f)).upd uX (fun f=>f));have HX0:Hid (MrX w.heap.size w3.heap.size X X):=⟨r,a,HBX.out,HKX.out,⟨by have:=HSM.out.1;omega,by have:=HSM.out.2.1;omega,by have:=HSM.out.2.2.1;omega,HSM.out.2.2.2⟩,HRI.out,Upd.refl⟩
 have eX:=HX.out;unfold rlCells at eX;unfold rlv rlCells;have CMX:=h_ (CM.out X);clear hk3 u3 uX bX CM HX
 go_upto_region 2 with fail
 try rw [eX]
 clear eX;go_wp2_with fail
 refine CMX.out.mono ?_;rintro e w4 ⟨rfl,rfl⟩;clear CMX;obtain rfl:m=6:=by omega
 ·obtain ⟨y,hy⟩:∃y:Nat,wrap64 (how.tdiv 10) % 9=(y:Int):=Int.eq_ofNat_of_zero_le (Int.emod_nonneg _ (by decide));have hy9:y<9:=by omega
  have CX:=h_ (C9.out (wrap64 (how.tdiv 10)));rw [hy] at CX;clear hy;go_wp2_with fail
  go_loopg [8] y (fun g iv wr=>∃j:Nat,Hid (g=y - j)∧j≤y∧iv=.int .i64 j∧Hid (MrJ w.heap.size w3.heap.size (1+j) X wr))
  case atStart=>exact ⟨0,rfl,Nat.zero_le _,rfl,r,a,HBX.out,HKX.out,⟨by have:=HSM.out.1;omega,by have:=HSM.out.2.1;omega,by have:=HSM.out.2.2.1;omega,HSM.out.2.2.2⟩,HRI.out,HSM.out.2.2.1,Upd.refl⟩
  case round =>
   obtain ⟨j,Hg,hj,rfl,HJ⟩:=hrel;go_wp2_with fail
   refine (CX.out _).mono ?_;rintro e w5 ⟨rfl,rfl⟩;by_cases hlt:j<y
   ·have tj:decide (j<y)=true:=dT_ hlt;obtain ⟨r',a',hb',hk',hs',hi',hn',hu'⟩:=HJ.out;have HB':=h_ hb';have HK':=h_ hk';have HS':=h_ hs';have HI':=h_ hi';have HU':=h_ hu';clear hb' hk' hs' hi' hu';have hcn:r'.conds.length≤19:=by omega
    have HOW:Hid (Own (wr.alloc (.cells #[] 69)) 69 4 (some ⟨wr.heap.size,0,none⟩) 0 0 []):=Own.mk_ (Blk.new _ _ _) (Nat.le_refl _) (Nat.zero_le _) rfl rfl
    have uA:Upd Non wr (wr.alloc (.cells #[] 69)):=Upd.refl.alloc _;have HSL:=h_ (HK'.out.c.sl.upd uA (fun _ _ _ f=>f));have HUA:=h_ uA;have d11:=(HB'.out.upd uA (fun f=>f)).cell 11;unfold rlCells at d11;have hgY:w3.heap.size<wr.heap.size:=HB'.out.lt;clear uA
    go_wp2_with (at_builtin;refine wpList_app rfl rfl T_conds rfl HOW.out rfl HSL.out (ccells_len _) (ccells_one _) (by simp only [maxLen];omega) (by omega) ?_)
    intro A8 c8 w8 ho8 hu8 hat8;have HO8:=h_ ho8;have HU8:Hid (Upd (fun i=>wr.heap.size≤i) wr w8):=((HUA.out.mono (fun _ _ f=>f.elim)).trans hu8 (fun i hi h=>by rw [At.some_] at h;omega))
    have HA8:Hid (∀i,At A8 i→wr.heap.size≤i):=fun i h=>by
     rcases hat8 i h with h | h
     ·rw [At.some_] at h;omega
     ·omega
    clear ho8 hu8 hat8 d11
    go_wp2_with (at_builtin;refine wpList_app rfl rfl T_conds rfl (HO8.out.alloc _) rfl (Sl.new _ _ _) rfl (by simp [Value.oneCell']) (by simp only [maxLen];omega) (by omega) ?_)
    intro A9 c9 w9 ho9 hu9 hat9;have HU9:Hid (Upd (fun i=>wr.heap.size≤i) wr w9):=(HU8.out.trans (Upd.refl.alloc (S:=Non) _) (fun _ _ f=>f.elim)).trans hu9 (fun i hi h=>HA8.out i h)
    have HA9:Hid (∀i,At A9 i→wr.heap.size≤i):=fun i h=>by
     rcases hat9 i h with h | h
     ·exact HA8.out i h
     ·have:=HU8.out.size;omega
    have HCD:Hid (CdO w9 A9 c9 (r'.conds++[(⟨1,1,0,0⟩:Cd)])):=CdO.of rfl ho9;have hb9:=HB'.out.upd HU9.out (by omega);have d11:=hb9.cell 11;have f11:=hb9.frozen 11;unfold rlCells at d11;have HB9:=h_ hb9;clear ho9 hu9 hat9 hb9;obtain ⟨X1,HX1⟩:=nm (w9.setCell ⟨w3.heap.size,11,none⟩ (.slice A9 (r'.conds.length+1) c9))
    have hXJ:MrJ w.heap.size w3.heap.size (r'.conds.length+1) X X1:=by
     have ux1:Upd (fun k=>k=w3.heap.size) w9 X1:=by rw [←HX1.out];exact updCell _ _ _ _
     have uy1:Upd (fun k=>k=w3.heap.size) wr X1:=(HU9.out.mono (fun i hi h=>by omega)).trans ux1 (fun _ _ h=>h);have hbx:=HB9.out.set_ 11 (.slice A9 (r'.conds.length+1) c9);rw [HX1.out] at hbx;have HKY:=HK'.out.upd uy1 (fun k _ h e=>h.2 e);have hcv:=((HCD.out.upd ux1 (fun k h e=>by have:=HA9.out k h;omega)).view).mono (G:=fun k=>w.heap.size<k∧k≠w3.heap.size) (fun k _ h=>by have:=HA9.out k h;omega)
     have hle:=HCD.out.le;refine ⟨⟨r'.name,r'.l,r'.r,r'.conds++[(⟨1,1,0,0⟩:Cd)],r'.vars,r'.imms⟩,⟨a'.la,a'.lc,a'.ra,a'.rc,A9,c9⟩,?_,⟨HKY.l,HKY.r,hcv,hle⟩,⟨HS'.out.zl,HS'.out.zr,?_,HS'.out.zn⟩,⟨HI'.out.l,HI'.out.r,fun x hx=>?_⟩,?_,HU'.out.trans uy1 (fun _ _ h=>h)⟩
     ·have el:(r'.conds++[(⟨1,1,0,0⟩:Cd)]).length=r'.conds.length+1:=by simp
      unfold rlCells at hbx ⊢;rw [el];simpa using hbx
     ·dsimp only;rw [List.length_append,List.length_singleton];omega
     ·rcases List.mem_append.1 hx with hx | hx
      ·exact HI'.out.c x hx
      ·rw [List.mem_singleton] at hx;subst hx;unfold I64;dsimp only;omega
     ·dsimp only;rw [List.length_append,List.length_singleton];omega
    go_wp2_with fail
    rw [HX1.out]
    go_roundg (y - (j+1))
    case measure=>rw [Hg.out];omega
    case rel =>
     refine ⟨j+1,rfl,by omega,by go_num,?_⟩;obtain ⟨r2,a2,g1,g2,g3,g4,g5,g6⟩:=hXJ;exact ⟨r2,a2,g1,g2,g3,g4,by omega,g6⟩
   ·obtain rfl:y=j:=by omega
    have tj:decide (y<y)=false:=by simp
    have hX:MrX w.heap.size w3.heap.size X wr:=by
     obtain ⟨r',a',h1,h2,h3,h4,_,h5⟩:=HJ.out;exact ⟨r',a',h1,h2,h3,h4,h5⟩
    obtain ⟨X1,HX1⟩:=nm wr;rw [HX1.out] at hX
    go_upto_region 20 with fail
    rw [HX1.out];clear HX1
    go_upto_region 20 with fail
    obtain ⟨r9,a9,hbx,hk9,hs9,hi9,hux⟩:=hX;have hbz:=HZ0.out.upd hux (by omega);unfold rlCells at hbx;have y0:=hbx.cell 0;have y1:=hbx.cell 1;have y2:=hbx.cell 2;have y3:=hbx.cell 3;have y4:=hbx.cell 4;have y5:=hbx.cell 5;have y6:=hbx.cell 6;have y7:=hbx.cell 7;have y8:=hbx.cell 8;have y9:=hbx.cell 9;have y10:=hbx.cell 10;have y11:=hbx.cell 11;have y12:=hbx.cell 12;have y13:=hbx.cell 13;have z0:=hbz.cell 0;have z1:=hbz.cell 1;have z2:=hbz.cell 2;have z3:=hbz.cell 3;have z4:=hbz.cell 4;have z5:=hbz.cell 5;have z6:=hbz.cell 6;have z7:=hbz.cell 7;have z8:=hbz.cell 8;have z9:=hbz.cell 9;have z10:=hbz.cell 10;have z11:=hbz.cell 11;have z12:=hbz.cell 12;have z13:=hbz.cell 13;have rf:=hbx.frozen;have zf:=hbz.frozen;have HZ:=h_ hbz;have HK9:=h_ hk9;have HS9:=h_ hs9;have HI9:=h_ hi9;have HUX:=h_ hux;clear hbz hbx hk9 hs9 hi9 hux;go_wp2_with fail
    rw [set14_eq];refine bodyPost_ret (results_cell_row rfl _ _ w.heap.size 43 _ (0,0) _ rfl (set14_blk HZ.out _ _ _ _ _ _ _ _ _ _ _ _ _ _) Tryz.underlying43 rfl (by kernel_rfl)) rfl ?_
    refine ⟨r9,a9,rfl,?_,HS9.out,HI9.out,?_⟩
    ·exact (HK9.out.upd (set14_upd _ _ _ _ _ _ _ _ _ _ _ _ _ _ _ _) (fun k _ h e=>by have:=h.1;omega)).mono (fun k _ h=>by have:=h.1;omega)
    ·exact (HU.out.trans HUX.out (fun k hk e=>by omega)).trans (set14_upd _ _ _ _ _ _ _ _ _ _ _ _ _ _ _ _) (fun k hk e=>by omega)
end Go.Proofs.YtblkgjdhaibhgaaGreat
